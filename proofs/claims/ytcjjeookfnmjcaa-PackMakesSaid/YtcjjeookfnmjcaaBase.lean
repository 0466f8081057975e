import Derived.Test.YtcjjeookfnmjcaaSpec
import Derived.Test.YtcjjeookfnmjcaaRows
import Derived.WalkSpells
import Derived.WalkLawsBesides
import Derived.Lib.Hide
import Derived.Outline
import Derived.Lib.BufferWrite
import Derived.Laws.CopyOwn
import Derived.Deep.RegionHeld3
namespace Go.Proofs.Ytcjjeookfnmjcaa
open Go.RowKit Go.Proofs.YtcjjeookfnmjcaaW.PrintWords
set_option linter.unusedVariables false

set_option maxHeartbeats 400000 in
theorem bytes_any (b off n c : Nat) (hc : n ≤ c) (hm : c ≤ 9223372036854775807) (w : World) :
    Calls Try.prog 37 #[.slice (some ⟨b, off, none⟩) n c] w fun e w' => e = .returned (.slice (some ⟨b, off, none⟩) n n) ∧ w = w' := by
  go_enter Try.func37, Try.ntmps37
  go_wp2
  go_ret
  exact ⟨rfl, rfl⟩

set_option maxHeartbeats 400000 in
theorem head_any (n : Nat) (hn : n ≤ 65535) (w : World) :
    Calls Try.prog 28 #[.int .i64 n] w fun e w' => e = .returned (.slice (some ⟨w.heap.size, 0, none⟩) 2 2) ∧ w.alloc (.cells #[.int .u8 ((n : Int) / 256), .int .u8 ((n : Int) % 256)] 5) = w' := by
  go_enter Try.func28, Try.ntmps28
  go_wp2_with fail
  refine (bytes_any _ 0 2 2 (by omega) (by omega) _).mono ?_
  rintro e w' ⟨rfl, rfl⟩
  go_wp2
  go_ret
  exact ⟨rfl, rfl⟩

/-! ### A row of bytes, whole -/
def Row (w : World) (g : Nat) (zs : List Int) : Prop := w.heap[g]? = some (.cells (nums .u8 zs).toArray 5 (0, 0))
theorem Row.lt {w : World} {g : Nat} {zs : List Int} (h : Row w g zs) : g < w.heap.size := (Array.getElem?_eq_some_iff.1 h).1
theorem Row.cell {w : World} {g : Nat} {zs : List Int} (h : Row w g zs) (j : Nat) (hj : j < zs.length) : w.cell? ⟨g, j, none⟩ = some (.int .u8 (zs[j]?.getD 0)) := by
  simp [World.cell?, show w.heap[g]? = _ from h, nums, List.getElem?_eq_getElem hj]
theorem Row.frozen {w : World} {g : Nat} {zs : List Int} (h : Row w g zs) (j : Nat) : w.frozen? ⟨g, j, none⟩ = false := by simp [World.frozen?, show w.heap[g]? = _ from h]
theorem Row.set {w : World} {g : Nat} {zs : List Int} (h : Row w g zs) (j : Nat) (v : Int) : Row (w.setCell ⟨g, j, none⟩ (.int .u8 v)) g (zs.set j v) := by
  obtain ⟨hlt, hk⟩ := Array.getElem?_eq_some_iff.1 h
  show (w.heap.modify g _)[g]? = _
  rw [Array.getElem?_eq_getElem (by rw [Array.size_modify]; exact hlt), Array.getElem_modify_self, hk]
  simp [nums, List.map_set]
theorem Row.drew {w : World} {g : Nat} {zs : List Int} (h : Row w g zs) : Row w.drew g zs := h
theorem Row.later {w w' : World} {g : Nat} {zs : List Int} (h : Row w g zs) (hb : Below w.heap.size w w') : Row w' g zs := (hb.block g h.lt).trans h
theorem Row.alloc {w : World} {g : Nat} {zs : List Int} (h : Row w g zs) (o : Obj) : Row (w.alloc o) g zs := (Below.heap_alloc w o g h.lt).trans h

theorem info5 : (Try.prog.info? 5).map (fun i => (i.zero, i.size, i.bytes)) = some (some (.int .u8 0), 1, 1) := by kernel_rfl

/-- A new row of bytes is handed back; nothing that lay has turned. -/
def NewRow (n : Nat) (zs : List Int) (w : World) (e : Ending) (w' : World) : Prop :=
  ∃ g, e = .returned (.slice (some ⟨g, 0, none⟩) n n) ∧ Row w' g zs ∧ w.heap.size ≤ g ∧ Below w.heap.size w w'

theorem Row.of_cells {w : World} {g : Nat} {zs : List Int} {l : List Value} (h : w.heap[g]? = some (.cells l.toArray 5 (0, 0))) (hl : l = nums .u8 zs) : Row w g zs := by rw [hl] at h; exact h

theorem row_of_owns {w : World} {base g n : Nat} {zs : List Int} (h : w.ownsRow base 5 1 (.slice (some ⟨g, 0, none⟩) n n) n (nums .u8 zs)) : Row w g zs := by
  rcases h.2 with ⟨h, _⟩ | ⟨g', cap, cur, hv, _, hh, _, _, hs, ht⟩
  · cases h
  · cases hv
    have : cur.toList = nums .u8 zs := by
      rw [← ht, List.take_of_length_le (by rw [Array.length_toList]; omega)]
    exact Row.of_cells (l := cur.toList) (by simpa using hh) this

theorem zeros_cells (n : Nat) : (madeCells (Value.int .u8 0).cells (n * 1)).toList = nums .u8 (List.replicate n 0) := by
  refine List.ext_getElem (by simp [madeCells, nums]) (fun i h1 h2 => ?_)
  simp only [madeCells, nums, List.map_replicate, List.getElem_replicate, Array.getElem_toList, Array.getElem_map, Array.getElem_range]
  simp [Value.cells, Nat.mod_one]

theorem nums_bytesOf (s : ByteArray) : Lib.byteCells s.data.toList = nums .u8 (bytesOf s) := by simp [Lib.byteCells, nums, bytesOf]

/-- copy out of a string into a row of bytes, as one step of a region. -/
theorem step_copy_string {P : Program} {ops : Array Oper} {o : Oper} {a : Act} {w : World} {K : Act → World → Prop} {Q : Exit → Act → World → Prop} {E : Prop} (hgd : o.guard = none) (d s : Operand) (dT sT : TypeId)
    (ho : o.op = .call { callee := .builtin .copy, args := #[d, s], argTypes := #[dT, sT] }) (elem : TypeId) (hu : P.underlying dT = some (.slice elem)) (hsz : (P.info? elem).map (·.size) = some 1)
    (g off dLen dCap : Nat) (str : ByteArray) (hd : a.eval d = .slice (some ⟨g, off, none⟩) dLen dCap) (hs : a.eval s = .string str)
    (zs : List Int) (hr : Row w g zs) (hle : str.size ≤ dLen) (hfit : off + str.size ≤ zs.length) (B : Nat) (w0 : World) (hb : Below B w0 w) (hBg : B ≤ g)
    (h : ∀ w', Row w' g (zs.take off ++ bytesOf str ++ zs.drop (off + str.size)) → Below B w0 w' → K (a.put o.dst (goInt str.size)) w') :
    if Region.wanted o (yielded ops a.tmps) = true then Oper.wp P o a w K Q else E := by
  have hw : Region.wanted o (yielded ops a.tmps) = true := by simp [Region.wanted, hgd]
  rw [if_pos hw]
  have hrun := Lib.run_copy_row_string (P := P) w dT sT o.type elem g off dLen dCap str _ 5 hu hsz hr hle (by simpa [nums] using hfit)
  unfold Oper.wp
  simp [execOp, ho, resolve, invoke, builtin, hd, hs, hrun, Result.andThen]
  refine h _ ?_ (below_setRow hb hBg _)
  refine Row.of_cells (l := _) (setRow_heap w g _ _ 5 _ hr) ?_
  rw [nums_bytesOf]
  simp [nums, List.map_take, List.map_drop]

theorem run_slice_tail (g n : Nat) (wx : World) : (Instr.slice 48 (.slice (some ⟨g, 0, none⟩) (n + 10) (n + 10)) (some (.int .i64 1)) none none).run Try.prog wx = .ok (.slice (some ⟨g, 1, none⟩) (n + 9) (n + 9)) wx := by
  rw [run_slice_l wx 48 (some ⟨g, 0, none⟩) (n + 10) (n + 10) Try.underlying48 .i64 1 (by omega) (by omega)]
  have h5 : Try.prog.elem 48 = 5 := by kernel_rfl
  rw [h5]
  have hsz : (sizeOf 5).run Try.prog wx = .ok 1 wx := by
    obtain ⟨i0, hi, hz0, hz1, hz2⟩ := info_parts info5
    simp [sizeOf, typeInfo, hi, hz1, Sem.run_bind, Result.andThen]
  rw [hsz]
  simp [Result.andThen, sliced, Addr.add]

/-- An entry's bytes, as far as k bytes of its score are laid. -/
def entUpto (m : ByteArray) (s : Int) (k : Nat) : List Int := (m.size : Int) :: (bytesOf m ++ ((be8 s).take k ++ List.replicate (9 - k) 0))
theorem entUpto_length (m : ByteArray) (s : Int) (k : Nat) (hk : k ≤ 8) : (entUpto m s k).length = m.size + 10 := by
  simp [entUpto, bytesOf_length, be8_length]; omega

theorem set_fill (A : List Int) (v : Int) (j : Nat) (B : List Int) : (A ++ (List.replicate (j + 1) 0 ++ B)).set A.length v = (A ++ [v]) ++ (List.replicate j 0 ++ B) := by
  rw [List.set_append_right _ _ (Nat.le_refl _)]
  simp [List.replicate_succ]

theorem wrap_dig (s : Int) (k : Nat) (hk : k < 8) : IntKind.u64.wrap s / 2 ^ (8 * (7 - k)) % 256 = dig s (7 - k) := by
  have hw : IntKind.u64.wrap s = s % 18446744073709551616 := by simp [IntKind.wrap, IntKind.signed, IntKind.bits]
  rw [hw]
  match k, hk with
  | 0, _ => simp [dig]; try omega
  | 1, _ => simp [dig]; omega
  | 2, _ => simp [dig]; omega
  | 3, _ => simp [dig]; omega
  | 4, _ => simp [dig]; omega
  | 5, _ => simp [dig]; omega
  | 6, _ => simp [dig]; omega
  | 7, _ => simp [dig]; try omega
theorem be8_take (s : Int) (k : Nat) (hk : k < 8) : (be8 s).take (k + 1) = (be8 s).take k ++ [dig s (7 - k)] := by
  match k, hk with
  | 0, _ => rfl
  | 1, _ => rfl
  | 2, _ => rfl
  | 3, _ => rfl
  | 4, _ => rfl
  | 5, _ => rfl
  | 6, _ => rfl
  | 7, _ => rfl
theorem entUpto_set (m : ByteArray) (s : Int) (k : Nat) (hk : k < 8) : (entUpto m s k).set (1 + m.size + k) (dig s (7 - k)) = entUpto m s (k + 1) := by
  have e1 : entUpto m s k = ((m.size : Int) :: bytesOf m ++ (be8 s).take k) ++ (List.replicate (8 - k + 1) 0 ++ []) := by
    simp [entUpto, show 9 - k = 8 - k + 1 by omega]
  have e2 : 1 + m.size + k = ((m.size : Int) :: bytesOf m ++ (be8 s).take k).length := by
    simp [bytesOf_length, be8_length]; omega
  rw [e1, e2, set_fill]
  simp [entUpto, be8_take s k hk, show 9 - (k + 1) = 8 - k by omega]
theorem entUpto_last (m : ByteArray) (s : Int) : (entUpto m s 8).set (m.size + 9) ((m.size : Int) + 9) = entB (m, s) := by
  have e1 : entUpto m s 8 = ((m.size : Int) :: bytesOf m ++ be8 s) ++ (List.replicate (0 + 1) 0 ++ []) := by
    simp [entUpto, be8]
  have e2 : m.size + 9 = ((m.size : Int) :: bytesOf m ++ be8 s).length := by
    simp [bytesOf_length, be8_length]
  rw [e1, e2, set_fill]
  simp [entB]

set_option maxHeartbeats 1000000 in
theorem entry_any (m : ByteArray) (s : Int) (hm : m.size ≤ 64) (w : World) :
    Calls Try.prog 29 #[.agg #[.string m, .int .i64 s]] w (NewRow (m.size + 10) (entB (m, s)) w) := by
  obtain ⟨i0, hi, hz0, hz1, hz2⟩ := info_parts info5
  have hsz : (Try.prog.info? 5).map (·.size) = some 1 := by rw [hi]; simp [hz1]
  have HB := Lib.hid ((Below.refl w.heap.size w).alloc (Nat.le_refl _) (.cells #[.string m, .int .i64 s] 35))
  go_enter Try.func29, Try.ntmps29
  go_wp2_with (at_make; refine wpList_make_full _ rfl _ _ 48 rfl (w.heap.size + 1) 5 i0 (.int .u8 0) 1 Try.underlying48 hi hz0 hz1 .i64 .i64 _ _ (m.size + 10) rfl rfl (by omega) (by omega) (by rw [hz2]; omega) (by unfold maxLen; omega) (by simp) ?_; intro w1 hown hgrow; rw [zeros_cells, World.size_alloc] at hown; have hr1 := Lib.hid (row_of_owns hown); have hB1 := Lib.hid (HB.out.grown hgrow (by simp) (fun k e => by cases e)); have hc1 := hr1.out.cell 0 (by simp); have hf1 := hr1.out.frozen 0; have he0 : w1.cell? ⟨w.heap.size, 0, none⟩ = some (.string m) := hgrow.cell (by simp) (by simp); have he1 : w1.cell? ⟨w.heap.size, 1, none⟩ = some (.int .i64 s) := hgrow.cell (by simp) (by simp); have hz1 : w.heap.size + 2 ≤ w1.heap.size := (by have := hr1.out.lt; omega); clear hown hgrow)
  have hr2 : Row (w1.setCell ⟨w.heap.size + 1, 0, none⟩ (.int .u8 (m.size : Int))) (w.heap.size + 1) ((m.size : Int) :: List.replicate (m.size + 9) 0) := by
    have := hr1.out.set 0 (m.size : Int)
    simpa [List.replicate_succ] using this
  have he02 : (w1.setCell ⟨w.heap.size + 1, 0, none⟩ (.int .u8 (m.size : Int))).cell? ⟨w.heap.size, 0, none⟩ = some (.string m) := by
    rw [World.cell?_of_block (w := w1) (Below.heap_setCell _ _ _ _ (show w.heap.size ≠ w.heap.size + 1 by omega))]; exact he0
  have he12 : (w1.setCell ⟨w.heap.size + 1, 0, none⟩ (.int .u8 (m.size : Int))).cell? ⟨w.heap.size, 1, none⟩ = some (.int .i64 s) := by
    rw [World.cell?_of_block (w := w1) (Below.heap_setCell _ _ _ _ (show w.heap.size ≠ w.heap.size + 1 by omega))]; exact he1
  have hB2 := Lib.hid (hB1.out.setCell (p := ⟨w.heap.size + 1, 0, none⟩) (Nat.le_add_right _ _) (.int .u8 (m.size : Int)))
  clear hr1 hB1 hc1 hf1 he0 he1
  generalize w1.setCell ⟨w.heap.size + 1, 0, none⟩ (.int .u8 (m.size : Int)) = w2 at *
  have HR2 := Lib.hid hr2
  clear hr2
  have hsl := fun wx => run_slice_tail (w.heap.size + 1) m.size wx
  go_region_law (refine step_copy_string rfl _ _ 48 9 rfl 5 Try.underlying48 hsz (w.heap.size + 1) 1 (m.size + 9) (m.size + 9) m rfl rfl _ HR2.out.drew (by omega) (by simp; omega) (w.heap.size + 1) w2 (Below.refl _ _).drew (Nat.le_refl _) ?_; intro w3 hr3 hB3)
  have hr4 : Row w3 (w.heap.size + 1) (entUpto m s 0) := by
    have e : ((m.size : Int) :: List.replicate (m.size + 9) 0).take 1 ++ bytesOf m ++ ((m.size : Int) :: List.replicate (m.size + 9) 0).drop (1 + m.size) = entUpto m s 0 := by
      simp [entUpto, Nat.add_comm 1 m.size]
    rw [e] at hr3; exact hr3
  have he03 := (hB3.cell (p := ⟨w.heap.size, 0, none⟩) (show w.heap.size < w.heap.size + 1 by omega)).trans he02
  have he13 := (hB3.cell (p := ⟨w.heap.size, 1, none⟩) (show w.heap.size < w.heap.size + 1 by omega)).trans he12
  have hB4 := Lib.hid (hB2.out.trans (hB3.mono (Nat.le_add_right _ 1)))
  have HR4 := Lib.hid hr4
  clear hr3 hr4 he02 he12 hB3 hB2 HR2 hsl
  go_wp2_with fail
  go_loopw [5, 22] (fun _ i wr => ∃ k : Nat, k ≤ 8 ∧ i = .int .i64 k ∧ Row wr (w.heap.size + 1) (entUpto m s k) ∧ Below (w.heap.size + 1) w3 wr) (fun _ i _ => 8 - (intOf i).toNat)
  case atStart => exact ⟨0, by omega, rfl, HR4.out, Below.refl _ _⟩
  case round =>
    obtain ⟨k, hk, rfl, hr, hb⟩ := hrel
    have HR := Lib.hid hr
    have he1 := (hb.cell (p := ⟨w.heap.size, 1, none⟩) (show w.heap.size < w.heap.size + 1 by omega)).trans he13
    have hzr := hb.size
    clear hr
    by_cases hlt : k < 8
    · have hlen := entUpto_length m s k hk
      have hcl := HR.out.cell (1 + m.size + k) (by rw [hlen]; omega)
      have hfl := HR.out.frozen (1 + m.size + k)
      have HD := Lib.hid (wrap_dig s k hlt)
      clear hlen
      go_wp2
      go_roundw
      case rel =>
        refine ⟨k + 1, by omega, by go_num, ?_, hb.setCell (p := ⟨w.heap.size + 1, 1 + m.size + k, none⟩) (Nat.le_refl _) _⟩
        have := HR.out.set (1 + m.size + k) (dig s (7 - k))
        rw [entUpto_set m s k hlt] at this
        rw [HD.out]; exact this
      case measure => simp [intOf]; omega
    · obtain rfl : k = 8 := by omega
      have hlen := entUpto_length m s 8 hk
      have hcl := HR.out.cell (m.size + 9) (by rw [hlen]; omega)
      have hfl := HR.out.frozen (m.size + 9)
      clear hlen
      go_wp2
      go_ret
      refine ⟨w.heap.size + 1, rfl, ?_, Nat.le_add_right _ _, (hB4.out.trans (hb.mono (Nat.le_add_right _ _))).setCell (p := ⟨w.heap.size + 1, m.size + 9, none⟩) (Nat.le_add_right _ _) _⟩
      have := HR.out.set (m.size + 9) ((m.size : Int) + 9)
      rw [entUpto_last] at this
      rw [Int.add_comm 9]; exact this

end Go.Proofs.Ytcjjeookfnmjcaa
