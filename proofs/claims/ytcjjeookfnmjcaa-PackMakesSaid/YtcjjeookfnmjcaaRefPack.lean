import Derived.Test.YtcjjeookfnmjcaaScore
namespace Go.Proofs.Ytcjjeookfnmjcaa
open Go.RowKit Go.Proofs.YtcjjeookfnmjcaaW.PrintWords
set_option linter.unusedVariables false

/-- What holds amid a drawn region: whatever slot it does not write is as in a0; R of the world; of each operation that has come up, what its slot holds; till jl comes up, its slot is as in a0. -/
structure RH (n : Nat) (dst : Nat → Nat) (a0 : Act) (V : Nat → World → Value → Prop) (R : World → Prop) (jl : Nat) (listed : Array Bool) (a : Act) (w : World) : Prop where
  defers : a.defers = []
  size : a.tmps.size = a0.tmps.size
  len : listed.size = n
  fix : ∀ s, (∀ i, i < n → dst i ≠ s) → a.tmps.getD s undef = a0.tmps.getD s undef
  rel : R w
  ok : ∀ j, listed.getD j false = true → V j w (a.tmps.getD (dst j) undef)
  late : listed.getD jl false = false → a.tmps.getD (dst jl) undef = a0.tmps.getD (dst jl) undef

theorem RH.put {n : Nat} {dst : Nat → Nat} {a0 : Act} {V : Nat → World → Value → Prop} {R : World → Prop} {jl : Nat} {listed : Array Bool} {a : Act} {w w' : World} (h : RH n dst a0 V R jl listed a w)
    (hV : ∀ j w w' v, V j w v → Below w.heap.size w w' → V j w' v) (hd : ∀ i j, i < n → j < n → dst i = dst j → i = j) (hN : ∀ i, i < n → dst i < a0.tmps.size) (hjl : jl < n)
    {i : Nat} (hi : i < n) {v : Value} (hv : V i w' v) (hb : Below w.heap.size w w') (hR : R w') : RH n dst a0 V R jl (listed.setIfInBounds i true) (a.put (some (dst i)) v) w' := by
  have hne : ∀ k, dst i ≠ k → (a.put (some (dst i)) v).tmps.getD k undef = a.tmps.getD k undef := fun k hk => by
    simp [Act.put, Array.getD_eq_getD_getElem?, Array.getElem?_setIfInBounds_ne hk]
  have hil : i < listed.size := by rw [h.len]; exact hi
  refine ⟨?_, ?_, ?_, ?_, hR, ?_, ?_⟩
  · simpa [Act.put] using h.defers
  · simpa [Act.put] using h.size
  · simpa using h.len
  · intro s hs
    rw [hne _ (hs i hi)]; exact h.fix s hs
  · intro j hj
    by_cases hji : i = j
    · subst hji
      have : (a.put (some (dst i)) v).tmps.getD (dst i) undef = v := by
        have hlt : dst i < a.tmps.size := by rw [h.size]; exact hN i hi
        simp [Act.put, Array.getD_eq_getD_getElem?, hlt]
      rw [this]; exact hv
    · rw [getD_set_ne false hji] at hj
      have hjn : j < n := by
        rcases Nat.lt_or_ge j listed.size with h' | h'
        · rw [← h.len]; exact h'
        · simp [Array.getD_eq_getD_getElem?, Array.getElem?_eq_none h'] at hj
      rw [hne _ (fun e => hji (hd i j hi hjn e))]
      exact hV j _ _ _ (h.ok j hj) hb
  · intro hl
    by_cases hij : i = jl
    · subst hij
      simp [Array.getD_eq_getD_getElem?, hil] at hl
    · rw [getD_set_ne false hij] at hl
      rw [hne _ (fun e => hij (hd i jl hi hjl e))]; exact h.late hl

theorem put_get (a : Act) (s k : Nat) (v : Value) (hs : s < a.tmps.size) : (a.put (some s) v).tmps.getD k undef = if k = s then v else a.tmps.getD k undef := by
  by_cases h : k = s
  · subst h; simp [Act.put, Array.getD_eq_getD_getElem?, hs]
  · rw [if_neg h]
    have hk : s ≠ k := fun e => h e.symm
    simp [Act.put, Array.getD_eq_getD_getElem?, Array.getElem?_setIfInBounds_ne hk]
theorem fold_get (f : Nat → Value) : ∀ (L : List Nat) (a0 : Act) (k : Nat), (∀ s, s ∈ L → s < a0.tmps.size) → (L.foldl (fun a s => a.put (some s) (f s)) a0).tmps.getD k undef = (if k ∈ L then f k else a0.tmps.getD k undef) ∧ (L.foldl (fun a s => a.put (some s) (f s)) a0).tmps.size = a0.tmps.size ∧ (L.foldl (fun a s => a.put (some s) (f s)) a0).defers = a0.defers
  | [], a0, k, _ => ⟨by simp, rfl, rfl⟩
  | s :: L, a0, k, h => by
    have hsz : (a0.put (some s) (f s)).tmps.size = a0.tmps.size := by simp [Act.put]
    obtain ⟨h1, h2, h3⟩ := fold_get f L (a0.put (some s) (f s)) k (fun x hx => by rw [hsz]; exact h x (by simp [hx]))
    refine ⟨?_, by rw [List.foldl_cons, h2, hsz], by rw [List.foldl_cons, h3]; rfl⟩
    rw [List.foldl_cons, h1, put_get a0 s k (f s) (h s (by simp))]
    by_cases hk : k ∈ L
    · simp [hk]
    · by_cases hks : k = s
      · subst hks; simp [hk]
      · simp [hk, hks]
theorem act_ext {a b : Act} (hd : a.defers = b.defers) (hs : a.tmps.size = b.tmps.size) (h : ∀ k, a.tmps.getD k undef = b.tmps.getD k undef) : a = b := by
  obtain ⟨ta, da⟩ := a
  obtain ⟨tb, db⟩ := b
  dsimp only at hd hs h
  subst hd
  congr 1
  apply Array.ext hs
  intro i h1 h2
  have := h i
  simpa [Array.getD_eq_getD_getElem?, h1, h2] using this
/-- Behind such a region: the act that came in, with something in each slot that the region writes. -/
theorem RH.fold {n : Nat} {dst : Nat → Nat} {a0 : Act} {V : Nat → World → Value → Prop} {R : World → Prop} {jl : Nat} {listed : Array Bool} {a : Act} {w : World} (h : RH n dst a0 V R jl listed a w) (hd : a0.defers = []) (hN : ∀ i, i < n → dst i < a0.tmps.size) :
    ∃ f : Nat → Value, (∀ s, f s = a.tmps.getD s undef) ∧ a = ((List.range n).map dst).foldl (fun a' s => a'.put (some s) (f s)) a0 := by
  refine ⟨fun s => a.tmps.getD s undef, fun _ => rfl, ?_⟩
  have hin : ∀ s, s ∈ (List.range n).map dst → s < a0.tmps.size := fun s hs => by
    obtain ⟨i, hi, rfl⟩ := List.mem_map.1 hs
    exact hN i (List.mem_range.1 hi)
  refine act_ext ?_ ?_ ?_
  · rw [(fold_get _ _ a0 0 hin).2.2, h.defers, hd]
  · rw [(fold_get _ _ a0 0 hin).2.1, h.size]
  · intro k
    rw [(fold_get _ _ a0 k hin).1]
    by_cases hk : k ∈ (List.range n).map dst
    · rw [if_pos hk]
    · rw [if_neg hk]
      exact h.fix k (fun i hi e => hk (List.mem_map.2 ⟨i, List.mem_range.2 hi, e⟩))

def rpV (A : Value) (k : Nat) (b o : Nat) (ms : ByteArray) (sc : Int) (q x1 x2 x3 : ByteArray) : Nat → World → Value → Prop
  | 0, _, v => v = .string q
  | 1, _, v => v = .int .i64 ms.size
  | 2, _, v => v = .int .u8 ms.size
  | 3, w, v => ∃ g, v = .slice (some ⟨g, 0, none⟩) 1 1 ∧ Row w g [(ms.size : Int)]
  | 4, _, v => v = .string x1
  | 5, _, v => v = .string (q ++ x1)
  | 6, _, v => v = A
  | 7, _, v => v = .int .i64 k
  | 8, _, v => v = .pointer (some ⟨b, o, none⟩)
  | 9, _, v => v = .pointer (some ⟨b, o, none⟩)
  | 10, _, v => v = .string ms
  | 11, _, v => v = .string (q ++ x1 ++ ms)
  | 12, _, v => v = A
  | 13, _, v => v = .int .i64 k
  | 14, _, v => v = .pointer (some ⟨b, o, none⟩)
  | 15, _, v => v = .pointer (some ⟨b, o + 1, none⟩)
  | 16, _, v => v = .int .i64 sc
  | 17, _, v => v = .string x2
  | 18, _, v => v = .string (q ++ x1 ++ ms ++ x2)
  | 19, _, v => v = .int .i64 ms.size
  | 20, _, v => v = .int .i64 ((ms.size : Int) + 9)
  | 21, _, v => v = .int .u8 ((ms.size : Int) + 9)
  | 22, w, v => ∃ g, v = .slice (some ⟨g, 0, none⟩) 1 1 ∧ Row w g [(ms.size : Int) + 9]
  | 23, _, v => v = .string x3
  | 24, _, v => v = .string (q ++ x1 ++ ms ++ x2 ++ x3)
  | 25, _, v => v = .string (q ++ x1 ++ ms ++ x2 ++ x3)
  | _, _, _ => True
theorem rpV_later {A : Value} {k : Nat} {b o : Nat} {ms : ByteArray} {sc : Int} {q x1 x2 x3 : ByteArray} (j : Nat) (w w' : World) (v : Value) (h : rpV A k b o ms sc q x1 x2 x3 j w v) (hb' : Below w.heap.size w w') : rpV A k b o ms sc q x1 x2 x3 j w' v := by
  match j, h with
  | 0, h => exact h
  | 1, h => exact h
  | 2, h => exact h
  | 3, h =>
    obtain ⟨g, h1, h2⟩ := h
    exact ⟨g, h1, h2.later hb'⟩
  | 4, h => exact h
  | 5, h => exact h
  | 6, h => exact h
  | 7, h => exact h
  | 8, h => exact h
  | 9, h => exact h
  | 10, h => exact h
  | 11, h => exact h
  | 12, h => exact h
  | 13, h => exact h
  | 14, h => exact h
  | 15, h => exact h
  | 16, h => exact h
  | 17, h => exact h
  | 18, h => exact h
  | 19, h => exact h
  | 20, h => exact h
  | 21, h => exact h
  | 22, h =>
    obtain ⟨g, h1, h2⟩ := h
    exact ⟨g, h1, h2.later hb'⟩
  | 23, h => exact h
  | 24, h => exact h
  | 25, h => exact h
  | _ + 26, _ => trivial
def rpD (j : Nat) : Nat := if j = 25 then 4 else 33 + j
theorem rpD_inj (i j : Nat) (hi : i < 26) (hj : j < 26) (h : rpD i = rpD j) : i = j := by
  unfold rpD at h
  split at h <;> split at h <;> omega
theorem rpD_lt (i : Nat) (hi : i < 26) : rpD i < 59 := by unfold rpD; split <;> omega
theorem rpD_fix (s : Nat) (hs : s < 33 ∨ s = 58) (h4 : s ≠ 4) (i : Nat) (hi : i < 26) : rpD i ≠ s := by unfold rpD; split <;> omega

theorem upto_snoc (n : Nat) (l : List Ent) (ms : ByteArray) (sc : Int) : strOfNums (packUpto n (l ++ [(ms, sc)])) = strOfNums (packUpto n l) ++ strOfNums [(ms.size : Int)] ++ ms ++ strOfNums (be8 sc) ++ strOfNums [(ms.size : Int) + 9] := by
  rw [packUpto_snoc, strOf_append, entB]
  have e : ((ms, sc).1.size : Int) :: (bytesOf (ms, sc).1 ++ (be8 (ms, sc).2 ++ [((ms, sc).1.size : Int) + 9])) = [(ms.size : Int)] ++ (bytesOf ms ++ (be8 sc ++ [(ms.size : Int) + 9])) := rfl
  rw [e, strOf_append, strOf_append, strOf_append, strOf_bytesOf]
  simp [ByteArray.append_assoc]

set_option maxRecDepth 100000 in
set_option maxHeartbeats 2000000 in
theorem refPack_some (A : Option Addr) (l : List Ent) (len c : Nat) (hlen : l.length = len) (h : len ≤ 200) (w : World) (hr : Els w A l) :
    Calls Try.prog 13 #[.slice A len c] w fun e w' => e = .returned (.tuple #[.string (packS l).1, .int .i64 (packS l).2]) ∧ Below w.heap.size w w' := by
  have HR := Lib.hid hr
  have HL := Lib.hid hlen
  have hP1 : ∀ m sc, (m, sc) ∈ l → 64 < m.size → packS l = (⟨#[]⟩, 2) := fun m sc hin hbig => by
    have h1 : ¬ 200 < l.length := by omega
    rw [packS, if_neg h1, if_pos (List.any_eq_true.2 ⟨(m, sc), hin, by simp [bigE]; omega⟩)]
  have hP2 : (∀ e, e ∈ l → e.1.size ≤ 64) → packS l = (strOfNums (packUpto len l), 0) := fun hs => by
    have h1 : ¬ 200 < l.length := by omega
    have h2 : ¬ l.any bigE = true := by
      intro h3
      obtain ⟨e, he, h4⟩ := List.any_eq_true.1 h3
      have := hs e he
      simp [bigE] at h4; omega
    rw [packS, if_neg h1, if_neg h2, ← hlen]; rfl
  obtain ⟨r, hrr⟩ : ∃ r, packS l = r := ⟨_, rfl⟩
  rw [hrr] at hP1 hP2 ⊢
  have HP1 := Lib.hid hP1
  have HP2 := Lib.hid hP2
  clear hr hlen hP1 hP2 hrr
  have hrow0 : Row (w.alloc (.cells #[.int .u8 ((len : Int) / 256), .int .u8 (len : Int)] 5)) w.heap.size [(len : Int) / 256, (len : Int)] := by show (w.heap.push _)[w.heap.size]? = _; simp [nums]
  have hcv0 := own_string (P := Try.prog) (src := 48) (dst := 9) Try.underlying48 Try.underlying5 Try.underlying9 (row_owned (base := w.heap.size) hrow0 (n := 2) rfl (Nat.le_refl _) (by unfold maxLen; omega))
  obtain ⟨q0, hq0⟩ : ∃ q0, strOfNums [(len : Int) / 256, (len : Int)] = q0 := ⟨_, rfl⟩
  rw [hq0] at hcv0
  have HQ0 : Hid (q0 = strOfNums (packUpto len (l.take 0))) := Lib.hid (by rw [← hq0]; simp only [packUpto, List.take_zero, List.flatMap_nil]; congr 2; rw [Int.emod_eq_of_lt (by omega) (by omega)])
  clear hrow0 hq0
  go_enter Try.func13, Try.ntmps13
  go_wp2_with fail
  clear hcv0
  go_loopw [4, 5] (fun s i wr => ∃ k : Nat, ∃ q : ByteArray, k ≤ len ∧ i = .int .i64 k ∧ s = .string q ∧ q = strOfNums (packUpto len (l.take k)) ∧ (∀ e, e ∈ l.take k → e.1.size ≤ 64) ∧ Below w.heap.size w wr) (fun _ i _ => len - (intOf i).toNat)
  case atStart => exact ⟨0, q0, by omega, rfl, rfl, HQ0.out, by simp, (Below.refl _ _).alloc (Nat.le_refl _) _⟩
  case round =>
    obtain ⟨k, q, hk, rfl, rfl, hq, hsm, hB⟩ := hrel
    have HQ := Lib.hid hq
    have HS := Lib.hid hsm
    have hzr := hB.size
    have hqs : q.size ≤ 20000 := by
      rw [hq, strOf_size]
      have := packUpto_small (n := len) hsm
      rw [List.length_take] at this; omega
    clear hq hsm
    by_cases hlt : k < len
    · have hkl : k < l.length := by rw [HL.out]; exact hlt
      obtain ⟨b, o, rfl, hc0, hc1⟩ := HR.out k hkl
      obtain ⟨x, hx⟩ : ∃ x, l[k]'hkl = x := ⟨_, rfl⟩
      rw [hx] at hc0 hc1
      have HT := Lib.hid (show l.take (k + 1) = l.take k ++ [x] by rw [List.take_succ_eq_append_getElem hkl, hx])
      have HM := Lib.hid (show x ∈ l from hx ▸ List.getElem_mem hkl)
      obtain ⟨ms, sc⟩ := x
      dsimp only at hc0 hc1
      have hbw := World.block_lt_of_cell? w _ hc0
      dsimp only at hbw
      have HW0 := Lib.hid hc0
      have HW1 := Lib.hid hc1
      replace hc0 := (hB.cell (p := ⟨b, o + k * 2, none⟩) hbw).trans hc0
      clear hx hc1
      by_cases hbig : ms.size ≤ 64
      · go_wp2_with fail
        obtain ⟨x1, hx1⟩ : ∃ x, strOfNums [(ms.size : Int)] = x := ⟨_, rfl⟩
        obtain ⟨x2, hx2⟩ : ∃ x, strOfNums (be8 sc) = x := ⟨_, rfl⟩
        obtain ⟨x3, hx3⟩ : ∃ x, strOfNums [(ms.size : Int) + 9] = x := ⟨_, rfl⟩
        have s1 : x1.size = 1 := by rw [← hx1, strOf_size]; rfl
        have s2 : x2.size = 8 := by rw [← hx2, strOf_size]; rfl
        have s3 : x3.size = 1 := by rw [← hx3, strOf_size]; rfl
        have z1 : (q ++ x1).size = q.size + 1 := by rw [ByteArray.size_append]; omega
        have z2 : (q ++ x1 ++ ms).size = q.size + 1 + ms.size := by rw [ByteArray.size_append]; omega
        have z3 : (q ++ x1 ++ ms ++ x2).size = q.size + 1 + ms.size + 8 := by rw [ByteArray.size_append]; omega
        have HX1 := Lib.hid hx1
        have HX2 := Lib.hid hx2
        have HX3 := Lib.hid hx3
        clear hc0 hx1 hx2 hx3
        generalize ha0 : (Act.mk _ _) = a0
        have f0 : a0.tmps.getD 0 undef = .slice (some ⟨b, o, none⟩) len c := by rw [← ha0]; rfl
        have f4 : a0.tmps.getD 4 undef = .string q := by rw [← ha0]; rfl
        have f5 : a0.tmps.getD 5 undef = .int .i64 k := by rw [← ha0]; rfl
        have f6 : a0.tmps.getD 6 undef = .int .i64 ms.size := by rw [← ha0]; rfl
        have fz : a0.tmps.size = 59 := by rw [← ha0]; rfl
        have fd : a0.defers = [] := by rw [← ha0]
        have hlt59 : ∀ i, i < 26 → rpD i < a0.tmps.size := by rw [fz]; exact rpD_lt
        refine wp_region_inv2 (RH 26 rpD a0 (rpV (.slice (some ⟨b, o, none⟩) len c) k b (o + k * 2) ms sc q x1 x2 x3) (fun w' => Below w.heap.size w w') 25) (by kernel_rfl) ?_ ?_ ?_
        · refine ⟨fd, rfl, rfl, fun _ _ => rfl, hB.drew, ?_, fun _ => rfl⟩
          intro j hj
          simp [Array.getD_eq_getD_getElem?, Array.getElem?_replicate] at hj
          split at hj <;> simp at hj
        · intro listed a w3 i hI hSh hrd
          obtain ⟨h1, oo, ho, hdep⟩ := mem_ready.1 hrd
          have hi26 : i < 26 := (Array.getElem?_eq_some_iff.1 ho).1
          have hput := fun {i : Nat} {v : Value} {w' : World} => hI.put (i := i) (v := v) (w' := w') rpV_later rpD_inj hlt59 (by omega)
          have hrel := hI.rel
          clear ha0
          match i, hi26, ho with
          | 0, _, ho =>
          cases ho
          refine wpOp_now rfl rfl ?_
          have hl25 : listed.getD 25 false = false := by
            by_cases h25 : listed.getD 25 false = true
            · have g24 := hSh 25 _ rfl h25 ⟨24, .data⟩ (by simp) rfl
              have g18 := hSh 24 _ rfl g24 ⟨18, .data⟩ (by simp) rfl
              have g11 := hSh 18 _ rfl g18 ⟨11, .data⟩ (by simp) rfl
              have g5 := hSh 11 _ rfl g11 ⟨5, .data⟩ (by simp) rfl
              have g0 := hSh 5 _ rfl g5 ⟨0, .data⟩ (by simp) rfl
              have hlt0 : 0 < listed.size := by rw [hI.len]; omega
              simp [Array.getD_eq_getD_getElem?, hlt0] at g0 h1
              rw [g0] at h1; cases h1
            · simpa using h25
          exact hput (i := 0) (by omega) (v := a.eval (.tmp 4)) ((hI.late hl25).trans f4) (Below.refl _ _) hrel
          | 1, _, ho =>
          cases ho
          refine wpOp_now rfl rfl ?_
          exact hput (i := 1) (by omega) (v := a.eval (.tmp 6)) ((hI.fix 6 (rpD_fix 6 (by omega) (by omega))).trans f6) (Below.refl _ _) hrel
          | 2, _, ho =>
          cases ho
          refine wpOp_now rfl rfl ?_
          have d1 := hI.ok 1 (hdep ⟨1, .data⟩ (by simp) rfl)
          have ex : a.eval (.tmp 34) = .int .i64 (ms.size : Int) := d1
          have hw : IntKind.u8.wrap (ms.size : Int) = (ms.size : Int) := by simp [IntKind.wrap, IntKind.signed, IntKind.bits]; omega
          exact wp_value (w' := w3) (.int .u8 (ms.size : Int)) (by generalize a.eval = ρ at ex ⊢; simp [execOp, ex, go_sem, hw]) (hput (i := 2) (by omega) rfl (Below.refl _ _) hrel)
          | 3, _, ho =>
          cases ho
          refine wpOp_now rfl rfl ?_
          have d2 := hI.ok 2 (hdep ⟨2, .data⟩ (by simp) rfl)
          have ex : a.eval (.tmp 35) = .int .u8 (ms.size : Int) := d2
          have hb2 : Below w3.heap.size w3 (w3.alloc (.cells #[.int .u8 (ms.size : Int)] 5)) := (Below.refl _ _).alloc (Nat.le_refl _) _
          have hrw : Row (w3.alloc (.cells #[.int .u8 (ms.size : Int)] 5)) w3.heap.size [(ms.size : Int)] := by show (w3.heap.push _)[w3.heap.size]? = _; simp [nums]
          exact wp_value (w' := w3.alloc (.cells #[.int .u8 (ms.size : Int)] 5)) (.slice (some ⟨w3.heap.size, 0, none⟩) 1 1) (by generalize a.eval = ρ at ex ⊢; simp [execOp, ex, go_sem]) (hput (i := 3) (by omega) ⟨_, rfl, hrw⟩ hb2 (hrel.trans (hb2.mono hrel.size)))
          | 4, _, ho =>
          cases ho
          refine wpOp_now rfl rfl ?_
          have d3 := hI.ok 3 (hdep ⟨3, .data⟩ (by simp) rfl)
          obtain ⟨g, hg, hrw⟩ := d3
          have ex : a.eval (.tmp 36) = .slice (some ⟨g, 0, none⟩) 1 1 := hg
          have hcv := own_string (P := Try.prog) (src := 48) (dst := 9) Try.underlying48 Try.underlying5 Try.underlying9 (row_owned (base := 0) hrw (n := 1) rfl (Nat.zero_le _) (by unfold maxLen; omega))
          rw [HX1.out] at hcv
          exact wp_value (w' := w3) (.string x1) (by generalize a.eval = ρ at ex ⊢; simp [execOp, ex, hcv]) (hput (i := 4) (by omega) rfl (Below.refl _ _) hrel)
          | 5, _, ho =>
          cases ho
          refine wpOp_now rfl rfl ?_
          have d0 := hI.ok 0 (hdep ⟨0, .data⟩ (by simp) rfl)
          have d4 := hI.ok 4 (hdep ⟨4, .data⟩ (by simp) rfl)
          have ex : a.eval (.tmp 33) = .string q := d0
          have ey : a.eval (.tmp 37) = .string x1 := d4
          exact wp_value (w' := w3) (.string (q ++ x1)) (by generalize a.eval = ρ at ex ey ⊢; simp [execOp, ex, ey, go_sem] <;> omega) (hput (i := 5) (by omega) rfl (Below.refl _ _) hrel)
          | 6, _, ho =>
          cases ho
          refine wpOp_now rfl rfl ?_
          exact hput (i := 6) (by omega) (v := a.eval (.tmp 0)) ((hI.fix 0 (rpD_fix 0 (by omega) (by omega))).trans f0) (Below.refl _ _) hrel
          | 7, _, ho =>
          cases ho
          refine wpOp_now rfl rfl ?_
          exact hput (i := 7) (by omega) (v := a.eval (.tmp 5)) ((hI.fix 5 (rpD_fix 5 (by omega) (by omega))).trans f5) (Below.refl _ _) hrel
          | 8, _, ho =>
          cases ho
          refine wpOp_now rfl rfl ?_
          have d6 := hI.ok 6 (hdep ⟨6, .data⟩ (by simp) rfl)
          have d7 := hI.ok 7 (hdep ⟨7, .data⟩ (by simp) rfl)
          have ex : a.eval (.tmp 39) = .slice (some ⟨b, o, none⟩) len c := d6
          have ey : a.eval (.tmp 40) = .int .i64 k := d7
          exact wp_value (w' := w3) (.pointer (some ⟨b, o + k * 2, none⟩)) (by generalize a.eval = ρ at ex ey ⊢; simp [execOp, ex, ey, go_sem, hlt]) (hput (i := 8) (by omega) rfl (Below.refl _ _) hrel)
          | 9, _, ho =>
          cases ho
          refine wpOp_now rfl rfl ?_
          have d8 := hI.ok 8 (hdep ⟨8, .data⟩ (by simp) rfl)
          have ex : a.eval (.tmp 41) = .pointer (some ⟨b, o + k * 2, none⟩) := d8
          exact wp_value (w' := w3) (.pointer (some ⟨b, o + k * 2, none⟩)) (by generalize a.eval = ρ at ex ⊢; simp [execOp, ex, go_sem]) (hput (i := 9) (by omega) rfl (Below.refl _ _) hrel)
          | 10, _, ho =>
          cases ho
          refine wpOp_now rfl rfl ?_
          have d9 := hI.ok 9 (hdep ⟨9, .data⟩ (by simp) rfl)
          have ex : a.eval (.tmp 42) = .pointer (some ⟨b, o + k * 2, none⟩) := d9
          have g0 := (hrel.cell (p := ⟨b, o + k * 2, none⟩) hbw).trans HW0.out
          exact wp_value (w' := w3) (.string ms) (by generalize a.eval = ρ at ex ⊢; simp [execOp, ex, g0, go_sem]) (hput (i := 10) (by omega) rfl (Below.refl _ _) hrel)
          | 11, _, ho =>
          cases ho
          refine wpOp_now rfl rfl ?_
          have d5 := hI.ok 5 (hdep ⟨5, .data⟩ (by simp) rfl)
          have d10 := hI.ok 10 (hdep ⟨10, .data⟩ (by simp) rfl)
          have ex : a.eval (.tmp 38) = .string (q ++ x1) := d5
          have ey : a.eval (.tmp 43) = .string ms := d10
          exact wp_value (w' := w3) (.string ((q ++ x1) ++ ms)) (by generalize a.eval = ρ at ex ey ⊢; simp [execOp, ex, ey, go_sem] <;> omega) (hput (i := 11) (by omega) rfl (Below.refl _ _) hrel)
          | 12, _, ho =>
          cases ho
          refine wpOp_now rfl rfl ?_
          exact hput (i := 12) (by omega) (v := a.eval (.tmp 0)) ((hI.fix 0 (rpD_fix 0 (by omega) (by omega))).trans f0) (Below.refl _ _) hrel
          | 13, _, ho =>
          cases ho
          refine wpOp_now rfl rfl ?_
          exact hput (i := 13) (by omega) (v := a.eval (.tmp 5)) ((hI.fix 5 (rpD_fix 5 (by omega) (by omega))).trans f5) (Below.refl _ _) hrel
          | 14, _, ho =>
          cases ho
          refine wpOp_now rfl rfl ?_
          have d12 := hI.ok 12 (hdep ⟨12, .data⟩ (by simp) rfl)
          have d13 := hI.ok 13 (hdep ⟨13, .data⟩ (by simp) rfl)
          have ex : a.eval (.tmp 45) = .slice (some ⟨b, o, none⟩) len c := d12
          have ey : a.eval (.tmp 46) = .int .i64 k := d13
          exact wp_value (w' := w3) (.pointer (some ⟨b, o + k * 2, none⟩)) (by generalize a.eval = ρ at ex ey ⊢; simp [execOp, ex, ey, go_sem, hlt]) (hput (i := 14) (by omega) rfl (Below.refl _ _) hrel)
          | 15, _, ho =>
          cases ho
          refine wpOp_now rfl rfl ?_
          have d14 := hI.ok 14 (hdep ⟨14, .data⟩ (by simp) rfl)
          have ex : a.eval (.tmp 47) = .pointer (some ⟨b, o + k * 2, none⟩) := d14
          exact wp_value (w' := w3) (.pointer (some ⟨b, o + k * 2 + 1, none⟩)) (by generalize a.eval = ρ at ex ⊢; simp [execOp, ex, go_sem]) (hput (i := 15) (by omega) rfl (Below.refl _ _) hrel)
          | 16, _, ho =>
          cases ho
          refine wpOp_now rfl rfl ?_
          have d15 := hI.ok 15 (hdep ⟨15, .data⟩ (by simp) rfl)
          have ex : a.eval (.tmp 48) = .pointer (some ⟨b, o + k * 2 + 1, none⟩) := d15
          have g0 := (hrel.cell (p := ⟨b, o + k * 2 + 1, none⟩) hbw).trans HW1.out
          exact wp_value (w' := w3) (.int .i64 sc) (by generalize a.eval = ρ at ex ⊢; simp [execOp, ex, g0, go_sem]) (hput (i := 16) (by omega) rfl (Below.refl _ _) hrel)
          | 17, _, ho =>
          cases ho
          refine wpOp_now rfl rfl ?_
          have d16 := hI.ok 16 (hdep ⟨16, .data⟩ (by simp) rfl)
          have ex : a.eval (.tmp 49) = .int .i64 sc := d16
          refine wp_enter (w' := w3) 30 #[.int .i64 sc] (by have ef : a.eval (.func 30) = .func (.func 30) #[] #[] := rfl; generalize a.eval = ρ at ex ef ⊢; simp [execOp, resolve, invoke, ex, ef, go_sem]) ?_
          refine (score_any sc _).mono ?_
          rintro e w4 ⟨rfl, hb4⟩
          exact ⟨_, rfl, hput (i := 17) (by omega) (by rw [HX2.out]; rfl) hb4 (hrel.trans (hb4.mono hrel.size))⟩
          | 18, _, ho =>
          cases ho
          refine wpOp_now rfl rfl ?_
          have d11 := hI.ok 11 (hdep ⟨11, .data⟩ (by simp) rfl)
          have d17 := hI.ok 17 (hdep ⟨17, .data⟩ (by simp) rfl)
          have ex : a.eval (.tmp 44) = .string (q ++ x1 ++ ms) := d11
          have ey : a.eval (.tmp 50) = .string x2 := d17
          exact wp_value (w' := w3) (.string ((q ++ x1 ++ ms) ++ x2)) (by generalize a.eval = ρ at ex ey ⊢; simp [execOp, ex, ey, go_sem] <;> omega) (hput (i := 18) (by omega) rfl (Below.refl _ _) hrel)
          | 19, _, ho =>
          cases ho
          refine wpOp_now rfl rfl ?_
          exact hput (i := 19) (by omega) (v := a.eval (.tmp 6)) ((hI.fix 6 (rpD_fix 6 (by omega) (by omega))).trans f6) (Below.refl _ _) hrel
          | 20, _, ho =>
          cases ho
          refine wpOp_now rfl rfl ?_
          have d19 := hI.ok 19 (hdep ⟨19, .data⟩ (by simp) rfl)
          have ex : a.eval (.tmp 52) = .int .i64 ms.size := d19
          have hw : IntKind.i64.wrap ((ms.size : Int) + 9) = (ms.size : Int) + 9 := by simp [IntKind.wrap, IntKind.signed, IntKind.bits]; omega
          exact wp_value (w' := w3) (.int .i64 ((ms.size : Int) + 9)) (by have ec : a.eval (.const (.int .i64 9)) = .int .i64 9 := rfl; generalize a.eval = ρ at ex ec ⊢; simp [execOp, ex, ec, go_sem, hw]) (hput (i := 20) (by omega) rfl (Below.refl _ _) hrel)
          | 21, _, ho =>
          cases ho
          refine wpOp_now rfl rfl ?_
          have d20 := hI.ok 20 (hdep ⟨20, .data⟩ (by simp) rfl)
          have ex : a.eval (.tmp 53) = .int .i64 ((ms.size : Int) + 9) := d20
          have hw : IntKind.u8.wrap ((ms.size : Int) + 9) = ((ms.size : Int) + 9) := by simp [IntKind.wrap, IntKind.signed, IntKind.bits]; omega
          exact wp_value (w' := w3) (.int .u8 ((ms.size : Int) + 9)) (by generalize a.eval = ρ at ex ⊢; simp [execOp, ex, go_sem, hw]) (hput (i := 21) (by omega) rfl (Below.refl _ _) hrel)
          | 22, _, ho =>
          cases ho
          refine wpOp_now rfl rfl ?_
          have d21 := hI.ok 21 (hdep ⟨21, .data⟩ (by simp) rfl)
          have ex : a.eval (.tmp 54) = .int .u8 ((ms.size : Int) + 9) := d21
          have hb2 : Below w3.heap.size w3 (w3.alloc (.cells #[.int .u8 ((ms.size : Int) + 9)] 5)) := (Below.refl _ _).alloc (Nat.le_refl _) _
          have hrw : Row (w3.alloc (.cells #[.int .u8 ((ms.size : Int) + 9)] 5)) w3.heap.size [((ms.size : Int) + 9)] := by show (w3.heap.push _)[w3.heap.size]? = _; simp [nums]
          exact wp_value (w' := w3.alloc (.cells #[.int .u8 ((ms.size : Int) + 9)] 5)) (.slice (some ⟨w3.heap.size, 0, none⟩) 1 1) (by generalize a.eval = ρ at ex ⊢; simp [execOp, ex, go_sem]) (hput (i := 22) (by omega) ⟨_, rfl, hrw⟩ hb2 (hrel.trans (hb2.mono hrel.size)))
          | 23, _, ho =>
          cases ho
          refine wpOp_now rfl rfl ?_
          have d22 := hI.ok 22 (hdep ⟨22, .data⟩ (by simp) rfl)
          obtain ⟨g, hg, hrw⟩ := d22
          have ex : a.eval (.tmp 55) = .slice (some ⟨g, 0, none⟩) 1 1 := hg
          have hcv := own_string (P := Try.prog) (src := 48) (dst := 9) Try.underlying48 Try.underlying5 Try.underlying9 (row_owned (base := 0) hrw (n := 1) rfl (Nat.zero_le _) (by unfold maxLen; omega))
          rw [HX3.out] at hcv
          exact wp_value (w' := w3) (.string x3) (by generalize a.eval = ρ at ex ⊢; simp [execOp, ex, hcv]) (hput (i := 23) (by omega) rfl (Below.refl _ _) hrel)
          | 24, _, ho =>
          cases ho
          refine wpOp_now rfl rfl ?_
          have d18 := hI.ok 18 (hdep ⟨18, .data⟩ (by simp) rfl)
          have d23 := hI.ok 23 (hdep ⟨23, .data⟩ (by simp) rfl)
          have ex : a.eval (.tmp 51) = .string (q ++ x1 ++ ms ++ x2) := d18
          have ey : a.eval (.tmp 56) = .string x3 := d23
          exact wp_value (w' := w3) (.string ((q ++ x1 ++ ms ++ x2) ++ x3)) (by generalize a.eval = ρ at ex ey ⊢; simp [execOp, ex, ey, go_sem] <;> omega) (hput (i := 24) (by omega) rfl (Below.refl _ _) hrel)
          | 25, _, ho =>
          cases ho
          refine wpOp_now rfl rfl ?_
          have d24 := hI.ok 24 (hdep ⟨24, .data⟩ (by simp) rfl)
          exact hput (i := 25) (by omega) (v := a.eval (.tmp 57)) d24 (Below.refl _ _) hrel
        · intro listed a w3 hI hrd
          have hl := all_listed (ops := _) (listed := listed) (by rw [hI.len]; rfl) (by kernel_rfl) hrd
          have h25 := hI.ok 25 (hl 25 (by decide))
          have hB3 := hI.rel
          obtain ⟨f, hf, hact⟩ := hI.fold fd hlt59
          have hf4 : f 4 = .string (q ++ x1 ++ ms ++ x2 ++ x3) := (hf 4).trans h25
          clear hI h25 hf
          rw [hact, ← ha0]
          clear hact ha0
          rw [show (List.range 26).map rpD = [33, 34, 35, 36, 37, 38, 39, 40, 41, 42, 43, 44, 45, 46, 47, 48, 49, 50, 51, 52, 53, 54, 55, 56, 57, 4] from rfl]
          simp only [List.foldl_cons, List.foldl_nil, Act.put]
          apply_assumption
          go_wp2_with fail
          go_roundw
          case rel =>
            refine ⟨k + 1, _, by omega, by go_num, rfl, ?_, ?_, hB3⟩
            · rw [HT.out, upto_snoc, HX1.out, HX2.out, HX3.out, HQ.out]
            · rw [HT.out]
              intro e he
              rcases List.mem_append.1 he with h1 | h1
              · exact HS.out e h1
              · obtain rfl := List.mem_singleton.1 h1; exact hbig
          case measure => simp [intOf]; omega
      · have hr2 := HP1.out ms sc HM.out (by omega)
        subst hr2
        go_wp2_with fail
        go_ret2
        exact ⟨rfl, hB⟩
    · obtain rfl : k = len := by omega
      have htl : l.take k = l := List.take_of_length_le (by rw [HL.out]; exact Nat.le_refl _)
      have hr2 : r = (q, 0) := by rw [HP2.out (by have := HS.out; rw [htl] at this; exact this), HQ.out, htl]
      subst hr2
      go_wp2_with fail
      go_ret2
      exact ⟨rfl, hB⟩

set_option maxHeartbeats 400000 in
theorem refPack_any (A : Option Addr) (l : List Ent) (len c : Nat) (hlen : l.length = len) (hm : len ≤ 9223372036854775807) (w : World) (hr : Els w A l) :
    Calls Try.prog 13 #[.slice A len c] w fun e w' => e = .returned (.tuple #[.string (packS l).1, .int .i64 (packS l).2]) ∧ Below w.heap.size w w' := by
  by_cases h : len ≤ 200
  · exact refPack_some A l len c hlen h w hr
  · rw [show packS l = (⟨#[]⟩, 51) by unfold packS; rw [if_pos (by omega)]]
    clear hr
    go_enter Try.func13, Try.ntmps13
    go_wp2_with fail
    go_ret2
    exact ⟨rfl, Below.refl _ _⟩

end Go.Proofs.Ytcjjeookfnmjcaa
