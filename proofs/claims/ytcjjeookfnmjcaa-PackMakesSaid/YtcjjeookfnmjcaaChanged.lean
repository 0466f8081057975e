import Derived.Test.YtcjjeookfnmjcaaConcat
import Derived.Test.YtcjjeookfnmjcaaRegion
namespace Go.Proofs.Ytcjjeookfnmjcaa
open Go.RowKit Go.Proofs.YtcjjeookfnmjcaaW.PrintWords
set_option linter.unusedVariables false

def convV (w : World) (s : ByteArray) : Value := .slice (some ⟨w.heap.size, 0, none⟩) s.size (grownCap w s.size 0 5)
theorem below_conv (w : World) (s : ByteArray) : Below w.heap.size w (Lib.bytesWorld w 5 s) :=
  ⟨rfl, rfl, rfl, by rw [Lib.bytesWorld_size]; exact Nat.le_succ _, fun k hk => Lib.bytesWorld_at_old w 5 s k hk⟩
theorem rd_conv (w : World) (s : ByteArray) : Rd (Lib.bytesWorld w 5 s) (.slice (some ⟨w.heap.size, 0, none⟩) s.size (grownCap w s.size 0 5)) (bytesOf s) := by
  refine .inr ⟨_, grownCap w s.size 0 5, by rw [bytesOf_length], by rw [Lib.bytesWorld_size]; exact Nat.lt_succ_self _, fun j u hj => ?_⟩
  have hlt : j < s.size := by
    have := (List.getElem?_eq_some_iff.1 hj).1
    simpa [nums, bytesOf_length] using this
  rw [Go.WideShapes.add_plain, Nat.zero_add, Lib.bytesWorld_cell w 5 s j hlt]
  have h' : j < s.data.toList.length := by rw [data_length]; exact hlt
  rw [← hj]
  simp [nums, bytesOf, List.getD_eq_getElem?_getD, List.getElem?_eq_getElem h']
theorem rd_row {w : World} {g : Nat} {zs : List Int} (h : Row w g zs) (n : Nat) (hn : zs.length = n) : Rd w (.slice (some ⟨g, 0, none⟩) n n) zs :=
  .inr ⟨_, n, by rw [hn], h.lt, row_news h⟩

/-- What the slots of the one region of 'changed' hold. -/
def chV (p : ByteArray) (n from_ to_ : Int) (l : Value) (zs hb : List Int) (mid tail : ByteArray) (base : Nat) : Nat → World → Value → Prop
  | 0, _, v => v = .int .i64 n
  | 1, w, v => Rd w v hb
  | 2, _, v => v = .string p
  | 3, _, v => v = .int .i64 from_
  | 4, _, v => v = .string mid
  | 5, w, v => Rd w v (bytesOf mid)
  | 6, w, v => Rd w v zs
  | 7, _, v => v = .string p
  | 8, _, v => v = .int .i64 to_
  | 9, _, v => v = .string tail
  | 10, w, v => Rd w v (bytesOf tail)
  | 11, w, v => ∃ g, v = .slice (some ⟨g, 0, none⟩) 4 4 ∧ g < w.heap.size ∧ ∃ v1 v2 v3 v4, w.cell? ⟨g, 0, none⟩ = some v1 ∧ w.cell? ⟨g, 1, none⟩ = some v2 ∧ w.cell? ⟨g, 2, none⟩ = some v3 ∧ w.cell? ⟨g, 3, none⟩ = some v4 ∧ Rd w v1 hb ∧ Rd w v2 (bytesOf mid) ∧ Rd w v3 zs ∧ Rd w v4 (bytesOf tail)
  | 12, w, v => w.ownsRow base 5 1 v (hb ++ bytesOf mid ++ zs ++ bytesOf tail).length (nums .u8 (hb ++ bytesOf mid ++ zs ++ bytesOf tail))
  | 13, _, v => v = .string (strOfNums (hb ++ bytesOf mid ++ zs ++ bytesOf tail))
  | 14, _, v => v = .string (strOfNums (hb ++ bytesOf mid ++ zs ++ bytesOf tail))
  | _, _, _ => True

theorem chV_later {p : ByteArray} {n from_ to_ : Int} {l : Value} {zs hb : List Int} {mid tail : ByteArray} {base : Nat} (j : Nat) (w w' : World) (v : Value) (h : chV p n from_ to_ l zs hb mid tail base j w v) (hb' : Below w.heap.size w w') :
    chV p n from_ to_ l zs hb mid tail base j w' v := by
  match j, h with
  | 0, h => exact h
  | 1, h => exact Rd.later h hb'
  | 2, h => exact h
  | 3, h => exact h
  | 4, h => exact h
  | 5, h => exact Rd.later h hb'
  | 6, h => exact Rd.later h hb'
  | 7, h => exact h
  | 8, h => exact h
  | 9, h => exact h
  | 10, h => exact Rd.later h hb'
  | 11, h =>
    obtain ⟨g, h1, h2, v1, v2, v3, v4, c1, c2, c3, c4, r1, r2, r3, r4⟩ := h
    exact ⟨g, h1, Nat.lt_of_lt_of_le h2 hb'.size, v1, v2, v3, v4, (hb'.cell (p := ⟨g, 0, none⟩) h2).trans c1, (hb'.cell (p := ⟨g, 1, none⟩) h2).trans c2, (hb'.cell (p := ⟨g, 2, none⟩) h2).trans c3, (hb'.cell (p := ⟨g, 3, none⟩) h2).trans c4, r1.later hb', r2.later hb', r3.later hb', r4.later hb'⟩
  | 12, h => exact own_later h hb'
  | 13, h => exact h
  | 14, h => exact h
  | _ + 15, _ => trivial

def chD (j : Nat) : Nat := if j = 14 then 10 else 11 + j
theorem chD_inj (i j : Nat) (hi : i < 15) (hj : j < 15) (h : chD i = chD j) : i = j := by
  unfold chD at h
  split at h <;> split at h <;> omega
theorem chD_lt (i : Nat) (hi : i < 15) : chD i < 25 := by unfold chD; split <;> omega
theorem chD_fix {p l : Value} {n f t : Value} (q : Nat × Value) (hq : q ∈ [(0, p), (1, n), (2, f), (3, t), (4, l)]) (i : Nat) (hi : i < 15) : chD i ≠ q.1 := by
  simp only [List.mem_cons, List.not_mem_nil, or_false] at hq
  unfold chD
  rcases hq with rfl | rfl | rfl | rfl | rfl <;> (dsimp only; split <;> omega)
theorem wpOp_now {P : Program} {ops : Array Oper} {Q : Exit → Act → World → Prop} {K : Act → World → Prop} {a : Act} {w : World} {i : Nat} {o : Oper} (hi : ops[i]? = some o) (hg : o.guard = none) (h : o.wp P a w K Q) : wpOp P ops Q i K a w := by
  unfold wpOp
  rw [hi]
  simp only [Region.wanted, hg, if_true]
  exact .inl h

theorem wp_value {P : Program} {Q : Exit → Act → World → Prop} {K : Act → World → Prop} {a : Act} {w w' : World} {o : Oper} (v : Value) (hr : (execOp a.eval o).run P w = .ok (.value v) w') (h : K (a.put o.dst v) w') : o.wp P a w K Q := by
  unfold Oper.wp; rw [hr]; exact h
theorem wp_enter {P : Program} {Q : Exit → Act → World → Prop} {K : Act → World → Prop} {a : Act} {w w' : World} {o : Oper} (f : FuncId) (args : Array Value) (hr : (execOp a.eval o).run P w = .ok (.enter f args) w')
    (h : Calls P f args w' fun e w'' => ∃ v, e = .returned v ∧ K (a.put o.dst v) w'') : o.wp P a w K Q := by
  unfold Oper.wp; rw [hr]
  refine Calls.mono h fun e w'' he => ?_
  obtain ⟨v, rfl, hk⟩ := he
  exact hk

set_option maxHeartbeats 1000000 in
theorem changed_any (p : ByteArray) (hp : p.size ≤ 1000000) (n : Nat) (hn : n ≤ 65535) (f t : Nat) (hf : 2 ≤ f) (hf2 : f ≤ p.size) (ht : t ≤ p.size) (l : Value) (zs : List Int) (hzs : zs.length ≤ 1000) (w : World) (hl : Rd w l zs) :
    Calls Try.prog 34 #[.string p, .int .i64 n, .int .i64 f, .int .i64 t, l] w fun e w' =>
      e = .returned (.string (strOfNums ([(n : Int) / 256, (n : Int) % 256] ++ bytesOf (p.extract 2 f) ++ zs ++ bytesOf (p.extract t p.size)))) ∧ Below w.heap.size w w' := by
  go_enter Try.func34, Try.ntmps34
  go_wp2_with fail
  refine wp_region_inv (RI 25 15 chD [(0, .string p), (1, .int .i64 n), (2, .int .i64 f), (3, .int .i64 t), (4, l)] (chV p n f t l zs [(n : Int) / 256, (n : Int) % 256] (p.extract 2 f) (p.extract t p.size) w.heap.size) w) (by kernel_rfl) ?_ ?_ ?_
  · refine ⟨rfl, rfl, rfl, ?_, (Below.refl _ _).drew, ?_⟩
    · intro q hq
      simp only [List.mem_cons, List.not_mem_nil, or_false] at hq
      rcases hq with rfl | rfl | rfl | rfl | rfl <;> rfl
    · intro j hj
      simp [Array.getD_eq_getD_getElem?, Array.getElem?_replicate] at hj
      split at hj <;> simp at hj
  · intro listed a w1 i hI hr
    obtain ⟨h1, o, ho, hdep⟩ := mem_ready.1 hr
    have hi : i < 15 := (Array.getElem?_eq_some_iff.1 ho).1
    have hput := fun {i : Nat} {v : Value} {w' : World} => hI.put (i := i) (v := v) (w' := w') chV_later chD_inj chD_fix chD_lt
    match i, hi, ho with
    | 0, _, ho =>
      cases ho
      refine wpOp_now rfl rfl ?_
      exact hput (i := 0) (by omega) (v := a.eval (.tmp 1)) (hI.fix (1, _) (by simp)) (Below.refl _ _)
    | 1, _, ho =>
      cases ho
      refine wpOp_now rfl rfl ?_
      have d0 := hI.ok 0 (hdep ⟨0, .data⟩ (by simp) rfl)
      have e11 : a.eval (.tmp 11) = .int .i64 n := d0
      refine wp_enter (w' := w1) 28 #[.int .i64 n] (by have ef : a.eval (.func 28) = .func (.func 28) #[] #[] := rfl; generalize a.eval = ρ at e11 ef ⊢; simp [execOp, resolve, invoke, e11, ef, go_sem]) ?_
      refine (head_any n hn _).mono ?_
      rintro e w2 ⟨rfl, hw2⟩
      have hrow : Row w2 w1.heap.size [(n : Int) / 256, (n : Int) % 256] := by rw [← hw2]; show (w1.heap.push _)[w1.heap.size]? = _; simp [nums]
      have hb2 : Below w1.heap.size w1 w2 := by rw [← hw2]; exact (Below.refl _ _).alloc (Nat.le_refl _) _
      exact ⟨_, rfl, hput (i := 1) (by omega) (rd_row hrow 2 rfl) hb2⟩
    | 2, _, ho =>
      cases ho
      refine wpOp_now rfl rfl ?_
      exact hput (i := 2) (by omega) (v := a.eval (.tmp 0)) (hI.fix (0, _) (by simp)) (Below.refl _ _)
    | 3, _, ho =>
      cases ho
      refine wpOp_now rfl rfl ?_
      exact hput (i := 3) (by omega) (v := a.eval (.tmp 2)) (hI.fix (2, _) (by simp)) (Below.refl _ _)
    | 4, _, ho =>
      cases ho
      refine wpOp_now rfl rfl ?_
      have d2 := hI.ok 2 (hdep ⟨2, .data⟩ (by simp) rfl)
      have d3 := hI.ok 3 (hdep ⟨3, .data⟩ (by simp) rfl)
      have e13 : a.eval (.tmp 13) = .string p := d2
      have e14 : a.eval (.tmp 14) = .int .i64 f := d3
      have hrun := run_slice_string (P := Try.prog) w1 9 p .i64 .i64 2 f Try.underlying9 (by omega) (by omega) (by omega)
      exact wp_value (.string (p.extract 2 f)) (by have ec : a.eval (.const (.int .i64 2)) = .int .i64 2 := rfl; generalize a.eval = ρ at e13 e14 ec ⊢; simp [execOp, e13, e14, ec, hrun, go_sem]) (hput (i := 4) (by omega) rfl (Below.refl _ _))
    | 5, _, ho =>
      cases ho
      refine wpOp_now rfl rfl ?_
      have d4 := hI.ok 4 (hdep ⟨4, .data⟩ (by simp) rfl)
      have e15 : a.eval (.tmp 15) = .string (p.extract 2 f) := d4
      have hrun := Lib.run_convert_string_bytes (P := Try.prog) w1 9 48 5 (p.extract 2 f) Try.underlying9 Try.underlying48 Try.underlying5
      exact wp_value (convV w1 (p.extract 2 f)) (w' := Lib.bytesWorld w1 5 (p.extract 2 f)) (by generalize a.eval = ρ at e15 ⊢; simp [execOp, e15, hrun, go_sem, convV]) (hput (i := 5) (by omega) (rd_conv w1 _) (below_conv w1 _))
    | 6, _, ho =>
      cases ho
      refine wpOp_now rfl rfl ?_
      exact hput (i := 6) (by omega) (v := a.eval (.tmp 4)) (by have := hI.fix (4, l) (by simp); show Rd w1 (a.eval (.tmp 4)) zs; rw [show a.eval (.tmp 4) = l from this]; exact hl.later hI.below) (Below.refl _ _)
    | 7, _, ho =>
      cases ho
      refine wpOp_now rfl rfl ?_
      exact hput (i := 7) (by omega) (v := a.eval (.tmp 0)) (hI.fix (0, _) (by simp)) (Below.refl _ _)
    | 8, _, ho =>
      cases ho
      refine wpOp_now rfl rfl ?_
      exact hput (i := 8) (by omega) (v := a.eval (.tmp 3)) (hI.fix (3, _) (by simp)) (Below.refl _ _)
    | 9, _, ho =>
      cases ho
      refine wpOp_now rfl rfl ?_
      have d7 := hI.ok 7 (hdep ⟨7, .data⟩ (by simp) rfl)
      have d8 := hI.ok 8 (hdep ⟨8, .data⟩ (by simp) rfl)
      have e18 : a.eval (.tmp 18) = .string p := d7
      have e19 : a.eval (.tmp 19) = .int .i64 t := d8
      have hrun := run_slice_string_l (P := Try.prog) w1 9 p Try.underlying9 .i64 t (by omega) (by omega)
      exact wp_value (.string (p.extract t p.size)) (by generalize a.eval = ρ at e18 e19 ⊢; simp [execOp, e18, e19, hrun, go_sem]) (hput (i := 9) (by omega) rfl (Below.refl _ _))
    | 10, _, ho =>
      cases ho
      refine wpOp_now rfl rfl ?_
      have d9 := hI.ok 9 (hdep ⟨9, .data⟩ (by simp) rfl)
      have e20 : a.eval (.tmp 20) = .string (p.extract t p.size) := d9
      have hrun := Lib.run_convert_string_bytes (P := Try.prog) w1 9 48 5 (p.extract t p.size) Try.underlying9 Try.underlying48 Try.underlying5
      exact wp_value (convV w1 (p.extract t p.size)) (w' := Lib.bytesWorld w1 5 (p.extract t p.size)) (by generalize a.eval = ρ at e20 ⊢; simp [execOp, e20, hrun, go_sem, convV]) (hput (i := 10) (by omega) (rd_conv w1 _) (below_conv w1 _))
    | 11, _, ho =>
      cases ho
      refine wpOp_now rfl rfl ?_
      have d1 := hI.ok 1 (hdep ⟨1, .data⟩ (by simp) rfl)
      have d5 := hI.ok 5 (hdep ⟨5, .data⟩ (by simp) rfl)
      have d6 := hI.ok 6 (hdep ⟨6, .data⟩ (by simp) rfl)
      have d10 := hI.ok 10 (hdep ⟨10, .data⟩ (by simp) rfl)
      obtain ⟨A1, c1, hv1⟩ := Rd.len d1
      obtain ⟨A2, c2, hv2⟩ := Rd.len d5
      obtain ⟨A3, c3, hv3⟩ := Rd.len d6
      obtain ⟨A4, c4, hv4⟩ := Rd.len d10
      have e12 : a.eval (.tmp 12) = .slice A1 [(n : Int) / 256, (n : Int) % 256].length c1 := hv1
      have e16 : a.eval (.tmp 16) = .slice A2 (bytesOf (p.extract 2 f)).length c2 := hv2
      have e17 : a.eval (.tmp 17) = .slice A3 zs.length c3 := hv3
      have e21 : a.eval (.tmp 21) = .slice A4 (bytesOf (p.extract t p.size)).length c4 := hv4
      rw [hv1] at d1
      rw [hv2] at d5
      rw [hv3] at d6
      rw [hv4] at d10
      generalize bytesOf (p.extract 2 f) = B2 at *
      have hbx := Box4.new w1 48 [.slice A1 [(n : Int) / 256, (n : Int) % 256].length c1, .slice A2 B2.length c2, .slice A3 zs.length c3, .slice A4 (bytesOf (p.extract t p.size)).length c4]
      have hb2 : Below w1.heap.size w1 (w1.alloc (.cells #[.slice A1 [(n : Int) / 256, (n : Int) % 256].length c1, .slice A2 B2.length c2, .slice A3 zs.length c3, .slice A4 (bytesOf (p.extract t p.size)).length c4] 48)) := (Below.refl _ _).alloc (Nat.le_refl _) _
      refine wp_value (w' := w1.alloc (.cells #[.slice A1 [(n : Int) / 256, (n : Int) % 256].length c1, .slice A2 B2.length c2, .slice A3 zs.length c3, .slice A4 (bytesOf (p.extract t p.size)).length c4] 48)) (.slice (some ⟨w1.heap.size, 0, none⟩) 4 4) (by generalize a.eval = ρ at e12 e16 e17 e21 ⊢; simp [execOp, e12, e16, e17, e21, go_sem]) (hput (i := 11) (by omega) ?_ hb2)
      exact ⟨_, rfl, by simp, _, _, _, _, hbx.cell 0 (by simp), hbx.cell 1 (by simp), hbx.cell 2 (by simp), hbx.cell 3 (by simp), d1.later hb2, d5.later hb2, d6.later hb2, d10.later hb2⟩
    | 12, _, ho =>
      cases ho
      refine wpOp_now rfl rfl ?_
      have d11 := hI.ok 11 (hdep ⟨11, .data⟩ (by simp) rfl)
      obtain ⟨g, hg, hgl, v1, v2, v3, v4, c1, c2, c3, c4, r1, r2, r3, r4⟩ := d11
      have e22 : a.eval (.tmp 22) = .slice (some ⟨g, 0, none⟩) 4 4 := hg
      refine wp_enter (w' := w1) 39 #[.slice (some ⟨g, 0, none⟩) 4 4] (by have ef : a.eval (.func 39) = .func (.func 39) #[] #[] := rfl; generalize a.eval = ρ at e22 ef ⊢; simp [execOp, resolve, invoke, e22, ef, go_sem]) ?_
      refine (concat_any g 4 [(v1, [(n : Int) / 256, (n : Int) % 256]), (v2, bytesOf (p.extract 2 f)), (v3, zs), (v4, bytesOf (p.extract t p.size))] 4 rfl (by omega) w1 hgl ?_ ?_ ?_).mono ?_
      · intro k hk
        match k, hk with
        | 0, _ => exact c1
        | 1, _ => exact c2
        | 2, _ => exact c3
        | 3, _ => exact c4
      · intro x hx
        simp only [List.mem_cons, List.not_mem_nil, or_false] at hx
        rcases hx with rfl | rfl | rfl | rfl
        · exact r1
        · exact r2
        · exact r3
        · exact r4
      · have q1 : (bytesOf (p.extract 2 f)).length ≤ 500000 + 500000 := by rw [bytesOf_length, ByteArray.size_extract]; omega
        have q2 : (bytesOf (p.extract t p.size)).length ≤ 1000000 := by rw [bytesOf_length, ByteArray.size_extract]; omega
        simp only [total, List.flatMap_cons, List.flatMap_nil, List.length_append, List.length_cons, List.length_nil]
        omega
      · rintro e w2 ⟨v, rfl, hO, hB⟩
        refine ⟨v, rfl, hput (i := 12) (by omega) ?_ hB⟩
        have hT : total [(v1, [(n : Int) / 256, (n : Int) % 256]), (v2, bytesOf (p.extract 2 f)), (v3, zs), (v4, bytesOf (p.extract t p.size))] = [(n : Int) / 256, (n : Int) % 256] ++ bytesOf (p.extract 2 f) ++ zs ++ bytesOf (p.extract t p.size) := by simp [total]
        rw [hT] at hO
        exact own_mono hO hI.below.size
    | 13, _, ho =>
      cases ho
      refine wpOp_now rfl rfl ?_
      have d12 := hI.ok 12 (hdep ⟨12, .data⟩ (by simp) rfl)
      have hcv := own_string (P := Try.prog) (src := 48) (dst := 9) Try.underlying48 Try.underlying5 Try.underlying9 d12
      have hcv' : (convert 48 9 (a.eval (.tmp 23))).run Try.prog w1 = _ := hcv
      refine wp_value (w' := w1) (.string (strOfNums ([(n : Int) / 256, (n : Int) % 256] ++ bytesOf (p.extract 2 f) ++ zs ++ bytesOf (p.extract t p.size)))) (by generalize a.eval = ρ at hcv' ⊢; simp [execOp, hcv']) (hput (i := 13) (by omega) rfl (Below.refl _ _))
    | 14, _, ho =>
      cases ho
      refine wpOp_now rfl rfl ?_
      have d13 := hI.ok 13 (hdep ⟨13, .data⟩ (by simp) rfl)
      exact hput (i := 14) (by omega) (v := a.eval (.tmp 24)) d13 (Below.refl _ _)
  · intro listed a w1 hI hr
    have hl14 : listed.getD 14 false = true := all_listed (by rw [hI.len]; rfl) (by kernel_rfl) hr 14 (by decide)
    have h14 : a.tmps.getD 10 undef = _ := hI.ok 14 hl14
    have hB := hI.below
    have hdf := hI.defers
    show Exit.then _ _ Exit.normal a w1
    dsimp only [Exit.then]
    apply_assumption
    refine wp_ret ?_
    refine bodyPost_ret (results_tmp rfl _ _ _) hdf ⟨?_, hB⟩
    rw [h14]
    simp

end Go.Proofs.Ytcjjeookfnmjcaa
