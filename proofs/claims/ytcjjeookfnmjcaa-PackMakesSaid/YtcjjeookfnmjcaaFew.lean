import Derived.Test.YtcjjeookfnmjcaaRegionLate
import Derived.Test.YtcjjeookfnmjcaaShown
namespace Go.Proofs.Ytcjjeookfnmjcaa
open Go.RowKit Go.Proofs.YtcjjeookfnmjcaaW.PrintWords
set_option linter.unusedVariables false

/-- An entry of a member of at most seventy bytes. -/
def cutE (e : Ent) : Ent := (e.1.extract 0 (min e.1.size 70), e.2)
def few (l : List Ent) : List Ent := (l.take 210).map cutE

theorem row_reads {w : World} {base n cap : Nat} {A : Option Addr} {e : TypeId} {l : List Ent} (h : w.ownsRow base e 2 (.slice A n cap) n (l.flatMap entC)) (hn : l.length = n) : Els w A l := by
  intro i hi
  obtain ⟨g, cap', hv⟩ := own_at h (by omega)
  cases hv
  exact ⟨g, 0, rfl, by rw [Nat.zero_add]; exact row_at entC (fun _ => rfl) h i hi 0 _ rfl, by rw [Nat.zero_add]; exact row_at entC (fun _ => rfl) h i hi 1 _ rfl⟩

/-- What the slots of the drawn region of Few hold. -/
def fwV (A : Value) (k : Nat) (b o : Nat) (m : ByteArray) (q : Nat) (sc : Int) (vl : Value) (base : Nat) (xs : List Value) : Nat → World → Value → Prop
  | 0, _, v => v = vl
  | 1, _, v => v = A
  | 2, _, v => v = .int .i64 k
  | 3, _, v => v = .pointer (some ⟨b, o, none⟩)
  | 4, _, v => v = .pointer (some ⟨b, o, none⟩)
  | 5, _, v => v = .string m
  | 6, _, v => v = A
  | 7, _, v => v = .int .i64 k
  | 8, _, v => v = .pointer (some ⟨b, o, none⟩)
  | 9, _, v => v = .pointer (some ⟨b, o, none⟩)
  | 10, _, v => v = .string m
  | 11, _, v => v = .int .i64 m.size
  | 12, _, v => v = .int .i64 q
  | 13, _, v => v = .string (m.extract 0 q)
  | 14, _, v => v = A
  | 15, _, v => v = .int .i64 k
  | 16, _, v => v = .pointer (some ⟨b, o, none⟩)
  | 17, _, v => v = .pointer (some ⟨b, o + 1, none⟩)
  | 18, _, v => v = .int .i64 sc
  | 19, _, v => v = .agg #[.string (m.extract 0 q), .int .i64 sc]
  | 20, w, v => ∃ g, v = .slice (some ⟨g, 0, none⟩) 1 1 ∧ Box4 w g 35 [.string (m.extract 0 q), .int .i64 sc] ∧ some g ≠ vl.ownBlock
  | 21, w, v => w.ownsRow base 35 2 v (k + 1) (xs ++ entC (m.extract 0 q, sc))
  | 22, w, v => w.ownsRow base 35 2 v (k + 1) (xs ++ entC (m.extract 0 q, sc))
  | _, _, _ => True

theorem fwV_later {A : Value} {k : Nat} {b o : Nat} {m : ByteArray} {q : Nat} {sc : Int} {vl : Value} {base : Nat} {xs : List Value} (j : Nat) (w w' : World) (v : Value) (h : fwV A k b o m q sc vl base xs j w v) (hb' : Below w.heap.size w w') : fwV A k b o m q sc vl base xs j w' v := by
  match j, h with
  | 0, h => exact h
  | 1, h => exact h
  | 2, h => exact h
  | 3, h => exact h
  | 4, h => exact h
  | 5, h => exact h
  | 6, h => exact h
  | 7, h => exact h
  | 8, h => exact h
  | 9, h => exact h
  | 10, h => exact h
  | 11, h => exact h
  | 12, h => exact h
  | 13, h => exact h
  | 14, h => exact h
  | 15, h => exact h
  | 16, h => exact h
  | 17, h => exact h
  | 18, h => exact h
  | 19, h => exact h
  | 20, h =>
    obtain ⟨g, h1, h2, h3⟩ := h
    exact ⟨g, h1, (hb'.block g h2.lt).trans h2, h3⟩
  | 21, h => exact own_later h hb'
  | 22, h => exact own_later h hb'
  | _ + 23, _ => trivial
theorem fwV_grown {A : Value} {k : Nat} {b o : Nat} {m : ByteArray} {q : Nat} {sc : Int} {vl : Value} {base : Nat} {xs : List Value} (j : Nat) (w w' : World) (v : Value) (hj : j < 21) (h : fwV A k b o m q sc vl base xs j w v) (hg : w.grownBy w' vl.ownBlock) : fwV A k b o m q sc vl base xs j w' v := by
  match j, hj, h with
  | 0, _, h => exact h
  | 1, _, h => exact h
  | 2, _, h => exact h
  | 3, _, h => exact h
  | 4, _, h => exact h
  | 5, _, h => exact h
  | 6, _, h => exact h
  | 7, _, h => exact h
  | 8, _, h => exact h
  | 9, _, h => exact h
  | 10, _, h => exact h
  | 11, _, h => exact h
  | 12, _, h => exact h
  | 13, _, h => exact h
  | 14, _, h => exact h
  | 15, _, h => exact h
  | 16, _, h => exact h
  | 17, _, h => exact h
  | 18, _, h => exact h
  | 19, _, h => exact h
  | 20, _, h =>
    obtain ⟨g, h1, h2, h3⟩ := h
    exact ⟨g, h1, h2.kept hg h3, h3⟩
  | _ + 21, hn, _ => exact absurd hn (by omega)
def fwD (j : Nat) : Nat := if j = 22 then 3 else 15 + j
theorem fwD_inj (i j : Nat) (hi : i < 23) (hj : j < 23) (h : fwD i = fwD j) : i = j := by
  unfold fwD at h
  split at h <;> split at h <;> omega
theorem fwD_lt (i : Nat) (hi : i < 23) : fwD i < 38 := by unfold fwD; split <;> omega
theorem fwD_fix {p b u v t : Value} (q : Nat × Value) (hq : q ∈ [(0, p), (1, u), (2, v), (4, b), (37, t)]) (i : Nat) (hi : i < 23) : fwD i ≠ q.1 := by
  simp only [List.mem_cons, List.not_mem_nil, or_false] at hq
  unfold fwD
  rcases hq with rfl | rfl | rfl | rfl | rfl <;> (dsimp only; split <;> omega)

theorem len_cons {l : List Value} {n : Nat} (h : l.length = n + 1) : ∃ x t, l = x :: t ∧ t.length = n := by
  cases l with
  | nil => simp at h
  | cons x t => exact ⟨x, t, rfl, by simpa using h⟩
theorem act38 {a : Act} (hd : a.defers = []) (h : a.tmps.size = 38) : ∃ t0 t1 t2 t3 t4 t5 t6 t7 t8 t9 t10 t11 t12 t13 t14 t15 t16 t17 t18 t19 t20 t21 t22 t23 t24 t25 t26 t27 t28 t29 t30 t31 t32 t33 t34 t35 t36 t37 : Value, a = { tmps := #[t0, t1, t2, t3, t4, t5, t6, t7, t8, t9, t10, t11, t12, t13, t14, t15, t16, t17, t18, t19, t20, t21, t22, t23, t24, t25, t26, t27, t28, t29, t30, t31, t32, t33, t34, t35, t36, t37], defers := [] } := by
  obtain ⟨⟨l⟩, ds⟩ := a
  dsimp only at hd h
  subst hd
  have h : l.length = 38 := h
  obtain ⟨t0, l0, rfl, h0⟩ := len_cons h
  obtain ⟨t1, l1, rfl, h1⟩ := len_cons h0
  obtain ⟨t2, l2, rfl, h2⟩ := len_cons h1
  obtain ⟨t3, l3, rfl, h3⟩ := len_cons h2
  obtain ⟨t4, l4, rfl, h4⟩ := len_cons h3
  obtain ⟨t5, l5, rfl, h5⟩ := len_cons h4
  obtain ⟨t6, l6, rfl, h6⟩ := len_cons h5
  obtain ⟨t7, l7, rfl, h7⟩ := len_cons h6
  obtain ⟨t8, l8, rfl, h8⟩ := len_cons h7
  obtain ⟨t9, l9, rfl, h9⟩ := len_cons h8
  obtain ⟨t10, l10, rfl, h10⟩ := len_cons h9
  obtain ⟨t11, l11, rfl, h11⟩ := len_cons h10
  obtain ⟨t12, l12, rfl, h12⟩ := len_cons h11
  obtain ⟨t13, l13, rfl, h13⟩ := len_cons h12
  obtain ⟨t14, l14, rfl, h14⟩ := len_cons h13
  obtain ⟨t15, l15, rfl, h15⟩ := len_cons h14
  obtain ⟨t16, l16, rfl, h16⟩ := len_cons h15
  obtain ⟨t17, l17, rfl, h17⟩ := len_cons h16
  obtain ⟨t18, l18, rfl, h18⟩ := len_cons h17
  obtain ⟨t19, l19, rfl, h19⟩ := len_cons h18
  obtain ⟨t20, l20, rfl, h20⟩ := len_cons h19
  obtain ⟨t21, l21, rfl, h21⟩ := len_cons h20
  obtain ⟨t22, l22, rfl, h22⟩ := len_cons h21
  obtain ⟨t23, l23, rfl, h23⟩ := len_cons h22
  obtain ⟨t24, l24, rfl, h24⟩ := len_cons h23
  obtain ⟨t25, l25, rfl, h25⟩ := len_cons h24
  obtain ⟨t26, l26, rfl, h26⟩ := len_cons h25
  obtain ⟨t27, l27, rfl, h27⟩ := len_cons h26
  obtain ⟨t28, l28, rfl, h28⟩ := len_cons h27
  obtain ⟨t29, l29, rfl, h29⟩ := len_cons h28
  obtain ⟨t30, l30, rfl, h30⟩ := len_cons h29
  obtain ⟨t31, l31, rfl, h31⟩ := len_cons h30
  obtain ⟨t32, l32, rfl, h32⟩ := len_cons h31
  obtain ⟨t33, l33, rfl, h33⟩ := len_cons h32
  obtain ⟨t34, l34, rfl, h34⟩ := len_cons h33
  obtain ⟨t35, l35, rfl, h35⟩ := len_cons h34
  obtain ⟨t36, l36, rfl, h36⟩ := len_cons h35
  obtain ⟨t37, l37, rfl, h37⟩ := len_cons h36
  obtain rfl := List.eq_nil_of_length_eq_zero h37
  exact ⟨t0, t1, t2, t3, t4, t5, t6, t7, t8, t9, t10, t11, t12, t13, t14, t15, t16, t17, t18, t19, t20, t21, t22, t23, t24, t25, t26, t27, t28, t29, t30, t31, t32, t33, t34, t35, t36, t37, rfl⟩

set_option maxRecDepth 100000 in
set_option maxHeartbeats 2000000 in
theorem few_any (A : Option Addr) (l : List Ent) (len c : Nat) (hlen : l.length = len) (hm : len ≤ 9223372036854775807) (w : World) (hr : Els w A l) :
    Calls Try.prog 12 #[.slice A len c] w fun e w' => ∃ v, e = .returned v ∧ w'.ownsRow w.heap.size 35 2 v (few l).length ((few l).flatMap entC) ∧ Below w.heap.size w w' := by
  obtain ⟨i0, hi, hz0, hz1, hz2⟩ := info_parts info35
  have HR := Lib.hid hr
  have HL := Lib.hid hlen
  clear hr hlen
  go_enter Try.func12, Try.ntmps12
  go_wp2_with fail
  go_loopw [3, 4] (fun v i wr => ∃ k : Nat, k ≤ len ∧ k ≤ 210 ∧ i = .int .i64 k ∧ wr.ownsRow w.heap.size 35 2 v k (((l.take k).map cutE).flatMap entC) ∧ Below w.heap.size w wr) (fun _ i _ => len - (intOf i).toNat)
  case atStart => exact ⟨0, by omega, by omega, rfl, World.ownsRow_nil _ _ _ _, Below.refl _ _⟩
  case round =>
    obtain ⟨k, hk, hk2, rfl, hro, hB⟩ := hrel
    have HQ := Lib.hid hro
    have hzr := hB.size
    obtain ⟨A4, c4, hv4⟩ := own_slice hro
    clear hro
    subst hv4
    by_cases hlt : k < len
    · by_cases h210 : k < 210
      · have hkl : k < l.length := by rw [HL.out]; exact hlt
        obtain ⟨b, o, rfl, hc0, hc1⟩ := HR.out k hkl
        obtain ⟨x, hx⟩ : ∃ x, l[k]'hkl = x := ⟨_, rfl⟩
        rw [hx] at hc0 hc1
        have HT := Lib.hid (show l.take (k + 1) = l.take k ++ [x] by rw [List.take_succ_eq_append_getElem hkl, hx])
        obtain ⟨m, sc⟩ := x
        dsimp only at hc0 hc1
        obtain ⟨q, hq⟩ : ∃ q, min m.size 70 = q := ⟨_, rfl⟩
        have HQQ := Lib.hid hq
        have hq1 : q ≤ m.size := by omega
        have hq2 : (min (m.size : Int) 70) = (q : Int) := by omega
        clear hq
        have hbl := World.block_lt_of_cell? w _ hc0
        replace hc0 := (hB.cell (p := ⟨b, o + k * 2, none⟩) hbl).trans hc0
        replace hc1 := (hB.cell (p := ⟨b, o + k * 2 + 1, none⟩) hbl).trans hc1
        have HC0 := Lib.hid hc0
        have HC1 := Lib.hid hc1
        have hbr : b < wr.heap.size := World.block_lt_of_cell? wr _ hc0
        have HW0 := Lib.hid (show w.cell? ⟨b, o + k * 2, none⟩ = some (.string m) from (hB.cell (p := ⟨b, o + k * 2, none⟩) hbl).symm.trans hc0)
        have HW1 := Lib.hid (show w.cell? ⟨b, o + k * 2 + 1, none⟩ = some (.int .i64 sc) from (hB.cell (p := ⟨b, o + k * 2 + 1, none⟩) hbl).symm.trans hc1)
        have hbw : b < w.heap.size := hbl
        clear hx hc0 hc1 hbl
        go_wp2_with fail
        refine wp_region_inv2 (RG 38 23 fwD [(0, .slice (some ⟨b, o, none⟩) len c), (1, undef), (2, .slice none 0 0), (4, .int .i64 k), (37, undef)] (fwV (.slice (some ⟨b, o, none⟩) len c) k b (o + k * 2) m q sc (.slice A4 k c4) w.heap.size (((l.take k).map cutE).flatMap entC))
          (fun w' => Below w.heap.size w w') (fun w' => w'.ownsRow w.heap.size 35 2 (.slice A4 k c4) k (((l.take k).map cutE).flatMap entC)) 22 21 (.slice A4 k c4)) (by kernel_rfl) ?_ ?_ ?_
        · refine ⟨rfl, rfl, rfl, ?_, hB.drew, ?_, fun _ => rfl, fun _ => HQ.out.drew⟩
          · intro q hq
            simp only [List.mem_cons, List.not_mem_nil, or_false] at hq
            rcases hq with rfl | rfl | rfl | rfl | rfl <;> rfl
          · intro j hj
            simp [Array.getD_eq_getD_getElem?, Array.getElem?_replicate] at hj
            split at hj <;> simp at hj
        · intro listed a w3 i hI hSh hrd
          obtain ⟨h1, oo, ho, hdep⟩ := mem_ready.1 hrd
          have hi23 : i < 23 := (Array.getElem?_eq_some_iff.1 ho).1
          have hput := fun {i : Nat} {v : Value} {w' : World} => hI.put (i := i) (v := v) (w' := w') fwD_inj fwD_fix fwD_lt (by omega)
          have hrel := hI.rel
          match i, hi23, ho with
          | 0, _, ho =>
          cases ho
          refine wpOp_now rfl rfl ?_
          have hl22 : listed.getD 22 false = false := by
            by_cases h22 : listed.getD 22 false = true
            · have g21 := hSh 22 _ rfl h22 ⟨21, .data⟩ (by simp) rfl
              have g0 := hSh 21 _ rfl g21 ⟨0, .data⟩ (by simp) rfl
              have hlt0 : 0 < listed.size := by rw [hI.len]; omega
              simp [Array.getD_eq_getD_getElem?, hlt0] at g0 h1
              rw [g0] at h1; cases h1
            · simpa using h22
          exact hput (i := 0) (by omega) (v := a.eval (.tmp 3)) (hI.late hl22) (fun j v _ _ h => h) hrel (fun _ h => h)
          | 1, _, ho =>
          cases ho
          refine wpOp_now rfl rfl ?_
          exact hput (i := 1) (by omega) (v := a.eval (.tmp 0)) (hI.fix (0, _) (by simp)) (fun j v _ _ h => h) hrel (fun _ h => h)
          | 2, _, ho =>
          cases ho
          refine wpOp_now rfl rfl ?_
          exact hput (i := 2) (by omega) (v := a.eval (.tmp 4)) (hI.fix (4, _) (by simp)) (fun j v _ _ h => h) hrel (fun _ h => h)
          | 3, _, ho =>
          cases ho
          refine wpOp_now rfl rfl ?_
          have d1 := hI.ok 1 (hdep ⟨1, .data⟩ (by simp) rfl)
          have d2 := hI.ok 2 (hdep ⟨2, .data⟩ (by simp) rfl)
          have ex : a.eval (.tmp 16) = .slice (some ⟨b, o, none⟩) len c := d1
          have ey : a.eval (.tmp 17) = .int .i64 k := d2
          exact wp_value (w' := w3) (.pointer (some ⟨b, o + k * 2, none⟩)) (by generalize a.eval = ρ at ex ey ⊢; simp [execOp, ex, ey, go_sem, hlt]) (hput (i := 3) (by omega) rfl (fun j v _ _ h => h) hrel (fun _ h => h))
          | 4, _, ho =>
          cases ho
          refine wpOp_now rfl rfl ?_
          have d3 := hI.ok 3 (hdep ⟨3, .data⟩ (by simp) rfl)
          have ex : a.eval (.tmp 18) = .pointer (some ⟨b, o + k * 2, none⟩) := d3
          exact wp_value (w' := w3) (.pointer (some ⟨b, o + k * 2, none⟩)) (by generalize a.eval = ρ at ex ⊢; simp [execOp, ex, go_sem]) (hput (i := 4) (by omega) rfl (fun j v _ _ h => h) hrel (fun _ h => h))
          | 5, _, ho =>
          cases ho
          refine wpOp_now rfl rfl ?_
          have d4 := hI.ok 4 (hdep ⟨4, .data⟩ (by simp) rfl)
          have ex : a.eval (.tmp 19) = .pointer (some ⟨b, o + k * 2, none⟩) := d4
          have g0 := (hrel.cell (p := ⟨b, o + k * 2, none⟩) hbw).trans HW0.out
          exact wp_value (w' := w3) (.string m) (by generalize a.eval = ρ at ex ⊢; simp [execOp, ex, g0, go_sem]) (hput (i := 5) (by omega) rfl (fun j v _ _ h => h) hrel (fun _ h => h))
          | 6, _, ho =>
          cases ho
          refine wpOp_now rfl rfl ?_
          exact hput (i := 6) (by omega) (v := a.eval (.tmp 0)) (hI.fix (0, _) (by simp)) (fun j v _ _ h => h) hrel (fun _ h => h)
          | 7, _, ho =>
          cases ho
          refine wpOp_now rfl rfl ?_
          exact hput (i := 7) (by omega) (v := a.eval (.tmp 4)) (hI.fix (4, _) (by simp)) (fun j v _ _ h => h) hrel (fun _ h => h)
          | 8, _, ho =>
          cases ho
          refine wpOp_now rfl rfl ?_
          have d6 := hI.ok 6 (hdep ⟨6, .data⟩ (by simp) rfl)
          have d7 := hI.ok 7 (hdep ⟨7, .data⟩ (by simp) rfl)
          have ex : a.eval (.tmp 21) = .slice (some ⟨b, o, none⟩) len c := d6
          have ey : a.eval (.tmp 22) = .int .i64 k := d7
          exact wp_value (w' := w3) (.pointer (some ⟨b, o + k * 2, none⟩)) (by generalize a.eval = ρ at ex ey ⊢; simp [execOp, ex, ey, go_sem, hlt]) (hput (i := 8) (by omega) rfl (fun j v _ _ h => h) hrel (fun _ h => h))
          | 9, _, ho =>
          cases ho
          refine wpOp_now rfl rfl ?_
          have d8 := hI.ok 8 (hdep ⟨8, .data⟩ (by simp) rfl)
          have ex : a.eval (.tmp 23) = .pointer (some ⟨b, o + k * 2, none⟩) := d8
          exact wp_value (w' := w3) (.pointer (some ⟨b, o + k * 2, none⟩)) (by generalize a.eval = ρ at ex ⊢; simp [execOp, ex, go_sem]) (hput (i := 9) (by omega) rfl (fun j v _ _ h => h) hrel (fun _ h => h))
          | 10, _, ho =>
          cases ho
          refine wpOp_now rfl rfl ?_
          have d9 := hI.ok 9 (hdep ⟨9, .data⟩ (by simp) rfl)
          have ex : a.eval (.tmp 24) = .pointer (some ⟨b, o + k * 2, none⟩) := d9
          have g0 := (hrel.cell (p := ⟨b, o + k * 2, none⟩) hbw).trans HW0.out
          exact wp_value (w' := w3) (.string m) (by generalize a.eval = ρ at ex ⊢; simp [execOp, ex, g0, go_sem]) (hput (i := 10) (by omega) rfl (fun j v _ _ h => h) hrel (fun _ h => h))
          | 11, _, ho =>
          cases ho
          refine wpOp_now rfl rfl ?_
          have d10 := hI.ok 10 (hdep ⟨10, .data⟩ (by simp) rfl)
          have ex : a.eval (.tmp 25) = .string m := d10
          exact wp_value (w' := w3) (.int .i64 m.size) (by generalize a.eval = ρ at ex ⊢; simp [execOp, resolve, invoke, builtin, ex, go_sem]) (hput (i := 11) (by omega) rfl (fun j v _ _ h => h) hrel (fun _ h => h))
          | 12, _, ho =>
          cases ho
          refine wpOp_now rfl rfl ?_
          have d11 := hI.ok 11 (hdep ⟨11, .data⟩ (by simp) rfl)
          have ex : a.eval (.tmp 26) = .int .i64 m.size := d11
          exact wp_value (w' := w3) (.int .i64 q) (by have ec : a.eval (.const (.int .i64 70)) = .int .i64 70 := rfl; generalize a.eval = ρ at ex ec ⊢; simp [execOp, resolve, invoke, builtin, ex, ec, go_sem, hq2]) (hput (i := 12) (by omega) rfl (fun j v _ _ h => h) hrel (fun _ h => h))
          | 13, _, ho =>
          cases ho
          refine wpOp_now rfl rfl ?_
          have d5 := hI.ok 5 (hdep ⟨5, .data⟩ (by simp) rfl)
          have d12 := hI.ok 12 (hdep ⟨12, .data⟩ (by simp) rfl)
          have ex : a.eval (.tmp 20) = .string m := d5
          have ey : a.eval (.tmp 27) = .int .i64 q := d12
          have hrun := run_slice_string_h (P := Try.prog) w3 9 m Try.underlying9 .i64 (q : Int) (by omega) (by omega)
          exact wp_value (w' := w3) (.string (m.extract 0 q)) (by generalize a.eval = ρ at ex ey ⊢; simp [execOp, ex, ey, hrun, go_sem]) (hput (i := 13) (by omega) rfl (fun j v _ _ h => h) hrel (fun _ h => h))
          | 14, _, ho =>
          cases ho
          refine wpOp_now rfl rfl ?_
          exact hput (i := 14) (by omega) (v := a.eval (.tmp 0)) (hI.fix (0, _) (by simp)) (fun j v _ _ h => h) hrel (fun _ h => h)
          | 15, _, ho =>
          cases ho
          refine wpOp_now rfl rfl ?_
          exact hput (i := 15) (by omega) (v := a.eval (.tmp 4)) (hI.fix (4, _) (by simp)) (fun j v _ _ h => h) hrel (fun _ h => h)
          | 16, _, ho =>
          cases ho
          refine wpOp_now rfl rfl ?_
          have d14 := hI.ok 14 (hdep ⟨14, .data⟩ (by simp) rfl)
          have d15 := hI.ok 15 (hdep ⟨15, .data⟩ (by simp) rfl)
          have ex : a.eval (.tmp 29) = .slice (some ⟨b, o, none⟩) len c := d14
          have ey : a.eval (.tmp 30) = .int .i64 k := d15
          exact wp_value (w' := w3) (.pointer (some ⟨b, o + k * 2, none⟩)) (by generalize a.eval = ρ at ex ey ⊢; simp [execOp, ex, ey, go_sem, hlt]) (hput (i := 16) (by omega) rfl (fun j v _ _ h => h) hrel (fun _ h => h))
          | 17, _, ho =>
          cases ho
          refine wpOp_now rfl rfl ?_
          have d16 := hI.ok 16 (hdep ⟨16, .data⟩ (by simp) rfl)
          have ex : a.eval (.tmp 31) = .pointer (some ⟨b, o + k * 2, none⟩) := d16
          exact wp_value (w' := w3) (.pointer (some ⟨b, o + k * 2 + 1, none⟩)) (by generalize a.eval = ρ at ex ⊢; simp [execOp, ex, go_sem]) (hput (i := 17) (by omega) rfl (fun j v _ _ h => h) hrel (fun _ h => h))
          | 18, _, ho =>
          cases ho
          refine wpOp_now rfl rfl ?_
          have d17 := hI.ok 17 (hdep ⟨17, .data⟩ (by simp) rfl)
          have ex : a.eval (.tmp 32) = .pointer (some ⟨b, o + k * 2 + 1, none⟩) := d17
          have g0 := (hrel.cell (p := ⟨b, o + k * 2 + 1, none⟩) hbw).trans HW1.out
          exact wp_value (w' := w3) (.int .i64 sc) (by generalize a.eval = ρ at ex ⊢; simp [execOp, ex, g0, go_sem]) (hput (i := 18) (by omega) rfl (fun j v _ _ h => h) hrel (fun _ h => h))
          | 19, _, ho =>
          cases ho
          refine wpOp_now rfl rfl ?_
          have d13 := hI.ok 13 (hdep ⟨13, .data⟩ (by simp) rfl)
          have d18 := hI.ok 18 (hdep ⟨18, .data⟩ (by simp) rfl)
          have ex : a.eval (.tmp 28) = .string (m.extract 0 q) := d13
          have ey : a.eval (.tmp 33) = .int .i64 sc := d18
          exact wp_value (w' := w3) (.agg #[.string (m.extract 0 q), .int .i64 sc]) (by generalize a.eval = ρ at ex ey ⊢; simp [execOp, ex, ey, go_sem]) (hput (i := 19) (by omega) rfl (fun j v _ _ h => h) hrel (fun _ h => h))
          | 20, _, ho =>
          cases ho
          refine wpOp_now rfl rfl ?_
          have d19 := hI.ok 19 (hdep ⟨19, .data⟩ (by simp) rfl)
          have ex : a.eval (.tmp 34) = .agg #[.string (m.extract 0 q), .int .i64 sc] := d19
          have hb2 : Below w3.heap.size w3 (w3.alloc (.cells #[.string (m.extract 0 q), .int .i64 sc] 35)) := (Below.refl _ _).alloc (Nat.le_refl _) _
          have hl21 : listed.getD 21 false = false := by
            by_cases h21 : listed.getD 21 false = true
            · have g0 := hSh 21 _ rfl h21 ⟨20, .data⟩ (by simp) rfl
              have hlt0 : 20 < listed.size := by rw [hI.len]; omega
              simp [Array.getD_eq_getD_getElem?, hlt0] at g0 h1
              rw [g0] at h1; cases h1
            · simpa using h21
          have hown := hI.wait hl21
          refine wp_value (w' := w3.alloc (.cells #[.string (m.extract 0 q), .int .i64 sc] 35)) (.slice (some ⟨w3.heap.size, 0, none⟩) 1 1) (by generalize a.eval = ρ at ex ⊢; simp [execOp, ex, go_sem]) (hput (i := 20) (by omega) ⟨w3.heap.size, rfl, Box4.new w3 35 _, fun e => absurd (hown.lt _ e.symm).2 (Nat.lt_irrefl _)⟩ (fun j v _ _ h => fwV_later j _ _ v h hb2) (hrel.trans (hb2.mono hrel.size)) (fun _ h => own_later h hb2))
          | 21, _, ho =>
          cases ho
          refine wpOp_now rfl rfl ?_
          have d0 := hI.ok 0 (hdep ⟨0, .data⟩ (by simp) rfl)
          have d20 := hI.ok 20 (hdep ⟨20, .data⟩ (by simp) rfl)
          obtain ⟨g, hg, hbx, hgn⟩ := d20
          have e15 : a.eval (.tmp 15) = (.slice A4 k c4) := d0
          have e35 : a.eval (.tmp 35) = .slice (some ⟨g, 0, none⟩) 1 1 := hg
          have hnl : listed.getD 21 false = false := by
            have hlt0 : 21 < listed.size := by rw [hI.len]; omega
            simp [Array.getD_eq_getD_getElem?, hlt0] at h1 ⊢; exact h1
          have hnl2 : listed.getD 22 false = false := by
            by_cases h22 : listed.getD 22 false = true
            · have g21 := hSh 22 _ rfl h22 ⟨21, .data⟩ (by simp) rfl
              rw [g21] at hnl; cases hnl
            · simpa using h22
          have hown := hI.wait hnl
          obtain ⟨v6, w6, hrun, hO6, hG6, _⟩ := run_append_own (P := Try.prog) w3 w.heap.size 22 22 35 i0 _ 2 24 Try.underlying22 hi hz0 hz1 hz2 rfl (by decide) (.slice A4 k c4) k _ hown ⟨g, 0, none⟩ 1 1 (entC (m.extract 0 q, sc)) rfl (fun j u hj => by
            obtain ⟨hlt1, rfl⟩ := List.getElem?_eq_some_iff.1 hj
            rw [Go.WideShapes.add_plain, Nat.zero_add]
            exact hbx.cell j hlt1) (by simp [entC, Value.oneCell']) (by unfold maxLen; omega) (by omega) hrel.size
          refine wp_value (w' := w6) v6 (by generalize a.eval = ρ at e15 e35 ⊢; simp [execOp, resolve, invoke, builtin, e15, e35, hrun, Result.andThen]) (hput (i := 21) (by omega) hO6 (fun j v hj hl h => ?_) (hrel.grown hG6 hrel.size (fun b e => (hown.lt b e).1)) (fun h => absurd rfl h))
          have hj21 : j < 21 ∨ j = 22 ∨ 22 < j := by omega
          rcases hj21 with hj21 | rfl | hj21
          · exact fwV_grown j _ _ v hj21 h hG6
          · rw [hnl2] at hl; cases hl
          · obtain ⟨j', rfl⟩ : ∃ j', j = j' + 23 := ⟨j - 23, by omega⟩
            trivial
          | 22, _, ho =>
          cases ho
          refine wpOp_now rfl rfl ?_
          have d21 := hI.ok 21 (hdep ⟨21, .data⟩ (by simp) rfl)
          exact hput (i := 22) (by omega) (v := a.eval (.tmp 36)) d21 (fun j v _ _ h => h) hrel (fun _ h => h)
        · intro listed a w3 hI hrd
          have hl := all_listed (ops := _) (listed := listed) (by rw [hI.len]; rfl) (by kernel_rfl) hrd
          have h22 := hI.ok 22 (hl 22 (by decide))
          have f0 := hI.fix (0, .slice (some ⟨b, o, none⟩) len c) (by simp)
          have f1 := hI.fix (1, undef) (by simp)
          have f2 := hI.fix (2, .slice none 0 0) (by simp)
          have f4 := hI.fix (4, .int .i64 k) (by simp)
          have f37 := hI.fix (37, undef) (by simp)
          have hB3 := hI.rel
          obtain ⟨t0, t1, t2, t3, t4, t5, t6, t7, t8, t9, t10, t11, t12, t13, t14, t15, t16, t17, t18, t19, t20, t21, t22, t23, t24, t25, t26, t27, t28, t29, t30, t31, t32, t33, t34, t35, t36, t37, rfl⟩ := act38 hI.defers hI.size
          clear hI
          obtain rfl : t0 = _ := f0
          obtain rfl : t1 = _ := f1
          obtain rfl : t2 = _ := f2
          obtain rfl : t4 = _ := f4
          obtain rfl : t37 = _ := f37
          have hO3 : w3.ownsRow w.heap.size 35 2 t3 (k + 1) _ := h22
          clear h22
          dsimp only [Exit.then] at hO3 ⊢
          apply_assumption
          go_wp2_with fail
          go_roundw
          case rel =>
            refine ⟨k + 1, by omega, by omega, by go_num, ?_, hB3⟩
            rw [HT.out]
            have : cutE (m, sc) = (m.extract 0 q, sc) := by unfold cutE; rw [HQQ.out]
            simpa [this] using hO3
          case measure => simp [intOf]; omega
      · obtain rfl : k = 210 := by omega
        have hO := HQ.out
        have hB' := hB
        go_wp2_with fail
        go_ret
        refine ⟨_, rfl, ?_, hB'⟩
        have hfl : (few l).length = 210 := by simp [few]; have := HL.out; omega
        rw [hfl]; exact hO
    · obtain rfl : k = len := by omega
      have hO := HQ.out
      have hB' := hB
      go_wp2_with fail
      go_ret
      refine ⟨_, rfl, ?_, hB'⟩
      have hfl : (few l).length = k := by simp [few]; have := HL.out; omega
      have hfe : few l = (l.take k).map cutE := by
        unfold few
        rw [List.take_of_length_le (by have := HL.out; omega), List.take_of_length_le (by have := HL.out; omega)]
      rw [hfl, hfe]; exact hO

end Go.Proofs.Ytcjjeookfnmjcaa
