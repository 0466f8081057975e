import Derived.Test.YtcjjeookfnmjcaaTurns
import Derived.Test.YtcjjeookfnmjcaaRefIns
namespace Go.Proofs.Ytcjjeookfnmjcaa
open Go.RowKit Go.Proofs.YtcjjeookfnmjcaaW.PrintWords
set_option linter.unusedVariables false

theorem refIns_any {w2 : World} {A : Option Addr} {c base n : Nat} {l : List Ent} (hn : l.length = n) (hO : w2.ownsRow base 35 2 (.slice A n c) n (l.flatMap entC)) (h210 : n ≤ 210) (k : Nat) (hk : k ≤ n) (m : ByteArray) (sc : Int) (w' : World) (hb : Below w2.heap.size w2 w') :
    Calls Try.prog 26 #[.slice A n c, .int .i64 k, .agg #[.string m, .int .i64 sc]] w' fun e w'' => ∃ v, e = .returned v ∧ w''.ownsRow w'.heap.size 35 2 v (insAt l k (m, sc)).length ((insAt l k (m, sc)).flatMap entC) ∧ Below w'.heap.size w' w'' := by
  have hE := (row_reads hO hn).later hb
  rcases hO.2 with ⟨hv, h0⟩ | ⟨g, cap, cur, hv, _, _, hnc, hcm, _⟩
  · cases hv
    have hl : l = [] := List.eq_nil_of_length_eq_zero hn
    subst hl
    obtain rfl : k = 0 := by omega
    exact refIns_nil m sc w'
  · cases hv
    exact refIns_some g 0 l n c hn h210 hnc (by unfold maxLen at hcm; omega) k hk m sc w' hE
theorem refDel_is {w2 : World} {A : Option Addr} {c base n : Nat} {l : List Ent} (hn : l.length = n) (hO : w2.ownsRow base 35 2 (.slice A n c) n (l.flatMap entC)) (h200 : n ≤ 200) (k : Nat) (hk : k < n) (w' : World) (hb : Below w2.heap.size w2 w') :
    Calls Try.prog 27 #[.slice A n c, .int .i64 k] w' fun e w'' => ∃ v, e = .returned v ∧ w''.ownsRow w'.heap.size 35 2 v (delAt l k).length ((delAt l k).flatMap entC) ∧ Below w'.heap.size w' w'' := by
  have hE := (row_reads hO hn).later hb
  rcases hO.2 with ⟨hv, h0⟩ | ⟨g, cap, cur, hv, _, _, hnc, hcm, _⟩
  · omega
  · cases hv
    exact refDel_any g 0 l n c hn h200 hnc (by unfold maxLen at hcm; omega) k hk w' hE

set_option maxHeartbeats 4000000 in
theorem changes_I3aD2 (A : Option Addr) (l0 l : List Ent) (len c0 : Nat) (hlen : l0.length = len) (hm : len ≤ 9223372036854775807) (hl : few l0 = l) (hl200 : l.length ≤ 200) (h200 : l.length ≠ 200) (m : ByteArray) (q : Nat) (hq : min m.size 70 = q) (sc : Int) (i : Int) (hi0 : i < 0)  (p : ByteArray)
    (hP : packS l = (p, 0)) (hI : ∀ w, Calls Try.prog 23 #[.string p, .int .i64 i, .agg #[.string (m.extract 0 q), .int .i64 sc]] w fun e' w' => e' = .returned (.tuple #[.string ⟨#[]⟩, .int .i64 2]) ∧ Below w.heap.size w w')
    (hD : ∀ w, Calls Try.prog 24 #[.string p, .int .i64 i] w fun e' w' => e' = .returned (.tuple #[.string ⟨#[]⟩, .int .i64 2]) ∧ Below w.heap.size w w')
    (hG : ∀ w, Calls Try.prog 25 #[.string p, .int .i64 i] w fun e' w' => e' = .returned (.tuple #[.agg #[.string ⟨#[]⟩, .int .i64 0], .int .i64 2]) ∧ Below w.heap.size w w')
    (w : World) (hr : Els w A l0) :
    Calls Try.prog 7 #[.slice A len c0, .int .i64 i, .agg #[.string m, .int .i64 sc]] w fun e w' => e = .returned (.bool true) ∧ Below w.heap.size w w' := by
  have HB := Lib.hid ((Below.refl w.heap.size w).alloc (Nat.le_refl _) (.cells #[.string m, .int .i64 sc] 35))
  have hF := fun w' (hb : Below w.heap.size w w') => few_any A l0 len c0 hlen hm w' (hr.later hb)
  simp only [hl] at hF
  have hq1 : q ≤ m.size := by omega
  have hq2 : (min (m.size : Int) 70) = (q : Int) := by omega
  obtain ⟨mq, hmqe⟩ : ∃ mq, m.extract 0 q = mq := ⟨_, rfl⟩
  have hmqs : mq.size = q := by rw [← hmqe, ByteArray.size_extract]; omega
  have HM := Lib.hid hmqe
  rw [hmqe] at hI
  have hn2' := Lib.hid (show ((l.length : Int) == 200) = false from beq_eq_false_iff_ne.2 (by omega))
  clear hr hl hlen hq hmqe h200
  go_enter Try.func7, Try.ntmps7
  go_wp2_with fail
  refine (shown_any _).mono ?_
  rintro e w1 ⟨rfl, hb1⟩
  have hB1 := HB.out.trans (hb1.mono (by simp))
  have hx1 : Box4 w1 w.heap.size 35 [.string m, .int .i64 sc] := (hb1.block _ (by simp)).trans (Box4.new w 35 _)
  clear hb1
  go_wp2_with fail
  refine (hF _ hB1).mono ?_
  rintro e w2 ⟨v2, rfl, hO2, hb2⟩
  obtain ⟨A2, c2, rfl⟩ := own_slice hO2
  have hB2 := hB1.trans (hb2.mono hB1.size)
  have hx2 : Box4 w2 w.heap.size 35 [.string m, .int .i64 sc] := (hb2.block _ hx1.lt).trans hx1
  obtain ⟨k0, k1⟩ := box2 (w' := w2) hx2
  have kf : w2.frozen? ⟨w.heap.size, 0, none⟩ = false := by simp [World.frozen?, show w2.heap[w.heap.size]? = _ from hx2]
  have hO2' := ownsRow_setCell_below hO2 (a := ⟨w.heap.size, 0, none⟩) hx1.lt (.string mq)
  have hx2' : Box4 (w2.setCell ⟨w.heap.size, 0, none⟩ (.string mq)) w.heap.size 35 [.string mq, .int .i64 sc] := hx2.set 0 (.string mq)
  have hB2' := hB2.setCell (p := ⟨w.heap.size, 0, none⟩) (Nat.le_refl _) (.string mq)
  have hms : m.extract 0 q = mq := HM.out
  clear hF hO2 hb2 hB1 hx1
  go_wp2_with fail
  clear k0 k1 kf hB2 hx2 hms
  generalize w2.setCell ⟨w.heap.size, 0, none⟩ (.string mq) = w3 at *
  have hPk := pack_any A2 l l.length c2 rfl w3 (row_reads hO2' rfl)
  rw [hP] at hPk
  refine hPk.mono ?_
  rintro e w4 ⟨rfl, hb4⟩
  have hB4 := hB2'.trans (hb4.mono hB2'.size)
  have hx4 : Box4 w4 w.heap.size 35 [.string mq, .int .i64 sc] := (hb4.block _ hx2'.lt).trans hx2'
  have hO4 := own_later hO2' hb4
  obtain ⟨k0, k1⟩ := box2 (w' := w4) hx4
  clear hb4 hB2' hx2' hO2' hPk
  go_wp2_with fail
  refine (hI _).mono ?_
  rintro e w5 ⟨rfl, hb5⟩
  have hB5 := hB4.trans (hb5.mono hB4.size)
  have hx5 : Box4 w5 w.heap.size 35 [.string mq, .int .i64 sc] := (hb5.block _ hx4.lt).trans hx4
  have hO5 := own_later hO4 hb5
  clear hb5 hB4 hx4 hO4 k0 k1
  go_wp2_with fail
  refine (hD _).mono ?_
  rintro e w6 ⟨rfl, hb6⟩
  have hB6 := hB5.trans (hb6.mono hB5.size)
  have hx6 : Box4 w6 w.heap.size 35 [.string mq, .int .i64 sc] := (hb6.block _ hx5.lt).trans hx5
  have hO6 := own_later hO5 hb6
  clear hb6 hB5 hx5 hO5
  go_wp2_with fail
  refine (hG _).mono ?_
  rintro e w7 ⟨rfl, hb7⟩
  have hB7 := hB6.trans (hb7.mono hB6.size)
  have hx7 : Box4 w7 w.heap.size 35 [.string mq, .int .i64 sc] := (hb7.block _ hx6.lt).trans hx6
  have hO7 := own_later hO6 hb7
  clear hb7 hB6 hx6 hO6
  obtain ⟨Y, hY⟩ : ∃ Y, Value.string ⟨#[]⟩ = Y := ⟨_, rfl⟩
  have HB8 := Lib.hid (hB7.alloc hB7.size (.cells #[.string ⟨#[]⟩, .int .i64 0] 35))
  have hx8 : Box4 (w7.alloc (.cells #[.string ⟨#[]⟩, .int .i64 0] 35)) w.heap.size 35 [.string mq, .int .i64 sc] := Box4.alloc hx7 _
  have hy8 := Box4.new w7 35 [.string ⟨#[]⟩, .int .i64 0]
  have hO8 := hO7.alloc (.cells #[.string ⟨#[]⟩, .int .i64 0] 35)
  obtain ⟨k0, k1⟩ := box2 (w' := w7) hx7
  have hlt7 := hx7.lt
  clear hY hO7
  have hn2 := hn2'.out
  have hy11 := Box4.alloc hy8 (.cells #[.string ⟨#[]⟩, .int .i64 0] 35)
  have hz11 := Box4.new (w7.alloc (.cells #[.string ⟨#[]⟩, .int .i64 0] 35)) 35 [.string ⟨#[]⟩, .int .i64 0]
  have hB11 := Lib.hid ((HB8.out).alloc (HB8.out).size (.cells #[.string ⟨#[]⟩, .int .i64 0] 35))
  have y0 := hy11.cell 0 (by simp)
  have y1 := hy11.cell 1 (by simp)
  have z0 := hz11.cell 0 (by simp)
  have z1 := hz11.cell 1 (by simp)
  have hylt := hy8.lt
  simp only [List.getElem_cons_zero, List.getElem_cons_succ] at y0 y1 z0 z1
  go_wp2_with fail
  go_ret
  exact ⟨rfl, hB11.out⟩

set_option maxHeartbeats 4000000 in
theorem changes_I4aD2 (A : Option Addr) (l0 l : List Ent) (len c0 : Nat) (hlen : l0.length = len) (hm : len ≤ 9223372036854775807) (hl : few l0 = l) (hl200 : l.length ≤ 200) (h200 : l.length = 200) (m : ByteArray) (q : Nat) (hq : min m.size 70 = q) (sc : Int) (i : Int) (hi0 : i < 0)  (p : ByteArray)
    (hP : packS l = (p, 0)) (hI : ∀ w, Calls Try.prog 23 #[.string p, .int .i64 i, .agg #[.string (m.extract 0 q), .int .i64 sc]] w fun e' w' => e' = .returned (.tuple #[.string ⟨#[]⟩, .int .i64 51]) ∧ Below w.heap.size w w')
    (hD : ∀ w, Calls Try.prog 24 #[.string p, .int .i64 i] w fun e' w' => e' = .returned (.tuple #[.string ⟨#[]⟩, .int .i64 2]) ∧ Below w.heap.size w w')
    (hG : ∀ w, Calls Try.prog 25 #[.string p, .int .i64 i] w fun e' w' => e' = .returned (.tuple #[.agg #[.string ⟨#[]⟩, .int .i64 0], .int .i64 2]) ∧ Below w.heap.size w w')
    (w : World) (hr : Els w A l0) :
    Calls Try.prog 7 #[.slice A len c0, .int .i64 i, .agg #[.string m, .int .i64 sc]] w fun e w' => e = .returned (.bool true) ∧ Below w.heap.size w w' := by
  have HB := Lib.hid ((Below.refl w.heap.size w).alloc (Nat.le_refl _) (.cells #[.string m, .int .i64 sc] 35))
  have hF := fun w' (hb : Below w.heap.size w w') => few_any A l0 len c0 hlen hm w' (hr.later hb)
  simp only [hl] at hF
  have hq1 : q ≤ m.size := by omega
  have hq2 : (min (m.size : Int) 70) = (q : Int) := by omega
  obtain ⟨mq, hmqe⟩ : ∃ mq, m.extract 0 q = mq := ⟨_, rfl⟩
  have hmqs : mq.size = q := by rw [← hmqe, ByteArray.size_extract]; omega
  have HM := Lib.hid hmqe
  rw [hmqe] at hI
  have hn2' := Lib.hid (show ((l.length : Int) == 200) = true from beq_iff_eq.2 (by omega))
  clear hr hl hlen hq hmqe h200
  go_enter Try.func7, Try.ntmps7
  go_wp2_with fail
  refine (shown_any _).mono ?_
  rintro e w1 ⟨rfl, hb1⟩
  have hB1 := HB.out.trans (hb1.mono (by simp))
  have hx1 : Box4 w1 w.heap.size 35 [.string m, .int .i64 sc] := (hb1.block _ (by simp)).trans (Box4.new w 35 _)
  clear hb1
  go_wp2_with fail
  refine (hF _ hB1).mono ?_
  rintro e w2 ⟨v2, rfl, hO2, hb2⟩
  obtain ⟨A2, c2, rfl⟩ := own_slice hO2
  have hB2 := hB1.trans (hb2.mono hB1.size)
  have hx2 : Box4 w2 w.heap.size 35 [.string m, .int .i64 sc] := (hb2.block _ hx1.lt).trans hx1
  obtain ⟨k0, k1⟩ := box2 (w' := w2) hx2
  have kf : w2.frozen? ⟨w.heap.size, 0, none⟩ = false := by simp [World.frozen?, show w2.heap[w.heap.size]? = _ from hx2]
  have hO2' := ownsRow_setCell_below hO2 (a := ⟨w.heap.size, 0, none⟩) hx1.lt (.string mq)
  have hx2' : Box4 (w2.setCell ⟨w.heap.size, 0, none⟩ (.string mq)) w.heap.size 35 [.string mq, .int .i64 sc] := hx2.set 0 (.string mq)
  have hB2' := hB2.setCell (p := ⟨w.heap.size, 0, none⟩) (Nat.le_refl _) (.string mq)
  have hms : m.extract 0 q = mq := HM.out
  clear hF hO2 hb2 hB1 hx1
  go_wp2_with fail
  clear k0 k1 kf hB2 hx2 hms
  generalize w2.setCell ⟨w.heap.size, 0, none⟩ (.string mq) = w3 at *
  have hPk := pack_any A2 l l.length c2 rfl w3 (row_reads hO2' rfl)
  rw [hP] at hPk
  refine hPk.mono ?_
  rintro e w4 ⟨rfl, hb4⟩
  have hB4 := hB2'.trans (hb4.mono hB2'.size)
  have hx4 : Box4 w4 w.heap.size 35 [.string mq, .int .i64 sc] := (hb4.block _ hx2'.lt).trans hx2'
  have hO4 := own_later hO2' hb4
  obtain ⟨k0, k1⟩ := box2 (w' := w4) hx4
  clear hb4 hB2' hx2' hO2' hPk
  go_wp2_with fail
  refine (hI _).mono ?_
  rintro e w5 ⟨rfl, hb5⟩
  have hB5 := hB4.trans (hb5.mono hB4.size)
  have hx5 : Box4 w5 w.heap.size 35 [.string mq, .int .i64 sc] := (hb5.block _ hx4.lt).trans hx4
  have hO5 := own_later hO4 hb5
  clear hb5 hB4 hx4 hO4 k0 k1
  go_wp2_with fail
  refine (hD _).mono ?_
  rintro e w6 ⟨rfl, hb6⟩
  have hB6 := hB5.trans (hb6.mono hB5.size)
  have hx6 : Box4 w6 w.heap.size 35 [.string mq, .int .i64 sc] := (hb6.block _ hx5.lt).trans hx5
  have hO6 := own_later hO5 hb6
  clear hb6 hB5 hx5 hO5
  go_wp2_with fail
  refine (hG _).mono ?_
  rintro e w7 ⟨rfl, hb7⟩
  have hB7 := hB6.trans (hb7.mono hB6.size)
  have hx7 : Box4 w7 w.heap.size 35 [.string mq, .int .i64 sc] := (hb7.block _ hx6.lt).trans hx6
  have hO7 := own_later hO6 hb7
  clear hb7 hB6 hx6 hO6
  obtain ⟨Y, hY⟩ : ∃ Y, Value.string ⟨#[]⟩ = Y := ⟨_, rfl⟩
  have HB8 := Lib.hid (hB7.alloc hB7.size (.cells #[.string ⟨#[]⟩, .int .i64 0] 35))
  have hx8 : Box4 (w7.alloc (.cells #[.string ⟨#[]⟩, .int .i64 0] 35)) w.heap.size 35 [.string mq, .int .i64 sc] := Box4.alloc hx7 _
  have hy8 := Box4.new w7 35 [.string ⟨#[]⟩, .int .i64 0]
  have hO8 := hO7.alloc (.cells #[.string ⟨#[]⟩, .int .i64 0] 35)
  obtain ⟨k0, k1⟩ := box2 (w' := w7) hx7
  have hlt7 := hx7.lt
  clear hY hO7
  have hn2 := hn2'.out
  have hy11 := Box4.alloc hy8 (.cells #[.string ⟨#[]⟩, .int .i64 0] 35)
  have hz11 := Box4.new (w7.alloc (.cells #[.string ⟨#[]⟩, .int .i64 0] 35)) 35 [.string ⟨#[]⟩, .int .i64 0]
  have hB11 := Lib.hid ((HB8.out).alloc (HB8.out).size (.cells #[.string ⟨#[]⟩, .int .i64 0] 35))
  have y0 := hy11.cell 0 (by simp)
  have y1 := hy11.cell 1 (by simp)
  have z0 := hz11.cell 0 (by simp)
  have z1 := hz11.cell 1 (by simp)
  have hylt := hy8.lt
  simp only [List.getElem_cons_zero, List.getElem_cons_succ] at y0 y1 z0 z1
  go_wp2_with fail
  go_ret
  exact ⟨rfl, hB11.out⟩

set_option maxHeartbeats 4000000 in
theorem changes_I3bD3 (A : Option Addr) (l0 l : List Ent) (len c0 : Nat) (hlen : l0.length = len) (hm : len ≤ 9223372036854775807) (hl : few l0 = l) (hl200 : l.length ≤ 200) (h200 : l.length ≠ 200) (m : ByteArray) (q : Nat) (hq : min m.size 70 = q) (sc : Int) (i : Int) (hi0 : 0 ≤ i) (hi1 : (l.length : Int) < i) (hin : (l.length : Int) ≤ i) (p : ByteArray)
    (hP : packS l = (p, 0)) (hI : ∀ w, Calls Try.prog 23 #[.string p, .int .i64 i, .agg #[.string (m.extract 0 q), .int .i64 sc]] w fun e' w' => e' = .returned (.tuple #[.string ⟨#[]⟩, .int .i64 2]) ∧ Below w.heap.size w w')
    (hD : ∀ w, Calls Try.prog 24 #[.string p, .int .i64 i] w fun e' w' => e' = .returned (.tuple #[.string ⟨#[]⟩, .int .i64 2]) ∧ Below w.heap.size w w')
    (hG : ∀ w, Calls Try.prog 25 #[.string p, .int .i64 i] w fun e' w' => e' = .returned (.tuple #[.agg #[.string ⟨#[]⟩, .int .i64 0], .int .i64 2]) ∧ Below w.heap.size w w')
    (w : World) (hr : Els w A l0) :
    Calls Try.prog 7 #[.slice A len c0, .int .i64 i, .agg #[.string m, .int .i64 sc]] w fun e w' => e = .returned (.bool true) ∧ Below w.heap.size w w' := by
  have HB := Lib.hid ((Below.refl w.heap.size w).alloc (Nat.le_refl _) (.cells #[.string m, .int .i64 sc] 35))
  have hF := fun w' (hb : Below w.heap.size w w') => few_any A l0 len c0 hlen hm w' (hr.later hb)
  simp only [hl] at hF
  have hq1 : q ≤ m.size := by omega
  have hq2 : (min (m.size : Int) 70) = (q : Int) := by omega
  obtain ⟨mq, hmqe⟩ : ∃ mq, m.extract 0 q = mq := ⟨_, rfl⟩
  have hmqs : mq.size = q := by rw [← hmqe, ByteArray.size_extract]; omega
  have HM := Lib.hid hmqe
  rw [hmqe] at hI
  have hn2' := Lib.hid (show ((l.length : Int) == 200) = false from beq_eq_false_iff_ne.2 (by omega))
  clear hr hl hlen hq hmqe h200
  go_enter Try.func7, Try.ntmps7
  go_wp2_with fail
  refine (shown_any _).mono ?_
  rintro e w1 ⟨rfl, hb1⟩
  have hB1 := HB.out.trans (hb1.mono (by simp))
  have hx1 : Box4 w1 w.heap.size 35 [.string m, .int .i64 sc] := (hb1.block _ (by simp)).trans (Box4.new w 35 _)
  clear hb1
  go_wp2_with fail
  refine (hF _ hB1).mono ?_
  rintro e w2 ⟨v2, rfl, hO2, hb2⟩
  obtain ⟨A2, c2, rfl⟩ := own_slice hO2
  have hB2 := hB1.trans (hb2.mono hB1.size)
  have hx2 : Box4 w2 w.heap.size 35 [.string m, .int .i64 sc] := (hb2.block _ hx1.lt).trans hx1
  obtain ⟨k0, k1⟩ := box2 (w' := w2) hx2
  have kf : w2.frozen? ⟨w.heap.size, 0, none⟩ = false := by simp [World.frozen?, show w2.heap[w.heap.size]? = _ from hx2]
  have hO2' := ownsRow_setCell_below hO2 (a := ⟨w.heap.size, 0, none⟩) hx1.lt (.string mq)
  have hx2' : Box4 (w2.setCell ⟨w.heap.size, 0, none⟩ (.string mq)) w.heap.size 35 [.string mq, .int .i64 sc] := hx2.set 0 (.string mq)
  have hB2' := hB2.setCell (p := ⟨w.heap.size, 0, none⟩) (Nat.le_refl _) (.string mq)
  have hms : m.extract 0 q = mq := HM.out
  clear hF hO2 hb2 hB1 hx1
  go_wp2_with fail
  clear k0 k1 kf hB2 hx2 hms
  generalize w2.setCell ⟨w.heap.size, 0, none⟩ (.string mq) = w3 at *
  have hPk := pack_any A2 l l.length c2 rfl w3 (row_reads hO2' rfl)
  rw [hP] at hPk
  refine hPk.mono ?_
  rintro e w4 ⟨rfl, hb4⟩
  have hB4 := hB2'.trans (hb4.mono hB2'.size)
  have hx4 : Box4 w4 w.heap.size 35 [.string mq, .int .i64 sc] := (hb4.block _ hx2'.lt).trans hx2'
  have hO4 := own_later hO2' hb4
  obtain ⟨k0, k1⟩ := box2 (w' := w4) hx4
  clear hb4 hB2' hx2' hO2' hPk
  go_wp2_with fail
  refine (hI _).mono ?_
  rintro e w5 ⟨rfl, hb5⟩
  have hB5 := hB4.trans (hb5.mono hB4.size)
  have hx5 : Box4 w5 w.heap.size 35 [.string mq, .int .i64 sc] := (hb5.block _ hx4.lt).trans hx4
  have hO5 := own_later hO4 hb5
  clear hb5 hB4 hx4 hO4 k0 k1
  go_wp2_with fail
  refine (hD _).mono ?_
  rintro e w6 ⟨rfl, hb6⟩
  have hB6 := hB5.trans (hb6.mono hB5.size)
  have hx6 : Box4 w6 w.heap.size 35 [.string mq, .int .i64 sc] := (hb6.block _ hx5.lt).trans hx5
  have hO6 := own_later hO5 hb6
  clear hb6 hB5 hx5 hO5
  go_wp2_with fail
  refine (hG _).mono ?_
  rintro e w7 ⟨rfl, hb7⟩
  have hB7 := hB6.trans (hb7.mono hB6.size)
  have hx7 : Box4 w7 w.heap.size 35 [.string mq, .int .i64 sc] := (hb7.block _ hx6.lt).trans hx6
  have hO7 := own_later hO6 hb7
  clear hb7 hB6 hx6 hO6
  obtain ⟨Y, hY⟩ : ∃ Y, Value.string ⟨#[]⟩ = Y := ⟨_, rfl⟩
  have HB8 := Lib.hid (hB7.alloc hB7.size (.cells #[.string ⟨#[]⟩, .int .i64 0] 35))
  have hx8 : Box4 (w7.alloc (.cells #[.string ⟨#[]⟩, .int .i64 0] 35)) w.heap.size 35 [.string mq, .int .i64 sc] := Box4.alloc hx7 _
  have hy8 := Box4.new w7 35 [.string ⟨#[]⟩, .int .i64 0]
  have hO8 := hO7.alloc (.cells #[.string ⟨#[]⟩, .int .i64 0] 35)
  obtain ⟨k0, k1⟩ := box2 (w' := w7) hx7
  have hlt7 := hx7.lt
  clear hY hO7
  have hn2 := hn2'.out
  have hy11 := Box4.alloc hy8 (.cells #[.string ⟨#[]⟩, .int .i64 0] 35)
  have hz11 := Box4.new (w7.alloc (.cells #[.string ⟨#[]⟩, .int .i64 0] 35)) 35 [.string ⟨#[]⟩, .int .i64 0]
  have hB11 := Lib.hid ((HB8.out).alloc (HB8.out).size (.cells #[.string ⟨#[]⟩, .int .i64 0] 35))
  have y0 := hy11.cell 0 (by simp)
  have y1 := hy11.cell 1 (by simp)
  have z0 := hz11.cell 0 (by simp)
  have z1 := hz11.cell 1 (by simp)
  have hylt := hy8.lt
  simp only [List.getElem_cons_zero, List.getElem_cons_succ] at y0 y1 z0 z1
  go_wp2_with fail
  go_ret
  exact ⟨rfl, hB11.out⟩

set_option maxHeartbeats 4000000 in
theorem changes_I4bD3 (A : Option Addr) (l0 l : List Ent) (len c0 : Nat) (hlen : l0.length = len) (hm : len ≤ 9223372036854775807) (hl : few l0 = l) (hl200 : l.length ≤ 200) (h200 : l.length = 200) (m : ByteArray) (q : Nat) (hq : min m.size 70 = q) (sc : Int) (i : Int) (hi0 : 0 ≤ i) (hi1 : (l.length : Int) < i) (hin : (l.length : Int) ≤ i) (p : ByteArray)
    (hP : packS l = (p, 0)) (hI : ∀ w, Calls Try.prog 23 #[.string p, .int .i64 i, .agg #[.string (m.extract 0 q), .int .i64 sc]] w fun e' w' => e' = .returned (.tuple #[.string ⟨#[]⟩, .int .i64 51]) ∧ Below w.heap.size w w')
    (hD : ∀ w, Calls Try.prog 24 #[.string p, .int .i64 i] w fun e' w' => e' = .returned (.tuple #[.string ⟨#[]⟩, .int .i64 2]) ∧ Below w.heap.size w w')
    (hG : ∀ w, Calls Try.prog 25 #[.string p, .int .i64 i] w fun e' w' => e' = .returned (.tuple #[.agg #[.string ⟨#[]⟩, .int .i64 0], .int .i64 2]) ∧ Below w.heap.size w w')
    (w : World) (hr : Els w A l0) :
    Calls Try.prog 7 #[.slice A len c0, .int .i64 i, .agg #[.string m, .int .i64 sc]] w fun e w' => e = .returned (.bool true) ∧ Below w.heap.size w w' := by
  have HB := Lib.hid ((Below.refl w.heap.size w).alloc (Nat.le_refl _) (.cells #[.string m, .int .i64 sc] 35))
  have hF := fun w' (hb : Below w.heap.size w w') => few_any A l0 len c0 hlen hm w' (hr.later hb)
  simp only [hl] at hF
  have hq1 : q ≤ m.size := by omega
  have hq2 : (min (m.size : Int) 70) = (q : Int) := by omega
  obtain ⟨mq, hmqe⟩ : ∃ mq, m.extract 0 q = mq := ⟨_, rfl⟩
  have hmqs : mq.size = q := by rw [← hmqe, ByteArray.size_extract]; omega
  have HM := Lib.hid hmqe
  rw [hmqe] at hI
  have hn2' := Lib.hid (show ((l.length : Int) == 200) = true from beq_iff_eq.2 (by omega))
  clear hr hl hlen hq hmqe h200
  go_enter Try.func7, Try.ntmps7
  go_wp2_with fail
  refine (shown_any _).mono ?_
  rintro e w1 ⟨rfl, hb1⟩
  have hB1 := HB.out.trans (hb1.mono (by simp))
  have hx1 : Box4 w1 w.heap.size 35 [.string m, .int .i64 sc] := (hb1.block _ (by simp)).trans (Box4.new w 35 _)
  clear hb1
  go_wp2_with fail
  refine (hF _ hB1).mono ?_
  rintro e w2 ⟨v2, rfl, hO2, hb2⟩
  obtain ⟨A2, c2, rfl⟩ := own_slice hO2
  have hB2 := hB1.trans (hb2.mono hB1.size)
  have hx2 : Box4 w2 w.heap.size 35 [.string m, .int .i64 sc] := (hb2.block _ hx1.lt).trans hx1
  obtain ⟨k0, k1⟩ := box2 (w' := w2) hx2
  have kf : w2.frozen? ⟨w.heap.size, 0, none⟩ = false := by simp [World.frozen?, show w2.heap[w.heap.size]? = _ from hx2]
  have hO2' := ownsRow_setCell_below hO2 (a := ⟨w.heap.size, 0, none⟩) hx1.lt (.string mq)
  have hx2' : Box4 (w2.setCell ⟨w.heap.size, 0, none⟩ (.string mq)) w.heap.size 35 [.string mq, .int .i64 sc] := hx2.set 0 (.string mq)
  have hB2' := hB2.setCell (p := ⟨w.heap.size, 0, none⟩) (Nat.le_refl _) (.string mq)
  have hms : m.extract 0 q = mq := HM.out
  clear hF hO2 hb2 hB1 hx1
  go_wp2_with fail
  clear k0 k1 kf hB2 hx2 hms
  generalize w2.setCell ⟨w.heap.size, 0, none⟩ (.string mq) = w3 at *
  have hPk := pack_any A2 l l.length c2 rfl w3 (row_reads hO2' rfl)
  rw [hP] at hPk
  refine hPk.mono ?_
  rintro e w4 ⟨rfl, hb4⟩
  have hB4 := hB2'.trans (hb4.mono hB2'.size)
  have hx4 : Box4 w4 w.heap.size 35 [.string mq, .int .i64 sc] := (hb4.block _ hx2'.lt).trans hx2'
  have hO4 := own_later hO2' hb4
  obtain ⟨k0, k1⟩ := box2 (w' := w4) hx4
  clear hb4 hB2' hx2' hO2' hPk
  go_wp2_with fail
  refine (hI _).mono ?_
  rintro e w5 ⟨rfl, hb5⟩
  have hB5 := hB4.trans (hb5.mono hB4.size)
  have hx5 : Box4 w5 w.heap.size 35 [.string mq, .int .i64 sc] := (hb5.block _ hx4.lt).trans hx4
  have hO5 := own_later hO4 hb5
  clear hb5 hB4 hx4 hO4 k0 k1
  go_wp2_with fail
  refine (hD _).mono ?_
  rintro e w6 ⟨rfl, hb6⟩
  have hB6 := hB5.trans (hb6.mono hB5.size)
  have hx6 : Box4 w6 w.heap.size 35 [.string mq, .int .i64 sc] := (hb6.block _ hx5.lt).trans hx5
  have hO6 := own_later hO5 hb6
  clear hb6 hB5 hx5 hO5
  go_wp2_with fail
  refine (hG _).mono ?_
  rintro e w7 ⟨rfl, hb7⟩
  have hB7 := hB6.trans (hb7.mono hB6.size)
  have hx7 : Box4 w7 w.heap.size 35 [.string mq, .int .i64 sc] := (hb7.block _ hx6.lt).trans hx6
  have hO7 := own_later hO6 hb7
  clear hb7 hB6 hx6 hO6
  obtain ⟨Y, hY⟩ : ∃ Y, Value.string ⟨#[]⟩ = Y := ⟨_, rfl⟩
  have HB8 := Lib.hid (hB7.alloc hB7.size (.cells #[.string ⟨#[]⟩, .int .i64 0] 35))
  have hx8 : Box4 (w7.alloc (.cells #[.string ⟨#[]⟩, .int .i64 0] 35)) w.heap.size 35 [.string mq, .int .i64 sc] := Box4.alloc hx7 _
  have hy8 := Box4.new w7 35 [.string ⟨#[]⟩, .int .i64 0]
  have hO8 := hO7.alloc (.cells #[.string ⟨#[]⟩, .int .i64 0] 35)
  obtain ⟨k0, k1⟩ := box2 (w' := w7) hx7
  have hlt7 := hx7.lt
  clear hY hO7
  have hn2 := hn2'.out
  have hy11 := Box4.alloc hy8 (.cells #[.string ⟨#[]⟩, .int .i64 0] 35)
  have hz11 := Box4.new (w7.alloc (.cells #[.string ⟨#[]⟩, .int .i64 0] 35)) 35 [.string ⟨#[]⟩, .int .i64 0]
  have hB11 := Lib.hid ((HB8.out).alloc (HB8.out).size (.cells #[.string ⟨#[]⟩, .int .i64 0] 35))
  have y0 := hy11.cell 0 (by simp)
  have y1 := hy11.cell 1 (by simp)
  have z0 := hz11.cell 0 (by simp)
  have z1 := hz11.cell 1 (by simp)
  have hylt := hy8.lt
  simp only [List.getElem_cons_zero, List.getElem_cons_succ] at y0 y1 z0 z1
  go_wp2_with fail
  go_ret
  exact ⟨rfl, hB11.out⟩

set_option maxHeartbeats 4000000 in
theorem changes_I1D3 (A : Option Addr) (l0 l : List Ent) (len c0 : Nat) (hlen : l0.length = len) (hm : len ≤ 9223372036854775807) (hl : few l0 = l) (hl200 : l.length ≤ 200) (h200 : l.length ≠ 200) (m : ByteArray) (q : Nat) (hq : min m.size 70 = q) (sc : Int) (k : Nat) (hik : k ≤ l.length) (hmq : q ≤ 64) (hkn : l.length ≤ k) (p : ByteArray) (want : ByteArray)
    (hP : packS l = (p, 0)) (hI : ∀ w, Calls Try.prog 23 #[.string p, .int .i64 k, .agg #[.string (m.extract 0 q), .int .i64 sc]] w fun e' w' => e' = .returned (.tuple #[.string want, .int .i64 0]) ∧ Below w.heap.size w w')
    (hD : ∀ w, Calls Try.prog 24 #[.string p, .int .i64 k] w fun e' w' => e' = .returned (.tuple #[.string ⟨#[]⟩, .int .i64 2]) ∧ Below w.heap.size w w')
    (hG : ∀ w, Calls Try.prog 25 #[.string p, .int .i64 k] w fun e' w' => e' = .returned (.tuple #[.agg #[.string ⟨#[]⟩, .int .i64 0], .int .i64 2]) ∧ Below w.heap.size w w')
    (hpi : packS (insAt l k (m.extract 0 q, sc)) = (want, 0))
    (w : World) (hr : Els w A l0) :
    Calls Try.prog 7 #[.slice A len c0, .int .i64 k, .agg #[.string m, .int .i64 sc]] w fun e w' => e = .returned (.bool true) ∧ Below w.heap.size w w' := by
  have HB := Lib.hid ((Below.refl w.heap.size w).alloc (Nat.le_refl _) (.cells #[.string m, .int .i64 sc] 35))
  have hF := fun w' (hb : Below w.heap.size w w') => few_any A l0 len c0 hlen hm w' (hr.later hb)
  simp only [hl] at hF
  have hq1 : q ≤ m.size := by omega
  have hq2 : (min (m.size : Int) 70) = (q : Int) := by omega
  obtain ⟨mq, hmqe⟩ : ∃ mq, m.extract 0 q = mq := ⟨_, rfl⟩
  have hmqs : mq.size = q := by rw [← hmqe, ByteArray.size_extract]; omega
  have HM := Lib.hid hmqe
  rw [hmqe] at hI hpi
  have hn2' := Lib.hid (show ((l.length : Int) == 200) = false from beq_eq_false_iff_ne.2 (by omega))
  clear hr hl hlen hq hmqe h200
  go_enter Try.func7, Try.ntmps7
  go_wp2_with fail
  refine (shown_any _).mono ?_
  rintro e w1 ⟨rfl, hb1⟩
  have hB1 := HB.out.trans (hb1.mono (by simp))
  have hx1 : Box4 w1 w.heap.size 35 [.string m, .int .i64 sc] := (hb1.block _ (by simp)).trans (Box4.new w 35 _)
  clear hb1
  go_wp2_with fail
  refine (hF _ hB1).mono ?_
  rintro e w2 ⟨v2, rfl, hO2, hb2⟩
  obtain ⟨A2, c2, rfl⟩ := own_slice hO2
  have hB2 := hB1.trans (hb2.mono hB1.size)
  have hx2 : Box4 w2 w.heap.size 35 [.string m, .int .i64 sc] := (hb2.block _ hx1.lt).trans hx1
  obtain ⟨k0, k1⟩ := box2 (w' := w2) hx2
  have kf : w2.frozen? ⟨w.heap.size, 0, none⟩ = false := by simp [World.frozen?, show w2.heap[w.heap.size]? = _ from hx2]
  have hO2' := ownsRow_setCell_below hO2 (a := ⟨w.heap.size, 0, none⟩) hx1.lt (.string mq)
  have hx2' : Box4 (w2.setCell ⟨w.heap.size, 0, none⟩ (.string mq)) w.heap.size 35 [.string mq, .int .i64 sc] := hx2.set 0 (.string mq)
  have hB2' := hB2.setCell (p := ⟨w.heap.size, 0, none⟩) (Nat.le_refl _) (.string mq)
  have hms : m.extract 0 q = mq := HM.out
  clear hF hO2 hb2 hB1 hx1
  go_wp2_with fail
  clear k0 k1 kf hB2 hx2 hms
  generalize w2.setCell ⟨w.heap.size, 0, none⟩ (.string mq) = w3 at *
  have hPk := pack_any A2 l l.length c2 rfl w3 (row_reads hO2' rfl)
  rw [hP] at hPk
  refine hPk.mono ?_
  rintro e w4 ⟨rfl, hb4⟩
  have hB4 := hB2'.trans (hb4.mono hB2'.size)
  have hx4 : Box4 w4 w.heap.size 35 [.string mq, .int .i64 sc] := (hb4.block _ hx2'.lt).trans hx2'
  have hO4 := own_later hO2' hb4
  obtain ⟨k0, k1⟩ := box2 (w' := w4) hx4
  clear hb4 hB2' hx2' hO2' hPk
  go_wp2_with fail
  refine (hI _).mono ?_
  rintro e w5 ⟨rfl, hb5⟩
  have hB5 := hB4.trans (hb5.mono hB4.size)
  have hx5 : Box4 w5 w.heap.size 35 [.string mq, .int .i64 sc] := (hb5.block _ hx4.lt).trans hx4
  have hO5 := own_later hO4 hb5
  clear hb5 hB4 hx4 hO4 k0 k1
  go_wp2_with fail
  refine (hD _).mono ?_
  rintro e w6 ⟨rfl, hb6⟩
  have hB6 := hB5.trans (hb6.mono hB5.size)
  have hx6 : Box4 w6 w.heap.size 35 [.string mq, .int .i64 sc] := (hb6.block _ hx5.lt).trans hx5
  have hO6 := own_later hO5 hb6
  clear hb6 hB5 hx5 hO5
  go_wp2_with fail
  refine (hG _).mono ?_
  rintro e w7 ⟨rfl, hb7⟩
  have hB7 := hB6.trans (hb7.mono hB6.size)
  have hx7 : Box4 w7 w.heap.size 35 [.string mq, .int .i64 sc] := (hb7.block _ hx6.lt).trans hx6
  have hO7 := own_later hO6 hb7
  clear hb7 hB6 hx6 hO6
  obtain ⟨Y, hY⟩ : ∃ Y, Value.string ⟨#[]⟩ = Y := ⟨_, rfl⟩
  have HB8 := Lib.hid (hB7.alloc hB7.size (.cells #[.string ⟨#[]⟩, .int .i64 0] 35))
  have hx8 : Box4 (w7.alloc (.cells #[.string ⟨#[]⟩, .int .i64 0] 35)) w.heap.size 35 [.string mq, .int .i64 sc] := Box4.alloc hx7 _
  have hy8 := Box4.new w7 35 [.string ⟨#[]⟩, .int .i64 0]
  have hO8 := hO7.alloc (.cells #[.string ⟨#[]⟩, .int .i64 0] 35)
  obtain ⟨k0, k1⟩ := box2 (w' := w7) hx7
  have hlt7 := hx7.lt
  clear hY hO7
  have hn2 := hn2'.out
  go_wp2_with fail
  refine (refIns_any rfl hO8 (by omega) k hik mq sc _ (Below.refl _ _)).mono ?_
  rintro e w9 ⟨v9, rfl, hO9, hb9⟩
  obtain ⟨A9, c9, rfl⟩ := own_slice hO9
  have hB9 := HB8.out.trans (hb9.mono HB8.out.size)
  have hO9' := own_later hO8 hb9
  have hy9 : Box4 w9 w7.heap.size 35 [.string ⟨#[]⟩, .int .i64 0] := (hb9.block _ hy8.lt).trans hy8
  have hRP := refPack_any A9 _ _ c9 rfl (by rw [insAt_length hik]; omega) w9 (row_reads hO9 rfl)
  rw [hpi] at hRP
  clear hb9 HB8 hO8 hx8 hy8 hO9 k0 k1 hx7 hlt7
  go_wp2_with fail
  refine hRP.mono ?_
  rintro e w10 ⟨rfl, hb10⟩
  have hB10 := Lib.hid (hB9.trans (hb10.mono hB9.size))
  have hO10 := own_later hO9' hb10
  have hy10 : Box4 w10 w7.heap.size 35 [.string ⟨#[]⟩, .int .i64 0] := (hb10.block _ hy9.lt).trans hy9
  clear hb10 hB9 hO9' hy9 hRP
  have hy11 := Box4.alloc hy10 (.cells #[.string ⟨#[]⟩, .int .i64 0] 35)
  have hz11 := Box4.new w10 35 [.string ⟨#[]⟩, .int .i64 0]
  have hB11 := Lib.hid ((hB10.out).alloc (hB10.out).size (.cells #[.string ⟨#[]⟩, .int .i64 0] 35))
  have y0 := hy11.cell 0 (by simp)
  have y1 := hy11.cell 1 (by simp)
  have z0 := hz11.cell 0 (by simp)
  have z1 := hz11.cell 1 (by simp)
  have hylt := hy10.lt
  simp only [List.getElem_cons_zero, List.getElem_cons_succ] at y0 y1 z0 z1
  go_wp2_with fail
  go_ret
  exact ⟨rfl, hB11.out⟩

set_option maxHeartbeats 4000000 in
theorem changes_I2D3 (A : Option Addr) (l0 l : List Ent) (len c0 : Nat) (hlen : l0.length = len) (hm : len ≤ 9223372036854775807) (hl : few l0 = l) (hl200 : l.length ≤ 200) (h200 : l.length = 200) (m : ByteArray) (q : Nat) (hq : min m.size 70 = q) (sc : Int) (k : Nat) (hik : k ≤ l.length) (hmq : q ≤ 64) (hkn : l.length ≤ k) (p : ByteArray)
    (hP : packS l = (p, 0)) (hI : ∀ w, Calls Try.prog 23 #[.string p, .int .i64 k, .agg #[.string (m.extract 0 q), .int .i64 sc]] w fun e' w' => e' = .returned (.tuple #[.string ⟨#[]⟩, .int .i64 51]) ∧ Below w.heap.size w w')
    (hD : ∀ w, Calls Try.prog 24 #[.string p, .int .i64 k] w fun e' w' => e' = .returned (.tuple #[.string ⟨#[]⟩, .int .i64 2]) ∧ Below w.heap.size w w')
    (hG : ∀ w, Calls Try.prog 25 #[.string p, .int .i64 k] w fun e' w' => e' = .returned (.tuple #[.agg #[.string ⟨#[]⟩, .int .i64 0], .int .i64 2]) ∧ Below w.heap.size w w')
    (hpi : packS (insAt l k (m.extract 0 q, sc)) = (⟨#[]⟩, 51))
    (w : World) (hr : Els w A l0) :
    Calls Try.prog 7 #[.slice A len c0, .int .i64 k, .agg #[.string m, .int .i64 sc]] w fun e w' => e = .returned (.bool true) ∧ Below w.heap.size w w' := by
  have HB := Lib.hid ((Below.refl w.heap.size w).alloc (Nat.le_refl _) (.cells #[.string m, .int .i64 sc] 35))
  have hF := fun w' (hb : Below w.heap.size w w') => few_any A l0 len c0 hlen hm w' (hr.later hb)
  simp only [hl] at hF
  have hq1 : q ≤ m.size := by omega
  have hq2 : (min (m.size : Int) 70) = (q : Int) := by omega
  obtain ⟨mq, hmqe⟩ : ∃ mq, m.extract 0 q = mq := ⟨_, rfl⟩
  have hmqs : mq.size = q := by rw [← hmqe, ByteArray.size_extract]; omega
  have HM := Lib.hid hmqe
  rw [hmqe] at hI hpi
  have hn2' := Lib.hid (show ((l.length : Int) == 200) = true from beq_iff_eq.2 (by omega))
  clear hr hl hlen hq hmqe h200
  go_enter Try.func7, Try.ntmps7
  go_wp2_with fail
  refine (shown_any _).mono ?_
  rintro e w1 ⟨rfl, hb1⟩
  have hB1 := HB.out.trans (hb1.mono (by simp))
  have hx1 : Box4 w1 w.heap.size 35 [.string m, .int .i64 sc] := (hb1.block _ (by simp)).trans (Box4.new w 35 _)
  clear hb1
  go_wp2_with fail
  refine (hF _ hB1).mono ?_
  rintro e w2 ⟨v2, rfl, hO2, hb2⟩
  obtain ⟨A2, c2, rfl⟩ := own_slice hO2
  have hB2 := hB1.trans (hb2.mono hB1.size)
  have hx2 : Box4 w2 w.heap.size 35 [.string m, .int .i64 sc] := (hb2.block _ hx1.lt).trans hx1
  obtain ⟨k0, k1⟩ := box2 (w' := w2) hx2
  have kf : w2.frozen? ⟨w.heap.size, 0, none⟩ = false := by simp [World.frozen?, show w2.heap[w.heap.size]? = _ from hx2]
  have hO2' := ownsRow_setCell_below hO2 (a := ⟨w.heap.size, 0, none⟩) hx1.lt (.string mq)
  have hx2' : Box4 (w2.setCell ⟨w.heap.size, 0, none⟩ (.string mq)) w.heap.size 35 [.string mq, .int .i64 sc] := hx2.set 0 (.string mq)
  have hB2' := hB2.setCell (p := ⟨w.heap.size, 0, none⟩) (Nat.le_refl _) (.string mq)
  have hms : m.extract 0 q = mq := HM.out
  clear hF hO2 hb2 hB1 hx1
  go_wp2_with fail
  clear k0 k1 kf hB2 hx2 hms
  generalize w2.setCell ⟨w.heap.size, 0, none⟩ (.string mq) = w3 at *
  have hPk := pack_any A2 l l.length c2 rfl w3 (row_reads hO2' rfl)
  rw [hP] at hPk
  refine hPk.mono ?_
  rintro e w4 ⟨rfl, hb4⟩
  have hB4 := hB2'.trans (hb4.mono hB2'.size)
  have hx4 : Box4 w4 w.heap.size 35 [.string mq, .int .i64 sc] := (hb4.block _ hx2'.lt).trans hx2'
  have hO4 := own_later hO2' hb4
  obtain ⟨k0, k1⟩ := box2 (w' := w4) hx4
  clear hb4 hB2' hx2' hO2' hPk
  go_wp2_with fail
  refine (hI _).mono ?_
  rintro e w5 ⟨rfl, hb5⟩
  have hB5 := hB4.trans (hb5.mono hB4.size)
  have hx5 : Box4 w5 w.heap.size 35 [.string mq, .int .i64 sc] := (hb5.block _ hx4.lt).trans hx4
  have hO5 := own_later hO4 hb5
  clear hb5 hB4 hx4 hO4 k0 k1
  go_wp2_with fail
  refine (hD _).mono ?_
  rintro e w6 ⟨rfl, hb6⟩
  have hB6 := hB5.trans (hb6.mono hB5.size)
  have hx6 : Box4 w6 w.heap.size 35 [.string mq, .int .i64 sc] := (hb6.block _ hx5.lt).trans hx5
  have hO6 := own_later hO5 hb6
  clear hb6 hB5 hx5 hO5
  go_wp2_with fail
  refine (hG _).mono ?_
  rintro e w7 ⟨rfl, hb7⟩
  have hB7 := hB6.trans (hb7.mono hB6.size)
  have hx7 : Box4 w7 w.heap.size 35 [.string mq, .int .i64 sc] := (hb7.block _ hx6.lt).trans hx6
  have hO7 := own_later hO6 hb7
  clear hb7 hB6 hx6 hO6
  obtain ⟨Y, hY⟩ : ∃ Y, Value.string ⟨#[]⟩ = Y := ⟨_, rfl⟩
  have HB8 := Lib.hid (hB7.alloc hB7.size (.cells #[.string ⟨#[]⟩, .int .i64 0] 35))
  have hx8 : Box4 (w7.alloc (.cells #[.string ⟨#[]⟩, .int .i64 0] 35)) w.heap.size 35 [.string mq, .int .i64 sc] := Box4.alloc hx7 _
  have hy8 := Box4.new w7 35 [.string ⟨#[]⟩, .int .i64 0]
  have hO8 := hO7.alloc (.cells #[.string ⟨#[]⟩, .int .i64 0] 35)
  obtain ⟨k0, k1⟩ := box2 (w' := w7) hx7
  have hlt7 := hx7.lt
  clear hY hO7
  have hn2 := hn2'.out
  go_wp2_with fail
  refine (refIns_any rfl hO8 (by omega) k hik mq sc _ (Below.refl _ _)).mono ?_
  rintro e w9 ⟨v9, rfl, hO9, hb9⟩
  obtain ⟨A9, c9, rfl⟩ := own_slice hO9
  have hB9 := HB8.out.trans (hb9.mono HB8.out.size)
  have hO9' := own_later hO8 hb9
  have hy9 : Box4 w9 w7.heap.size 35 [.string ⟨#[]⟩, .int .i64 0] := (hb9.block _ hy8.lt).trans hy8
  have hRP := refPack_any A9 _ _ c9 rfl (by rw [insAt_length hik]; omega) w9 (row_reads hO9 rfl)
  rw [hpi] at hRP
  clear hb9 HB8 hO8 hx8 hy8 hO9 k0 k1 hx7 hlt7
  go_wp2_with fail
  refine hRP.mono ?_
  rintro e w10 ⟨rfl, hb10⟩
  have hB10 := Lib.hid (hB9.trans (hb10.mono hB9.size))
  have hO10 := own_later hO9' hb10
  have hy10 : Box4 w10 w7.heap.size 35 [.string ⟨#[]⟩, .int .i64 0] := (hb10.block _ hy9.lt).trans hy9
  clear hb10 hB9 hO9' hy9 hRP
  have hy11 := Box4.alloc hy10 (.cells #[.string ⟨#[]⟩, .int .i64 0] 35)
  have hz11 := Box4.new w10 35 [.string ⟨#[]⟩, .int .i64 0]
  have hB11 := Lib.hid ((hB10.out).alloc (hB10.out).size (.cells #[.string ⟨#[]⟩, .int .i64 0] 35))
  have y0 := hy11.cell 0 (by simp)
  have y1 := hy11.cell 1 (by simp)
  have z0 := hz11.cell 0 (by simp)
  have z1 := hz11.cell 1 (by simp)
  have hylt := hy10.lt
  simp only [List.getElem_cons_zero, List.getElem_cons_succ] at y0 y1 z0 z1
  go_wp2_with fail
  go_ret
  exact ⟨rfl, hB11.out⟩

set_option maxHeartbeats 4000000 in
theorem changes_no (A : Option Addr) (l0 l : List Ent) (len c0 : Nat) (hlen : l0.length = len) (hm : len ≤ 9223372036854775807) (hl : few l0 = l) (er : Int) (her : (er != 0) = true) (hP : packS l = (⟨#[]⟩, er)) (i : Int) (m : ByteArray) (sc : Int) (w : World) (hr : Els w A l0) :
    Calls Try.prog 7 #[.slice A len c0, .int .i64 i, .agg #[.string m, .int .i64 sc]] w fun e w' => e = .returned (.bool true) ∧ Below w.heap.size w w' := by
  obtain ⟨q, hq⟩ : ∃ q, min m.size 70 = q := ⟨_, rfl⟩
  have HB := Lib.hid ((Below.refl w.heap.size w).alloc (Nat.le_refl _) (.cells #[.string m, .int .i64 sc] 35))
  have hF := fun w' (hb : Below w.heap.size w w') => few_any A l0 len c0 hlen hm w' (hr.later hb)
  simp only [hl] at hF
  have hq1 : q ≤ m.size := by omega
  have hq2 : (min (m.size : Int) 70) = (q : Int) := by omega
  obtain ⟨mq, hmqe⟩ : ∃ mq, m.extract 0 q = mq := ⟨_, rfl⟩
  have HM := Lib.hid hmqe
  have HP := Lib.hid hP
  clear hr hl hlen hq hmqe hP
  go_enter Try.func7, Try.ntmps7
  go_wp2_with fail
  refine (shown_any _).mono ?_
  rintro e w1 ⟨rfl, hb1⟩
  have hB1 := HB.out.trans (hb1.mono (by simp))
  have hx1 : Box4 w1 w.heap.size 35 [.string m, .int .i64 sc] := (hb1.block _ (by simp)).trans (Box4.new w 35 _)
  clear hb1
  go_wp2_with fail
  refine (hF _ hB1).mono ?_
  rintro e w2 ⟨v2, rfl, hO2, hb2⟩
  obtain ⟨A2, c2, rfl⟩ := own_slice hO2
  have hB2 := hB1.trans (hb2.mono hB1.size)
  have hx2 : Box4 w2 w.heap.size 35 [.string m, .int .i64 sc] := (hb2.block _ hx1.lt).trans hx1
  obtain ⟨k0, k1⟩ := box2 (w' := w2) hx2
  have kf : w2.frozen? ⟨w.heap.size, 0, none⟩ = false := by simp [World.frozen?, show w2.heap[w.heap.size]? = _ from hx2]
  have hO2' := ownsRow_setCell_below hO2 (a := ⟨w.heap.size, 0, none⟩) hx1.lt (.string mq)
  have hB2' := hB2.setCell (p := ⟨w.heap.size, 0, none⟩) (Nat.le_refl _) (.string mq)
  have hms : m.extract 0 q = mq := HM.out
  clear hF hO2 hb2 hB1 hx1
  go_wp2_with fail
  clear k0 k1 kf hB2 hx2 hms
  generalize w2.setCell ⟨w.heap.size, 0, none⟩ (.string mq) = w3 at *
  have hPk := pack_any A2 l l.length c2 rfl w3 (row_reads hO2' rfl)
  rw [HP.out] at hPk
  refine hPk.mono ?_
  rintro e w4 ⟨rfl, hb4⟩
  have hB4 := hB2'.trans (hb4.mono hB2'.size)
  clear hb4 hB2' hO2' hPk
  go_wp2_with fail
  go_ret
  exact ⟨rfl, hB4⟩

end Go.Proofs.Ytcjjeookfnmjcaa
