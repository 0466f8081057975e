import Derived.Test.YtcjjeookfnmjcaaChangesA
namespace Go.Proofs.Ytcjjeookfnmjcaa
open Go.RowKit Go.Proofs.YtcjjeookfnmjcaaW.PrintWords
set_option linter.unusedVariables false

set_option maxHeartbeats 4000000 in
theorem changes_I3cD3 (A : Option Addr) (l0 l : List Ent) (len c0 : Nat) (hlen : l0.length = len) (hm : len ≤ 9223372036854775807) (hl : few l0 = l) (hl200 : l.length ≤ 200) (h200 : l.length ≠ 200) (m : ByteArray) (q : Nat) (hq : min m.size 70 = q) (sc : Int) (i : Int) (hi0 : 0 ≤ i) (hi1 : i ≤ (l.length : Int)) (hmq : 64 < q) (hin : (l.length : Int) ≤ i) (p : ByteArray)
    (hP : packS l = (p, 0)) (hI : ∀ w, Calls Try.prog 23 #[.string p, .int .i64 i, .agg #[.string (m.extract 0 q), .int .i64 sc]] w fun e' w' => e' = .returned (.tuple #[.string ⟨#[]⟩, .int .i64 2]) ∧ Below w.heap.size w w')
    (hD : ∀ w, Calls Try.prog 24 #[.string p, .int .i64 i] w fun e' w' => e' = .returned (.tuple #[.string ⟨#[]⟩, .int .i64 2]) ∧ Below w.heap.size w w')
    (hG : ∀ w, Calls Try.prog 25 #[.string p, .int .i64 i] w fun e' w' => e' = .returned (.tuple #[.agg #[.string ⟨#[]⟩, .int .i64 0], .int .i64 2]) ∧ Below w.heap.size w w')
    (w : World) (hr : Els w A l0) :
    Calls Try.prog 7 #[.slice A len c0, .int .i64 i, .agg #[.string m, .int .i64 sc]] w fun e w' => e = .returned (.bool true) ∧ Below w.heap.size w w' := by
  have HB := Lib.hid ((Below.refl w.heap.size w).alloc (Nat.le_refl _) (.cells #[.string m, .int .i64 sc] 35))
  have hF := fun w' (hb : Below w.heap.size w w') => few_any A l0 len c0 hlen hm w' (hr.later hb)
  simp only [hl] at hF
  have hq1 : q ≤ m.size := by omega
  have hq2 : (min (m.size : Int) 70) = (q : Int) := by omega
  obtain ⟨mq, hmqe⟩ : ∃ mq, m.extract 0 q = mq := ⟨_, rfl⟩
  have hmqs : mq.size = q := by rw [← hmqe, ByteArray.size_extract]; omega
  have HM := Lib.hid hmqe
  rw [hmqe] at hI
  have hn2' := Lib.hid (show ((l.length : Int) == 200) = false from beq_eq_false_iff_ne.2 (by omega))
  clear hr hl hlen hq hmqe h200
  go_enter Try.func7, Try.ntmps7
  go_wp2_with fail
  refine (shown_any _).mono ?_
  rintro e w1 ⟨rfl, hb1⟩
  have hB1 := HB.out.trans (hb1.mono (by simp))
  have hx1 : Box4 w1 w.heap.size 35 [.string m, .int .i64 sc] := (hb1.block _ (by simp)).trans (Box4.new w 35 _)
  clear hb1
  go_wp2_with fail
  refine (hF _ hB1).mono ?_
  rintro e w2 ⟨v2, rfl, hO2, hb2⟩
  obtain ⟨A2, c2, rfl⟩ := own_slice hO2
  have hB2 := hB1.trans (hb2.mono hB1.size)
  have hx2 : Box4 w2 w.heap.size 35 [.string m, .int .i64 sc] := (hb2.block _ hx1.lt).trans hx1
  obtain ⟨k0, k1⟩ := box2 (w' := w2) hx2
  have kf : w2.frozen? ⟨w.heap.size, 0, none⟩ = false := by simp [World.frozen?, show w2.heap[w.heap.size]? = _ from hx2]
  have hO2' := ownsRow_setCell_below hO2 (a := ⟨w.heap.size, 0, none⟩) hx1.lt (.string mq)
  have hx2' : Box4 (w2.setCell ⟨w.heap.size, 0, none⟩ (.string mq)) w.heap.size 35 [.string mq, .int .i64 sc] := hx2.set 0 (.string mq)
  have hB2' := hB2.setCell (p := ⟨w.heap.size, 0, none⟩) (Nat.le_refl _) (.string mq)
  have hms : m.extract 0 q = mq := HM.out
  clear hF hO2 hb2 hB1 hx1
  go_wp2_with fail
  clear k0 k1 kf hB2 hx2 hms
  generalize w2.setCell ⟨w.heap.size, 0, none⟩ (.string mq) = w3 at *
  have hPk := pack_any A2 l l.length c2 rfl w3 (row_reads hO2' rfl)
  rw [hP] at hPk
  refine hPk.mono ?_
  rintro e w4 ⟨rfl, hb4⟩
  have hB4 := hB2'.trans (hb4.mono hB2'.size)
  have hx4 : Box4 w4 w.heap.size 35 [.string mq, .int .i64 sc] := (hb4.block _ hx2'.lt).trans hx2'
  have hO4 := own_later hO2' hb4
  obtain ⟨k0, k1⟩ := box2 (w' := w4) hx4
  clear hb4 hB2' hx2' hO2' hPk
  go_wp2_with fail
  refine (hI _).mono ?_
  rintro e w5 ⟨rfl, hb5⟩
  have hB5 := hB4.trans (hb5.mono hB4.size)
  have hx5 : Box4 w5 w.heap.size 35 [.string mq, .int .i64 sc] := (hb5.block _ hx4.lt).trans hx4
  have hO5 := own_later hO4 hb5
  clear hb5 hB4 hx4 hO4 k0 k1
  go_wp2_with fail
  refine (hD _).mono ?_
  rintro e w6 ⟨rfl, hb6⟩
  have hB6 := hB5.trans (hb6.mono hB5.size)
  have hx6 : Box4 w6 w.heap.size 35 [.string mq, .int .i64 sc] := (hb6.block _ hx5.lt).trans hx5
  have hO6 := own_later hO5 hb6
  clear hb6 hB5 hx5 hO5
  go_wp2_with fail
  refine (hG _).mono ?_
  rintro e w7 ⟨rfl, hb7⟩
  have hB7 := hB6.trans (hb7.mono hB6.size)
  have hx7 : Box4 w7 w.heap.size 35 [.string mq, .int .i64 sc] := (hb7.block _ hx6.lt).trans hx6
  have hO7 := own_later hO6 hb7
  clear hb7 hB6 hx6 hO6
  obtain ⟨Y, hY⟩ : ∃ Y, Value.string ⟨#[]⟩ = Y := ⟨_, rfl⟩
  have HB8 := Lib.hid (hB7.alloc hB7.size (.cells #[.string ⟨#[]⟩, .int .i64 0] 35))
  have hx8 : Box4 (w7.alloc (.cells #[.string ⟨#[]⟩, .int .i64 0] 35)) w.heap.size 35 [.string mq, .int .i64 sc] := Box4.alloc hx7 _
  have hy8 := Box4.new w7 35 [.string ⟨#[]⟩, .int .i64 0]
  have hO8 := hO7.alloc (.cells #[.string ⟨#[]⟩, .int .i64 0] 35)
  obtain ⟨k0, k1⟩ := box2 (w' := w7) hx7
  have hlt7 := hx7.lt
  clear hY hO7
  have hn2 := hn2'.out
  have hy11 := Box4.alloc hy8 (.cells #[.string ⟨#[]⟩, .int .i64 0] 35)
  have hz11 := Box4.new (w7.alloc (.cells #[.string ⟨#[]⟩, .int .i64 0] 35)) 35 [.string ⟨#[]⟩, .int .i64 0]
  have hB11 := Lib.hid ((HB8.out).alloc (HB8.out).size (.cells #[.string ⟨#[]⟩, .int .i64 0] 35))
  have y0 := hy11.cell 0 (by simp)
  have y1 := hy11.cell 1 (by simp)
  have z0 := hz11.cell 0 (by simp)
  have z1 := hz11.cell 1 (by simp)
  have hylt := hy8.lt
  simp only [List.getElem_cons_zero, List.getElem_cons_succ] at y0 y1 z0 z1
  go_wp2_with fail
  go_ret
  exact ⟨rfl, hB11.out⟩

set_option maxHeartbeats 4000000 in
theorem changes_I4cD3 (A : Option Addr) (l0 l : List Ent) (len c0 : Nat) (hlen : l0.length = len) (hm : len ≤ 9223372036854775807) (hl : few l0 = l) (hl200 : l.length ≤ 200) (h200 : l.length = 200) (m : ByteArray) (q : Nat) (hq : min m.size 70 = q) (sc : Int) (i : Int) (hi0 : 0 ≤ i) (hi1 : i ≤ (l.length : Int)) (hmq : 64 < q) (hin : (l.length : Int) ≤ i) (p : ByteArray)
    (hP : packS l = (p, 0)) (hI : ∀ w, Calls Try.prog 23 #[.string p, .int .i64 i, .agg #[.string (m.extract 0 q), .int .i64 sc]] w fun e' w' => e' = .returned (.tuple #[.string ⟨#[]⟩, .int .i64 51]) ∧ Below w.heap.size w w')
    (hD : ∀ w, Calls Try.prog 24 #[.string p, .int .i64 i] w fun e' w' => e' = .returned (.tuple #[.string ⟨#[]⟩, .int .i64 2]) ∧ Below w.heap.size w w')
    (hG : ∀ w, Calls Try.prog 25 #[.string p, .int .i64 i] w fun e' w' => e' = .returned (.tuple #[.agg #[.string ⟨#[]⟩, .int .i64 0], .int .i64 2]) ∧ Below w.heap.size w w')
    (w : World) (hr : Els w A l0) :
    Calls Try.prog 7 #[.slice A len c0, .int .i64 i, .agg #[.string m, .int .i64 sc]] w fun e w' => e = .returned (.bool true) ∧ Below w.heap.size w w' := by
  have HB := Lib.hid ((Below.refl w.heap.size w).alloc (Nat.le_refl _) (.cells #[.string m, .int .i64 sc] 35))
  have hF := fun w' (hb : Below w.heap.size w w') => few_any A l0 len c0 hlen hm w' (hr.later hb)
  simp only [hl] at hF
  have hq1 : q ≤ m.size := by omega
  have hq2 : (min (m.size : Int) 70) = (q : Int) := by omega
  obtain ⟨mq, hmqe⟩ : ∃ mq, m.extract 0 q = mq := ⟨_, rfl⟩
  have hmqs : mq.size = q := by rw [← hmqe, ByteArray.size_extract]; omega
  have HM := Lib.hid hmqe
  rw [hmqe] at hI
  have hn2' := Lib.hid (show ((l.length : Int) == 200) = true from beq_iff_eq.2 (by omega))
  clear hr hl hlen hq hmqe h200
  go_enter Try.func7, Try.ntmps7
  go_wp2_with fail
  refine (shown_any _).mono ?_
  rintro e w1 ⟨rfl, hb1⟩
  have hB1 := HB.out.trans (hb1.mono (by simp))
  have hx1 : Box4 w1 w.heap.size 35 [.string m, .int .i64 sc] := (hb1.block _ (by simp)).trans (Box4.new w 35 _)
  clear hb1
  go_wp2_with fail
  refine (hF _ hB1).mono ?_
  rintro e w2 ⟨v2, rfl, hO2, hb2⟩
  obtain ⟨A2, c2, rfl⟩ := own_slice hO2
  have hB2 := hB1.trans (hb2.mono hB1.size)
  have hx2 : Box4 w2 w.heap.size 35 [.string m, .int .i64 sc] := (hb2.block _ hx1.lt).trans hx1
  obtain ⟨k0, k1⟩ := box2 (w' := w2) hx2
  have kf : w2.frozen? ⟨w.heap.size, 0, none⟩ = false := by simp [World.frozen?, show w2.heap[w.heap.size]? = _ from hx2]
  have hO2' := ownsRow_setCell_below hO2 (a := ⟨w.heap.size, 0, none⟩) hx1.lt (.string mq)
  have hx2' : Box4 (w2.setCell ⟨w.heap.size, 0, none⟩ (.string mq)) w.heap.size 35 [.string mq, .int .i64 sc] := hx2.set 0 (.string mq)
  have hB2' := hB2.setCell (p := ⟨w.heap.size, 0, none⟩) (Nat.le_refl _) (.string mq)
  have hms : m.extract 0 q = mq := HM.out
  clear hF hO2 hb2 hB1 hx1
  go_wp2_with fail
  clear k0 k1 kf hB2 hx2 hms
  generalize w2.setCell ⟨w.heap.size, 0, none⟩ (.string mq) = w3 at *
  have hPk := pack_any A2 l l.length c2 rfl w3 (row_reads hO2' rfl)
  rw [hP] at hPk
  refine hPk.mono ?_
  rintro e w4 ⟨rfl, hb4⟩
  have hB4 := hB2'.trans (hb4.mono hB2'.size)
  have hx4 : Box4 w4 w.heap.size 35 [.string mq, .int .i64 sc] := (hb4.block _ hx2'.lt).trans hx2'
  have hO4 := own_later hO2' hb4
  obtain ⟨k0, k1⟩ := box2 (w' := w4) hx4
  clear hb4 hB2' hx2' hO2' hPk
  go_wp2_with fail
  refine (hI _).mono ?_
  rintro e w5 ⟨rfl, hb5⟩
  have hB5 := hB4.trans (hb5.mono hB4.size)
  have hx5 : Box4 w5 w.heap.size 35 [.string mq, .int .i64 sc] := (hb5.block _ hx4.lt).trans hx4
  have hO5 := own_later hO4 hb5
  clear hb5 hB4 hx4 hO4 k0 k1
  go_wp2_with fail
  refine (hD _).mono ?_
  rintro e w6 ⟨rfl, hb6⟩
  have hB6 := hB5.trans (hb6.mono hB5.size)
  have hx6 : Box4 w6 w.heap.size 35 [.string mq, .int .i64 sc] := (hb6.block _ hx5.lt).trans hx5
  have hO6 := own_later hO5 hb6
  clear hb6 hB5 hx5 hO5
  go_wp2_with fail
  refine (hG _).mono ?_
  rintro e w7 ⟨rfl, hb7⟩
  have hB7 := hB6.trans (hb7.mono hB6.size)
  have hx7 : Box4 w7 w.heap.size 35 [.string mq, .int .i64 sc] := (hb7.block _ hx6.lt).trans hx6
  have hO7 := own_later hO6 hb7
  clear hb7 hB6 hx6 hO6
  obtain ⟨Y, hY⟩ : ∃ Y, Value.string ⟨#[]⟩ = Y := ⟨_, rfl⟩
  have HB8 := Lib.hid (hB7.alloc hB7.size (.cells #[.string ⟨#[]⟩, .int .i64 0] 35))
  have hx8 : Box4 (w7.alloc (.cells #[.string ⟨#[]⟩, .int .i64 0] 35)) w.heap.size 35 [.string mq, .int .i64 sc] := Box4.alloc hx7 _
  have hy8 := Box4.new w7 35 [.string ⟨#[]⟩, .int .i64 0]
  have hO8 := hO7.alloc (.cells #[.string ⟨#[]⟩, .int .i64 0] 35)
  obtain ⟨k0, k1⟩ := box2 (w' := w7) hx7
  have hlt7 := hx7.lt
  clear hY hO7
  have hn2 := hn2'.out
  have hy11 := Box4.alloc hy8 (.cells #[.string ⟨#[]⟩, .int .i64 0] 35)
  have hz11 := Box4.new (w7.alloc (.cells #[.string ⟨#[]⟩, .int .i64 0] 35)) 35 [.string ⟨#[]⟩, .int .i64 0]
  have hB11 := Lib.hid ((HB8.out).alloc (HB8.out).size (.cells #[.string ⟨#[]⟩, .int .i64 0] 35))
  have y0 := hy11.cell 0 (by simp)
  have y1 := hy11.cell 1 (by simp)
  have z0 := hz11.cell 0 (by simp)
  have z1 := hz11.cell 1 (by simp)
  have hylt := hy8.lt
  simp only [List.getElem_cons_zero, List.getElem_cons_succ] at y0 y1 z0 z1
  go_wp2_with fail
  go_ret
  exact ⟨rfl, hB11.out⟩

set_option maxHeartbeats 4000000 in
theorem changes_I1D1 (A : Option Addr) (l0 l : List Ent) (len c0 : Nat) (hlen : l0.length = len) (hm : len ≤ 9223372036854775807) (hl : few l0 = l) (hl200 : l.length ≤ 200) (h200 : l.length ≠ 200) (m : ByteArray) (q : Nat) (hq : min m.size 70 = q) (sc : Int) (k : Nat) (hik : k ≤ l.length) (hmq : q ≤ 64) (hkl : k < l.length) (p : ByteArray) (want : ByteArray) (less : ByteArray)
    (hP : packS l = (p, 0)) (hI : ∀ w, Calls Try.prog 23 #[.string p, .int .i64 k, .agg #[.string (m.extract 0 q), .int .i64 sc]] w fun e' w' => e' = .returned (.tuple #[.string want, .int .i64 0]) ∧ Below w.heap.size w w')
    (hD : ∀ w, Calls Try.prog 24 #[.string p, .int .i64 k] w fun e' w' => e' = .returned (.tuple #[.string less, .int .i64 0]) ∧ Below w.heap.size w w')
    (hG : ∀ w, Calls Try.prog 25 #[.string p, .int .i64 k] w fun e' w' => e' = .returned (.tuple #[.agg #[.string (l[k]'hkl).1, .int .i64 (l[k]'hkl).2], .int .i64 0]) ∧ Below w.heap.size w w')
    (hpi : packS (insAt l k (m.extract 0 q, sc)) = (want, 0))
    (hpd : packS (delAt l k) = (less, 0))
    (w : World) (hr : Els w A l0) :
    Calls Try.prog 7 #[.slice A len c0, .int .i64 k, .agg #[.string m, .int .i64 sc]] w fun e w' => e = .returned (.bool true) ∧ Below w.heap.size w w' := by
  have HB := Lib.hid ((Below.refl w.heap.size w).alloc (Nat.le_refl _) (.cells #[.string m, .int .i64 sc] 35))
  have hF := fun w' (hb : Below w.heap.size w w') => few_any A l0 len c0 hlen hm w' (hr.later hb)
  simp only [hl] at hF
  have hq1 : q ≤ m.size := by omega
  have hq2 : (min (m.size : Int) 70) = (q : Int) := by omega
  obtain ⟨mq, hmqe⟩ : ∃ mq, m.extract 0 q = mq := ⟨_, rfl⟩
  have hmqs : mq.size = q := by rw [← hmqe, ByteArray.size_extract]; omega
  have HM := Lib.hid hmqe
  rw [hmqe] at hI hpi
  have hn2' := Lib.hid (show ((l.length : Int) == 200) = false from beq_eq_false_iff_ne.2 (by omega))
  clear hr hl hlen hq hmqe h200
  obtain ⟨ym, hym⟩ : ∃ y, (l[k]'hkl).1 = y := ⟨_, rfl⟩
  obtain ⟨ys, hys⟩ : ∃ y, (l[k]'hkl).2 = y := ⟨_, rfl⟩
  rw [hym, hys] at hG
  have HYM := Lib.hid hym
  have HYS := Lib.hid hys
  clear hym hys
  go_enter Try.func7, Try.ntmps7
  go_wp2_with fail
  refine (shown_any _).mono ?_
  rintro e w1 ⟨rfl, hb1⟩
  have hB1 := HB.out.trans (hb1.mono (by simp))
  have hx1 : Box4 w1 w.heap.size 35 [.string m, .int .i64 sc] := (hb1.block _ (by simp)).trans (Box4.new w 35 _)
  clear hb1
  go_wp2_with fail
  refine (hF _ hB1).mono ?_
  rintro e w2 ⟨v2, rfl, hO2, hb2⟩
  obtain ⟨A2, c2, rfl⟩ := own_slice hO2
  have hB2 := hB1.trans (hb2.mono hB1.size)
  have hx2 : Box4 w2 w.heap.size 35 [.string m, .int .i64 sc] := (hb2.block _ hx1.lt).trans hx1
  obtain ⟨k0, k1⟩ := box2 (w' := w2) hx2
  have kf : w2.frozen? ⟨w.heap.size, 0, none⟩ = false := by simp [World.frozen?, show w2.heap[w.heap.size]? = _ from hx2]
  have hO2' := ownsRow_setCell_below hO2 (a := ⟨w.heap.size, 0, none⟩) hx1.lt (.string mq)
  have hx2' : Box4 (w2.setCell ⟨w.heap.size, 0, none⟩ (.string mq)) w.heap.size 35 [.string mq, .int .i64 sc] := hx2.set 0 (.string mq)
  have hB2' := hB2.setCell (p := ⟨w.heap.size, 0, none⟩) (Nat.le_refl _) (.string mq)
  have hms : m.extract 0 q = mq := HM.out
  clear hF hO2 hb2 hB1 hx1
  go_wp2_with fail
  clear k0 k1 kf hB2 hx2 hms
  generalize w2.setCell ⟨w.heap.size, 0, none⟩ (.string mq) = w3 at *
  have hPk := pack_any A2 l l.length c2 rfl w3 (row_reads hO2' rfl)
  rw [hP] at hPk
  refine hPk.mono ?_
  rintro e w4 ⟨rfl, hb4⟩
  have hB4 := hB2'.trans (hb4.mono hB2'.size)
  have hx4 : Box4 w4 w.heap.size 35 [.string mq, .int .i64 sc] := (hb4.block _ hx2'.lt).trans hx2'
  have hO4 := own_later hO2' hb4
  obtain ⟨k0, k1⟩ := box2 (w' := w4) hx4
  clear hb4 hB2' hx2' hO2' hPk
  go_wp2_with fail
  refine (hI _).mono ?_
  rintro e w5 ⟨rfl, hb5⟩
  have hB5 := hB4.trans (hb5.mono hB4.size)
  have hx5 : Box4 w5 w.heap.size 35 [.string mq, .int .i64 sc] := (hb5.block _ hx4.lt).trans hx4
  have hO5 := own_later hO4 hb5
  clear hb5 hB4 hx4 hO4 k0 k1
  go_wp2_with fail
  refine (hD _).mono ?_
  rintro e w6 ⟨rfl, hb6⟩
  have hB6 := hB5.trans (hb6.mono hB5.size)
  have hx6 : Box4 w6 w.heap.size 35 [.string mq, .int .i64 sc] := (hb6.block _ hx5.lt).trans hx5
  have hO6 := own_later hO5 hb6
  clear hb6 hB5 hx5 hO5
  go_wp2_with fail
  refine (hG _).mono ?_
  rintro e w7 ⟨rfl, hb7⟩
  have hB7 := hB6.trans (hb7.mono hB6.size)
  have hx7 : Box4 w7 w.heap.size 35 [.string mq, .int .i64 sc] := (hb7.block _ hx6.lt).trans hx6
  have hO7 := own_later hO6 hb7
  clear hb7 hB6 hx6 hO6
  obtain ⟨Y, hY⟩ : ∃ Y, Value.string ym = Y := ⟨_, rfl⟩
  have HB8 := Lib.hid (hB7.alloc hB7.size (.cells #[.string ym, .int .i64 ys] 35))
  have hx8 : Box4 (w7.alloc (.cells #[.string ym, .int .i64 ys] 35)) w.heap.size 35 [.string mq, .int .i64 sc] := Box4.alloc hx7 _
  have hy8 := Box4.new w7 35 [.string ym, .int .i64 ys]
  have hO8 := hO7.alloc (.cells #[.string ym, .int .i64 ys] 35)
  obtain ⟨k0, k1⟩ := box2 (w' := w7) hx7
  have hlt7 := hx7.lt
  clear hY hO7
  have hn2 := hn2'.out
  go_wp2_with fail
  refine (refIns_any rfl hO8 (by omega) k hik mq sc _ (Below.refl _ _)).mono ?_
  rintro e w9 ⟨v9, rfl, hO9, hb9⟩
  obtain ⟨A9, c9, rfl⟩ := own_slice hO9
  have hB9 := HB8.out.trans (hb9.mono HB8.out.size)
  have hO9' := own_later hO8 hb9
  have hy9 : Box4 w9 w7.heap.size 35 [.string ym, .int .i64 ys] := (hb9.block _ hy8.lt).trans hy8
  have hRP := refPack_any A9 _ _ c9 rfl (by rw [insAt_length hik]; omega) w9 (row_reads hO9 rfl)
  rw [hpi] at hRP
  clear hb9 HB8 hO8 hx8 hy8 hO9 k0 k1 hx7 hlt7
  go_wp2_with fail
  refine hRP.mono ?_
  rintro e w10 ⟨rfl, hb10⟩
  have hB10 := Lib.hid (hB9.trans (hb10.mono hB9.size))
  have hO10 := own_later hO9' hb10
  have hy10 : Box4 w10 w7.heap.size 35 [.string ym, .int .i64 ys] := (hb10.block _ hy9.lt).trans hy9
  clear hb10 hB9 hO9' hy9 hRP
  have hO11 := hO10.alloc (.cells #[.string ⟨#[]⟩, .int .i64 0] 35)
  have hy11 := Box4.alloc hy10 (.cells #[.string ⟨#[]⟩, .int .i64 0] 35)
  have hz11 : Box4 (w10.alloc (.cells #[.string ⟨#[]⟩, .int .i64 0] 35)) w10.heap.size 35 [.string ⟨#[]⟩, .int .i64 0] := by have := Box4.new w10 35 [.string ⟨#[]⟩, .int .i64 0]; simpa using this
  have hB11 := Lib.hid ((hB10.out).alloc (hB10.out).size (.cells #[.string ⟨#[]⟩, .int .i64 0] 35))
  go_wp2_with fail
  refine (refDel_is rfl hO11 hl200 k hkl _ (Below.refl _ _)).mono ?_
  rintro e w12 ⟨v12, rfl, hO12, hb12⟩
  obtain ⟨A12, c12, rfl⟩ := own_slice hO12
  have hB12 := hB11.out.trans (hb12.mono hB11.out.size)
  have hO12' := own_later hO11 hb12
  have hy12 : Box4 w12 w7.heap.size 35 [.string ym, .int .i64 ys] := (hb12.block _ hy11.lt).trans hy11
  have hz12 := (hb12.block _ hz11.lt).trans (show _ = _ from hz11)
  have hRP2 := refPack_any A12 _ _ c12 rfl (by rw [delAt_length hkl]; omega) w12 (row_reads hO12 rfl)
  rw [hpd] at hRP2
  go_wp2_with fail
  refine hRP2.mono ?_
  rintro e w13 ⟨rfl, hb13⟩
  have hB13 := Lib.hid (hB12.trans (hb13.mono hB12.size))
  have hE13 := Lib.hid (row_reads (own_later hO12' hb13) rfl)
  have hy13 : Box4 w13 w7.heap.size 35 [.string ym, .int .i64 ys] := (hb13.block _ hy12.lt).trans hy12
  have hz13 : Box4 w13 w10.heap.size 35 [.string ⟨#[]⟩, .int .i64 0] := (hb13.block _ (show _ < w12.heap.size from (Array.getElem?_eq_some_iff.1 hz12).1)).trans hz12
  obtain ⟨gb, go, hge, l0, l1⟩ := hE13.out k hkl
  rw [HYM.out] at l0
  rw [HYS.out] at l1
  cases hge
  have zf0 : w13.frozen? ⟨w10.heap.size, 0, none⟩ = false := by simp [World.frozen?, show w13.heap[w10.heap.size]? = _ from hz13]
  have zf1 : w13.frozen? ⟨w10.heap.size, 1, none⟩ = false := by simp [World.frozen?, show w13.heap[w10.heap.size]? = _ from hz13]
  have zc0 := hz13.cell 0 (by simp)
  have zc1 := hz13.cell 1 (by simp)
  simp only [List.getElem_cons_zero, List.getElem_cons_succ] at zc0 zc1
  have hne : w7.heap.size ≠ w10.heap.size := by have := hy10.lt; omega
  have hz14 := (hz13.set 0 (.string ym)).set 1 (.int .i64 ys)
  have hy14 : Box4 ((w13.setCell ⟨w10.heap.size, 0, none⟩ (.string ym)).setCell ⟨w10.heap.size, 1, none⟩ (.int .i64 ys)) w7.heap.size 35 [.string ym, .int .i64 ys] := (Below.heap_setCell _ _ _ _ hne).trans ((Below.heap_setCell _ _ _ _ hne).trans hy13)
  have hB14 := Lib.hid ((hB13.out.setCell (p := ⟨w10.heap.size, 0, none⟩) (by have := (hB10.out).size; (try simp at this); omega) (.string ym)).setCell (p := ⟨w10.heap.size, 1, none⟩) (by have := (hB10.out).size; (try simp at this); omega) (.int .i64 ys))
  have y0 := hy14.cell 0 (by simp)
  have y1 := hy14.cell 1 (by simp)
  have z0 := hz14.cell 0 (by simp)
  have z1 := hz14.cell 1 (by simp)
  simp only [List.set_cons_zero, List.set_cons_succ, List.getElem_cons_zero, List.getElem_cons_succ] at y0 y1 z0 z1
  go_wp2_with fail
  go_ret
  exact ⟨rfl, hB14.out⟩

set_option maxHeartbeats 4000000 in
theorem changes_I2D1 (A : Option Addr) (l0 l : List Ent) (len c0 : Nat) (hlen : l0.length = len) (hm : len ≤ 9223372036854775807) (hl : few l0 = l) (hl200 : l.length ≤ 200) (h200 : l.length = 200) (m : ByteArray) (q : Nat) (hq : min m.size 70 = q) (sc : Int) (k : Nat) (hik : k ≤ l.length) (hmq : q ≤ 64) (hkl : k < l.length) (p : ByteArray) (less : ByteArray)
    (hP : packS l = (p, 0)) (hI : ∀ w, Calls Try.prog 23 #[.string p, .int .i64 k, .agg #[.string (m.extract 0 q), .int .i64 sc]] w fun e' w' => e' = .returned (.tuple #[.string ⟨#[]⟩, .int .i64 51]) ∧ Below w.heap.size w w')
    (hD : ∀ w, Calls Try.prog 24 #[.string p, .int .i64 k] w fun e' w' => e' = .returned (.tuple #[.string less, .int .i64 0]) ∧ Below w.heap.size w w')
    (hG : ∀ w, Calls Try.prog 25 #[.string p, .int .i64 k] w fun e' w' => e' = .returned (.tuple #[.agg #[.string (l[k]'hkl).1, .int .i64 (l[k]'hkl).2], .int .i64 0]) ∧ Below w.heap.size w w')
    (hpi : packS (insAt l k (m.extract 0 q, sc)) = (⟨#[]⟩, 51))
    (hpd : packS (delAt l k) = (less, 0))
    (w : World) (hr : Els w A l0) :
    Calls Try.prog 7 #[.slice A len c0, .int .i64 k, .agg #[.string m, .int .i64 sc]] w fun e w' => e = .returned (.bool true) ∧ Below w.heap.size w w' := by
  have HB := Lib.hid ((Below.refl w.heap.size w).alloc (Nat.le_refl _) (.cells #[.string m, .int .i64 sc] 35))
  have hF := fun w' (hb : Below w.heap.size w w') => few_any A l0 len c0 hlen hm w' (hr.later hb)
  simp only [hl] at hF
  have hq1 : q ≤ m.size := by omega
  have hq2 : (min (m.size : Int) 70) = (q : Int) := by omega
  obtain ⟨mq, hmqe⟩ : ∃ mq, m.extract 0 q = mq := ⟨_, rfl⟩
  have hmqs : mq.size = q := by rw [← hmqe, ByteArray.size_extract]; omega
  have HM := Lib.hid hmqe
  rw [hmqe] at hI hpi
  have hn2' := Lib.hid (show ((l.length : Int) == 200) = true from beq_iff_eq.2 (by omega))
  clear hr hl hlen hq hmqe h200
  obtain ⟨ym, hym⟩ : ∃ y, (l[k]'hkl).1 = y := ⟨_, rfl⟩
  obtain ⟨ys, hys⟩ : ∃ y, (l[k]'hkl).2 = y := ⟨_, rfl⟩
  rw [hym, hys] at hG
  have HYM := Lib.hid hym
  have HYS := Lib.hid hys
  clear hym hys
  go_enter Try.func7, Try.ntmps7
  go_wp2_with fail
  refine (shown_any _).mono ?_
  rintro e w1 ⟨rfl, hb1⟩
  have hB1 := HB.out.trans (hb1.mono (by simp))
  have hx1 : Box4 w1 w.heap.size 35 [.string m, .int .i64 sc] := (hb1.block _ (by simp)).trans (Box4.new w 35 _)
  clear hb1
  go_wp2_with fail
  refine (hF _ hB1).mono ?_
  rintro e w2 ⟨v2, rfl, hO2, hb2⟩
  obtain ⟨A2, c2, rfl⟩ := own_slice hO2
  have hB2 := hB1.trans (hb2.mono hB1.size)
  have hx2 : Box4 w2 w.heap.size 35 [.string m, .int .i64 sc] := (hb2.block _ hx1.lt).trans hx1
  obtain ⟨k0, k1⟩ := box2 (w' := w2) hx2
  have kf : w2.frozen? ⟨w.heap.size, 0, none⟩ = false := by simp [World.frozen?, show w2.heap[w.heap.size]? = _ from hx2]
  have hO2' := ownsRow_setCell_below hO2 (a := ⟨w.heap.size, 0, none⟩) hx1.lt (.string mq)
  have hx2' : Box4 (w2.setCell ⟨w.heap.size, 0, none⟩ (.string mq)) w.heap.size 35 [.string mq, .int .i64 sc] := hx2.set 0 (.string mq)
  have hB2' := hB2.setCell (p := ⟨w.heap.size, 0, none⟩) (Nat.le_refl _) (.string mq)
  have hms : m.extract 0 q = mq := HM.out
  clear hF hO2 hb2 hB1 hx1
  go_wp2_with fail
  clear k0 k1 kf hB2 hx2 hms
  generalize w2.setCell ⟨w.heap.size, 0, none⟩ (.string mq) = w3 at *
  have hPk := pack_any A2 l l.length c2 rfl w3 (row_reads hO2' rfl)
  rw [hP] at hPk
  refine hPk.mono ?_
  rintro e w4 ⟨rfl, hb4⟩
  have hB4 := hB2'.trans (hb4.mono hB2'.size)
  have hx4 : Box4 w4 w.heap.size 35 [.string mq, .int .i64 sc] := (hb4.block _ hx2'.lt).trans hx2'
  have hO4 := own_later hO2' hb4
  obtain ⟨k0, k1⟩ := box2 (w' := w4) hx4
  clear hb4 hB2' hx2' hO2' hPk
  go_wp2_with fail
  refine (hI _).mono ?_
  rintro e w5 ⟨rfl, hb5⟩
  have hB5 := hB4.trans (hb5.mono hB4.size)
  have hx5 : Box4 w5 w.heap.size 35 [.string mq, .int .i64 sc] := (hb5.block _ hx4.lt).trans hx4
  have hO5 := own_later hO4 hb5
  clear hb5 hB4 hx4 hO4 k0 k1
  go_wp2_with fail
  refine (hD _).mono ?_
  rintro e w6 ⟨rfl, hb6⟩
  have hB6 := hB5.trans (hb6.mono hB5.size)
  have hx6 : Box4 w6 w.heap.size 35 [.string mq, .int .i64 sc] := (hb6.block _ hx5.lt).trans hx5
  have hO6 := own_later hO5 hb6
  clear hb6 hB5 hx5 hO5
  go_wp2_with fail
  refine (hG _).mono ?_
  rintro e w7 ⟨rfl, hb7⟩
  have hB7 := hB6.trans (hb7.mono hB6.size)
  have hx7 : Box4 w7 w.heap.size 35 [.string mq, .int .i64 sc] := (hb7.block _ hx6.lt).trans hx6
  have hO7 := own_later hO6 hb7
  clear hb7 hB6 hx6 hO6
  obtain ⟨Y, hY⟩ : ∃ Y, Value.string ym = Y := ⟨_, rfl⟩
  have HB8 := Lib.hid (hB7.alloc hB7.size (.cells #[.string ym, .int .i64 ys] 35))
  have hx8 : Box4 (w7.alloc (.cells #[.string ym, .int .i64 ys] 35)) w.heap.size 35 [.string mq, .int .i64 sc] := Box4.alloc hx7 _
  have hy8 := Box4.new w7 35 [.string ym, .int .i64 ys]
  have hO8 := hO7.alloc (.cells #[.string ym, .int .i64 ys] 35)
  obtain ⟨k0, k1⟩ := box2 (w' := w7) hx7
  have hlt7 := hx7.lt
  clear hY hO7
  have hn2 := hn2'.out
  go_wp2_with fail
  refine (refIns_any rfl hO8 (by omega) k hik mq sc _ (Below.refl _ _)).mono ?_
  rintro e w9 ⟨v9, rfl, hO9, hb9⟩
  obtain ⟨A9, c9, rfl⟩ := own_slice hO9
  have hB9 := HB8.out.trans (hb9.mono HB8.out.size)
  have hO9' := own_later hO8 hb9
  have hy9 : Box4 w9 w7.heap.size 35 [.string ym, .int .i64 ys] := (hb9.block _ hy8.lt).trans hy8
  have hRP := refPack_any A9 _ _ c9 rfl (by rw [insAt_length hik]; omega) w9 (row_reads hO9 rfl)
  rw [hpi] at hRP
  clear hb9 HB8 hO8 hx8 hy8 hO9 k0 k1 hx7 hlt7
  go_wp2_with fail
  refine hRP.mono ?_
  rintro e w10 ⟨rfl, hb10⟩
  have hB10 := Lib.hid (hB9.trans (hb10.mono hB9.size))
  have hO10 := own_later hO9' hb10
  have hy10 : Box4 w10 w7.heap.size 35 [.string ym, .int .i64 ys] := (hb10.block _ hy9.lt).trans hy9
  clear hb10 hB9 hO9' hy9 hRP
  have hO11 := hO10.alloc (.cells #[.string ⟨#[]⟩, .int .i64 0] 35)
  have hy11 := Box4.alloc hy10 (.cells #[.string ⟨#[]⟩, .int .i64 0] 35)
  have hz11 : Box4 (w10.alloc (.cells #[.string ⟨#[]⟩, .int .i64 0] 35)) w10.heap.size 35 [.string ⟨#[]⟩, .int .i64 0] := by have := Box4.new w10 35 [.string ⟨#[]⟩, .int .i64 0]; simpa using this
  have hB11 := Lib.hid ((hB10.out).alloc (hB10.out).size (.cells #[.string ⟨#[]⟩, .int .i64 0] 35))
  go_wp2_with fail
  refine (refDel_is rfl hO11 hl200 k hkl _ (Below.refl _ _)).mono ?_
  rintro e w12 ⟨v12, rfl, hO12, hb12⟩
  obtain ⟨A12, c12, rfl⟩ := own_slice hO12
  have hB12 := hB11.out.trans (hb12.mono hB11.out.size)
  have hO12' := own_later hO11 hb12
  have hy12 : Box4 w12 w7.heap.size 35 [.string ym, .int .i64 ys] := (hb12.block _ hy11.lt).trans hy11
  have hz12 := (hb12.block _ hz11.lt).trans (show _ = _ from hz11)
  have hRP2 := refPack_any A12 _ _ c12 rfl (by rw [delAt_length hkl]; omega) w12 (row_reads hO12 rfl)
  rw [hpd] at hRP2
  go_wp2_with fail
  refine hRP2.mono ?_
  rintro e w13 ⟨rfl, hb13⟩
  have hB13 := Lib.hid (hB12.trans (hb13.mono hB12.size))
  have hE13 := Lib.hid (row_reads (own_later hO12' hb13) rfl)
  have hy13 : Box4 w13 w7.heap.size 35 [.string ym, .int .i64 ys] := (hb13.block _ hy12.lt).trans hy12
  have hz13 : Box4 w13 w10.heap.size 35 [.string ⟨#[]⟩, .int .i64 0] := (hb13.block _ (show _ < w12.heap.size from (Array.getElem?_eq_some_iff.1 hz12).1)).trans hz12
  obtain ⟨gb, go, hge, l0, l1⟩ := hE13.out k hkl
  rw [HYM.out] at l0
  rw [HYS.out] at l1
  cases hge
  have zf0 : w13.frozen? ⟨w10.heap.size, 0, none⟩ = false := by simp [World.frozen?, show w13.heap[w10.heap.size]? = _ from hz13]
  have zf1 : w13.frozen? ⟨w10.heap.size, 1, none⟩ = false := by simp [World.frozen?, show w13.heap[w10.heap.size]? = _ from hz13]
  have zc0 := hz13.cell 0 (by simp)
  have zc1 := hz13.cell 1 (by simp)
  simp only [List.getElem_cons_zero, List.getElem_cons_succ] at zc0 zc1
  have hne : w7.heap.size ≠ w10.heap.size := by have := hy10.lt; omega
  have hz14 := (hz13.set 0 (.string ym)).set 1 (.int .i64 ys)
  have hy14 : Box4 ((w13.setCell ⟨w10.heap.size, 0, none⟩ (.string ym)).setCell ⟨w10.heap.size, 1, none⟩ (.int .i64 ys)) w7.heap.size 35 [.string ym, .int .i64 ys] := (Below.heap_setCell _ _ _ _ hne).trans ((Below.heap_setCell _ _ _ _ hne).trans hy13)
  have hB14 := Lib.hid ((hB13.out.setCell (p := ⟨w10.heap.size, 0, none⟩) (by have := (hB10.out).size; (try simp at this); omega) (.string ym)).setCell (p := ⟨w10.heap.size, 1, none⟩) (by have := (hB10.out).size; (try simp at this); omega) (.int .i64 ys))
  have y0 := hy14.cell 0 (by simp)
  have y1 := hy14.cell 1 (by simp)
  have z0 := hz14.cell 0 (by simp)
  have z1 := hz14.cell 1 (by simp)
  simp only [List.set_cons_zero, List.set_cons_succ, List.getElem_cons_zero, List.getElem_cons_succ] at y0 y1 z0 z1
  go_wp2_with fail
  go_ret
  exact ⟨rfl, hB14.out⟩

set_option maxHeartbeats 4000000 in
theorem changes_I3cD1 (A : Option Addr) (l0 l : List Ent) (len c0 : Nat) (hlen : l0.length = len) (hm : len ≤ 9223372036854775807) (hl : few l0 = l) (hl200 : l.length ≤ 200) (h200 : l.length ≠ 200) (m : ByteArray) (q : Nat) (hq : min m.size 70 = q) (sc : Int) (k : Nat) (hik : k ≤ l.length) (hmq : 64 < q) (hkl : k < l.length) (p : ByteArray) (less : ByteArray)
    (hP : packS l = (p, 0)) (hI : ∀ w, Calls Try.prog 23 #[.string p, .int .i64 k, .agg #[.string (m.extract 0 q), .int .i64 sc]] w fun e' w' => e' = .returned (.tuple #[.string ⟨#[]⟩, .int .i64 2]) ∧ Below w.heap.size w w')
    (hD : ∀ w, Calls Try.prog 24 #[.string p, .int .i64 k] w fun e' w' => e' = .returned (.tuple #[.string less, .int .i64 0]) ∧ Below w.heap.size w w')
    (hG : ∀ w, Calls Try.prog 25 #[.string p, .int .i64 k] w fun e' w' => e' = .returned (.tuple #[.agg #[.string (l[k]'hkl).1, .int .i64 (l[k]'hkl).2], .int .i64 0]) ∧ Below w.heap.size w w')
    (hpd : packS (delAt l k) = (less, 0))
    (w : World) (hr : Els w A l0) :
    Calls Try.prog 7 #[.slice A len c0, .int .i64 k, .agg #[.string m, .int .i64 sc]] w fun e w' => e = .returned (.bool true) ∧ Below w.heap.size w w' := by
  have HB := Lib.hid ((Below.refl w.heap.size w).alloc (Nat.le_refl _) (.cells #[.string m, .int .i64 sc] 35))
  have hF := fun w' (hb : Below w.heap.size w w') => few_any A l0 len c0 hlen hm w' (hr.later hb)
  simp only [hl] at hF
  have hq1 : q ≤ m.size := by omega
  have hq2 : (min (m.size : Int) 70) = (q : Int) := by omega
  obtain ⟨mq, hmqe⟩ : ∃ mq, m.extract 0 q = mq := ⟨_, rfl⟩
  have hmqs : mq.size = q := by rw [← hmqe, ByteArray.size_extract]; omega
  have HM := Lib.hid hmqe
  rw [hmqe] at hI
  have hn2' := Lib.hid (show ((l.length : Int) == 200) = false from beq_eq_false_iff_ne.2 (by omega))
  clear hr hl hlen hq hmqe h200
  obtain ⟨ym, hym⟩ : ∃ y, (l[k]'hkl).1 = y := ⟨_, rfl⟩
  obtain ⟨ys, hys⟩ : ∃ y, (l[k]'hkl).2 = y := ⟨_, rfl⟩
  rw [hym, hys] at hG
  have HYM := Lib.hid hym
  have HYS := Lib.hid hys
  clear hym hys
  go_enter Try.func7, Try.ntmps7
  go_wp2_with fail
  refine (shown_any _).mono ?_
  rintro e w1 ⟨rfl, hb1⟩
  have hB1 := HB.out.trans (hb1.mono (by simp))
  have hx1 : Box4 w1 w.heap.size 35 [.string m, .int .i64 sc] := (hb1.block _ (by simp)).trans (Box4.new w 35 _)
  clear hb1
  go_wp2_with fail
  refine (hF _ hB1).mono ?_
  rintro e w2 ⟨v2, rfl, hO2, hb2⟩
  obtain ⟨A2, c2, rfl⟩ := own_slice hO2
  have hB2 := hB1.trans (hb2.mono hB1.size)
  have hx2 : Box4 w2 w.heap.size 35 [.string m, .int .i64 sc] := (hb2.block _ hx1.lt).trans hx1
  obtain ⟨k0, k1⟩ := box2 (w' := w2) hx2
  have kf : w2.frozen? ⟨w.heap.size, 0, none⟩ = false := by simp [World.frozen?, show w2.heap[w.heap.size]? = _ from hx2]
  have hO2' := ownsRow_setCell_below hO2 (a := ⟨w.heap.size, 0, none⟩) hx1.lt (.string mq)
  have hx2' : Box4 (w2.setCell ⟨w.heap.size, 0, none⟩ (.string mq)) w.heap.size 35 [.string mq, .int .i64 sc] := hx2.set 0 (.string mq)
  have hB2' := hB2.setCell (p := ⟨w.heap.size, 0, none⟩) (Nat.le_refl _) (.string mq)
  have hms : m.extract 0 q = mq := HM.out
  clear hF hO2 hb2 hB1 hx1
  go_wp2_with fail
  clear k0 k1 kf hB2 hx2 hms
  generalize w2.setCell ⟨w.heap.size, 0, none⟩ (.string mq) = w3 at *
  have hPk := pack_any A2 l l.length c2 rfl w3 (row_reads hO2' rfl)
  rw [hP] at hPk
  refine hPk.mono ?_
  rintro e w4 ⟨rfl, hb4⟩
  have hB4 := hB2'.trans (hb4.mono hB2'.size)
  have hx4 : Box4 w4 w.heap.size 35 [.string mq, .int .i64 sc] := (hb4.block _ hx2'.lt).trans hx2'
  have hO4 := own_later hO2' hb4
  obtain ⟨k0, k1⟩ := box2 (w' := w4) hx4
  clear hb4 hB2' hx2' hO2' hPk
  go_wp2_with fail
  refine (hI _).mono ?_
  rintro e w5 ⟨rfl, hb5⟩
  have hB5 := hB4.trans (hb5.mono hB4.size)
  have hx5 : Box4 w5 w.heap.size 35 [.string mq, .int .i64 sc] := (hb5.block _ hx4.lt).trans hx4
  have hO5 := own_later hO4 hb5
  clear hb5 hB4 hx4 hO4 k0 k1
  go_wp2_with fail
  refine (hD _).mono ?_
  rintro e w6 ⟨rfl, hb6⟩
  have hB6 := hB5.trans (hb6.mono hB5.size)
  have hx6 : Box4 w6 w.heap.size 35 [.string mq, .int .i64 sc] := (hb6.block _ hx5.lt).trans hx5
  have hO6 := own_later hO5 hb6
  clear hb6 hB5 hx5 hO5
  go_wp2_with fail
  refine (hG _).mono ?_
  rintro e w7 ⟨rfl, hb7⟩
  have hB7 := hB6.trans (hb7.mono hB6.size)
  have hx7 : Box4 w7 w.heap.size 35 [.string mq, .int .i64 sc] := (hb7.block _ hx6.lt).trans hx6
  have hO7 := own_later hO6 hb7
  clear hb7 hB6 hx6 hO6
  obtain ⟨Y, hY⟩ : ∃ Y, Value.string ym = Y := ⟨_, rfl⟩
  have HB8 := Lib.hid (hB7.alloc hB7.size (.cells #[.string ym, .int .i64 ys] 35))
  have hx8 : Box4 (w7.alloc (.cells #[.string ym, .int .i64 ys] 35)) w.heap.size 35 [.string mq, .int .i64 sc] := Box4.alloc hx7 _
  have hy8 := Box4.new w7 35 [.string ym, .int .i64 ys]
  have hO8 := hO7.alloc (.cells #[.string ym, .int .i64 ys] 35)
  obtain ⟨k0, k1⟩ := box2 (w' := w7) hx7
  have hlt7 := hx7.lt
  clear hY hO7
  have hn2 := hn2'.out
  have hO11 := hO8.alloc (.cells #[.string ⟨#[]⟩, .int .i64 0] 35)
  have hy11 := Box4.alloc hy8 (.cells #[.string ⟨#[]⟩, .int .i64 0] 35)
  have hz11 : Box4 ((w7.alloc (.cells #[.string ym, .int .i64 ys] 35)).alloc (.cells #[.string ⟨#[]⟩, .int .i64 0] 35)) (w7.heap.size + 1) 35 [.string ⟨#[]⟩, .int .i64 0] := by have := Box4.new (w7.alloc (.cells #[.string ym, .int .i64 ys] 35)) 35 [.string ⟨#[]⟩, .int .i64 0]; simpa using this
  have hB11 := Lib.hid ((HB8.out).alloc (HB8.out).size (.cells #[.string ⟨#[]⟩, .int .i64 0] 35))
  go_wp2_with fail
  refine (refDel_is rfl hO11 hl200 k hkl _ (Below.refl _ _)).mono ?_
  rintro e w12 ⟨v12, rfl, hO12, hb12⟩
  obtain ⟨A12, c12, rfl⟩ := own_slice hO12
  have hB12 := hB11.out.trans (hb12.mono hB11.out.size)
  have hO12' := own_later hO11 hb12
  have hy12 : Box4 w12 w7.heap.size 35 [.string ym, .int .i64 ys] := (hb12.block _ hy11.lt).trans hy11
  have hz12 := (hb12.block _ hz11.lt).trans (show _ = _ from hz11)
  have hRP2 := refPack_any A12 _ _ c12 rfl (by rw [delAt_length hkl]; omega) w12 (row_reads hO12 rfl)
  rw [hpd] at hRP2
  go_wp2_with fail
  refine hRP2.mono ?_
  rintro e w13 ⟨rfl, hb13⟩
  have hB13 := Lib.hid (hB12.trans (hb13.mono hB12.size))
  have hE13 := Lib.hid (row_reads (own_later hO12' hb13) rfl)
  have hy13 : Box4 w13 w7.heap.size 35 [.string ym, .int .i64 ys] := (hb13.block _ hy12.lt).trans hy12
  have hz13 : Box4 w13 (w7.heap.size + 1) 35 [.string ⟨#[]⟩, .int .i64 0] := (hb13.block _ (show _ < w12.heap.size from (Array.getElem?_eq_some_iff.1 hz12).1)).trans hz12
  obtain ⟨gb, go, hge, l0, l1⟩ := hE13.out k hkl
  rw [HYM.out] at l0
  rw [HYS.out] at l1
  cases hge
  have zf0 : w13.frozen? ⟨(w7.heap.size + 1), 0, none⟩ = false := by simp [World.frozen?, show w13.heap[(w7.heap.size + 1)]? = _ from hz13]
  have zf1 : w13.frozen? ⟨(w7.heap.size + 1), 1, none⟩ = false := by simp [World.frozen?, show w13.heap[(w7.heap.size + 1)]? = _ from hz13]
  have zc0 := hz13.cell 0 (by simp)
  have zc1 := hz13.cell 1 (by simp)
  simp only [List.getElem_cons_zero, List.getElem_cons_succ] at zc0 zc1
  have hne : w7.heap.size ≠ (w7.heap.size + 1) := by have := hy8.lt; omega
  have hz14 := (hz13.set 0 (.string ym)).set 1 (.int .i64 ys)
  have hy14 : Box4 ((w13.setCell ⟨(w7.heap.size + 1), 0, none⟩ (.string ym)).setCell ⟨(w7.heap.size + 1), 1, none⟩ (.int .i64 ys)) w7.heap.size 35 [.string ym, .int .i64 ys] := (Below.heap_setCell _ _ _ _ hne).trans ((Below.heap_setCell _ _ _ _ hne).trans hy13)
  have hB14 := Lib.hid ((hB13.out.setCell (p := ⟨(w7.heap.size + 1), 0, none⟩) (by have := (HB8.out).size; (try simp at this); omega) (.string ym)).setCell (p := ⟨(w7.heap.size + 1), 1, none⟩) (by have := (HB8.out).size; (try simp at this); omega) (.int .i64 ys))
  have y0 := hy14.cell 0 (by simp)
  have y1 := hy14.cell 1 (by simp)
  have z0 := hz14.cell 0 (by simp)
  have z1 := hz14.cell 1 (by simp)
  simp only [List.set_cons_zero, List.set_cons_succ, List.getElem_cons_zero, List.getElem_cons_succ] at y0 y1 z0 z1
  go_wp2_with fail
  go_ret
  exact ⟨rfl, hB14.out⟩

set_option maxHeartbeats 4000000 in
theorem changes_I4cD1 (A : Option Addr) (l0 l : List Ent) (len c0 : Nat) (hlen : l0.length = len) (hm : len ≤ 9223372036854775807) (hl : few l0 = l) (hl200 : l.length ≤ 200) (h200 : l.length = 200) (m : ByteArray) (q : Nat) (hq : min m.size 70 = q) (sc : Int) (k : Nat) (hik : k ≤ l.length) (hmq : 64 < q) (hkl : k < l.length) (p : ByteArray) (less : ByteArray)
    (hP : packS l = (p, 0)) (hI : ∀ w, Calls Try.prog 23 #[.string p, .int .i64 k, .agg #[.string (m.extract 0 q), .int .i64 sc]] w fun e' w' => e' = .returned (.tuple #[.string ⟨#[]⟩, .int .i64 51]) ∧ Below w.heap.size w w')
    (hD : ∀ w, Calls Try.prog 24 #[.string p, .int .i64 k] w fun e' w' => e' = .returned (.tuple #[.string less, .int .i64 0]) ∧ Below w.heap.size w w')
    (hG : ∀ w, Calls Try.prog 25 #[.string p, .int .i64 k] w fun e' w' => e' = .returned (.tuple #[.agg #[.string (l[k]'hkl).1, .int .i64 (l[k]'hkl).2], .int .i64 0]) ∧ Below w.heap.size w w')
    (hpd : packS (delAt l k) = (less, 0))
    (w : World) (hr : Els w A l0) :
    Calls Try.prog 7 #[.slice A len c0, .int .i64 k, .agg #[.string m, .int .i64 sc]] w fun e w' => e = .returned (.bool true) ∧ Below w.heap.size w w' := by
  have HB := Lib.hid ((Below.refl w.heap.size w).alloc (Nat.le_refl _) (.cells #[.string m, .int .i64 sc] 35))
  have hF := fun w' (hb : Below w.heap.size w w') => few_any A l0 len c0 hlen hm w' (hr.later hb)
  simp only [hl] at hF
  have hq1 : q ≤ m.size := by omega
  have hq2 : (min (m.size : Int) 70) = (q : Int) := by omega
  obtain ⟨mq, hmqe⟩ : ∃ mq, m.extract 0 q = mq := ⟨_, rfl⟩
  have hmqs : mq.size = q := by rw [← hmqe, ByteArray.size_extract]; omega
  have HM := Lib.hid hmqe
  rw [hmqe] at hI
  have hn2' := Lib.hid (show ((l.length : Int) == 200) = true from beq_iff_eq.2 (by omega))
  clear hr hl hlen hq hmqe h200
  obtain ⟨ym, hym⟩ : ∃ y, (l[k]'hkl).1 = y := ⟨_, rfl⟩
  obtain ⟨ys, hys⟩ : ∃ y, (l[k]'hkl).2 = y := ⟨_, rfl⟩
  rw [hym, hys] at hG
  have HYM := Lib.hid hym
  have HYS := Lib.hid hys
  clear hym hys
  go_enter Try.func7, Try.ntmps7
  go_wp2_with fail
  refine (shown_any _).mono ?_
  rintro e w1 ⟨rfl, hb1⟩
  have hB1 := HB.out.trans (hb1.mono (by simp))
  have hx1 : Box4 w1 w.heap.size 35 [.string m, .int .i64 sc] := (hb1.block _ (by simp)).trans (Box4.new w 35 _)
  clear hb1
  go_wp2_with fail
  refine (hF _ hB1).mono ?_
  rintro e w2 ⟨v2, rfl, hO2, hb2⟩
  obtain ⟨A2, c2, rfl⟩ := own_slice hO2
  have hB2 := hB1.trans (hb2.mono hB1.size)
  have hx2 : Box4 w2 w.heap.size 35 [.string m, .int .i64 sc] := (hb2.block _ hx1.lt).trans hx1
  obtain ⟨k0, k1⟩ := box2 (w' := w2) hx2
  have kf : w2.frozen? ⟨w.heap.size, 0, none⟩ = false := by simp [World.frozen?, show w2.heap[w.heap.size]? = _ from hx2]
  have hO2' := ownsRow_setCell_below hO2 (a := ⟨w.heap.size, 0, none⟩) hx1.lt (.string mq)
  have hx2' : Box4 (w2.setCell ⟨w.heap.size, 0, none⟩ (.string mq)) w.heap.size 35 [.string mq, .int .i64 sc] := hx2.set 0 (.string mq)
  have hB2' := hB2.setCell (p := ⟨w.heap.size, 0, none⟩) (Nat.le_refl _) (.string mq)
  have hms : m.extract 0 q = mq := HM.out
  clear hF hO2 hb2 hB1 hx1
  go_wp2_with fail
  clear k0 k1 kf hB2 hx2 hms
  generalize w2.setCell ⟨w.heap.size, 0, none⟩ (.string mq) = w3 at *
  have hPk := pack_any A2 l l.length c2 rfl w3 (row_reads hO2' rfl)
  rw [hP] at hPk
  refine hPk.mono ?_
  rintro e w4 ⟨rfl, hb4⟩
  have hB4 := hB2'.trans (hb4.mono hB2'.size)
  have hx4 : Box4 w4 w.heap.size 35 [.string mq, .int .i64 sc] := (hb4.block _ hx2'.lt).trans hx2'
  have hO4 := own_later hO2' hb4
  obtain ⟨k0, k1⟩ := box2 (w' := w4) hx4
  clear hb4 hB2' hx2' hO2' hPk
  go_wp2_with fail
  refine (hI _).mono ?_
  rintro e w5 ⟨rfl, hb5⟩
  have hB5 := hB4.trans (hb5.mono hB4.size)
  have hx5 : Box4 w5 w.heap.size 35 [.string mq, .int .i64 sc] := (hb5.block _ hx4.lt).trans hx4
  have hO5 := own_later hO4 hb5
  clear hb5 hB4 hx4 hO4 k0 k1
  go_wp2_with fail
  refine (hD _).mono ?_
  rintro e w6 ⟨rfl, hb6⟩
  have hB6 := hB5.trans (hb6.mono hB5.size)
  have hx6 : Box4 w6 w.heap.size 35 [.string mq, .int .i64 sc] := (hb6.block _ hx5.lt).trans hx5
  have hO6 := own_later hO5 hb6
  clear hb6 hB5 hx5 hO5
  go_wp2_with fail
  refine (hG _).mono ?_
  rintro e w7 ⟨rfl, hb7⟩
  have hB7 := hB6.trans (hb7.mono hB6.size)
  have hx7 : Box4 w7 w.heap.size 35 [.string mq, .int .i64 sc] := (hb7.block _ hx6.lt).trans hx6
  have hO7 := own_later hO6 hb7
  clear hb7 hB6 hx6 hO6
  obtain ⟨Y, hY⟩ : ∃ Y, Value.string ym = Y := ⟨_, rfl⟩
  have HB8 := Lib.hid (hB7.alloc hB7.size (.cells #[.string ym, .int .i64 ys] 35))
  have hx8 : Box4 (w7.alloc (.cells #[.string ym, .int .i64 ys] 35)) w.heap.size 35 [.string mq, .int .i64 sc] := Box4.alloc hx7 _
  have hy8 := Box4.new w7 35 [.string ym, .int .i64 ys]
  have hO8 := hO7.alloc (.cells #[.string ym, .int .i64 ys] 35)
  obtain ⟨k0, k1⟩ := box2 (w' := w7) hx7
  have hlt7 := hx7.lt
  clear hY hO7
  have hn2 := hn2'.out
  have hO11 := hO8.alloc (.cells #[.string ⟨#[]⟩, .int .i64 0] 35)
  have hy11 := Box4.alloc hy8 (.cells #[.string ⟨#[]⟩, .int .i64 0] 35)
  have hz11 : Box4 ((w7.alloc (.cells #[.string ym, .int .i64 ys] 35)).alloc (.cells #[.string ⟨#[]⟩, .int .i64 0] 35)) (w7.heap.size + 1) 35 [.string ⟨#[]⟩, .int .i64 0] := by have := Box4.new (w7.alloc (.cells #[.string ym, .int .i64 ys] 35)) 35 [.string ⟨#[]⟩, .int .i64 0]; simpa using this
  have hB11 := Lib.hid ((HB8.out).alloc (HB8.out).size (.cells #[.string ⟨#[]⟩, .int .i64 0] 35))
  go_wp2_with fail
  refine (refDel_is rfl hO11 hl200 k hkl _ (Below.refl _ _)).mono ?_
  rintro e w12 ⟨v12, rfl, hO12, hb12⟩
  obtain ⟨A12, c12, rfl⟩ := own_slice hO12
  have hB12 := hB11.out.trans (hb12.mono hB11.out.size)
  have hO12' := own_later hO11 hb12
  have hy12 : Box4 w12 w7.heap.size 35 [.string ym, .int .i64 ys] := (hb12.block _ hy11.lt).trans hy11
  have hz12 := (hb12.block _ hz11.lt).trans (show _ = _ from hz11)
  have hRP2 := refPack_any A12 _ _ c12 rfl (by rw [delAt_length hkl]; omega) w12 (row_reads hO12 rfl)
  rw [hpd] at hRP2
  go_wp2_with fail
  refine hRP2.mono ?_
  rintro e w13 ⟨rfl, hb13⟩
  have hB13 := Lib.hid (hB12.trans (hb13.mono hB12.size))
  have hE13 := Lib.hid (row_reads (own_later hO12' hb13) rfl)
  have hy13 : Box4 w13 w7.heap.size 35 [.string ym, .int .i64 ys] := (hb13.block _ hy12.lt).trans hy12
  have hz13 : Box4 w13 (w7.heap.size + 1) 35 [.string ⟨#[]⟩, .int .i64 0] := (hb13.block _ (show _ < w12.heap.size from (Array.getElem?_eq_some_iff.1 hz12).1)).trans hz12
  obtain ⟨gb, go, hge, l0, l1⟩ := hE13.out k hkl
  rw [HYM.out] at l0
  rw [HYS.out] at l1
  cases hge
  have zf0 : w13.frozen? ⟨(w7.heap.size + 1), 0, none⟩ = false := by simp [World.frozen?, show w13.heap[(w7.heap.size + 1)]? = _ from hz13]
  have zf1 : w13.frozen? ⟨(w7.heap.size + 1), 1, none⟩ = false := by simp [World.frozen?, show w13.heap[(w7.heap.size + 1)]? = _ from hz13]
  have zc0 := hz13.cell 0 (by simp)
  have zc1 := hz13.cell 1 (by simp)
  simp only [List.getElem_cons_zero, List.getElem_cons_succ] at zc0 zc1
  have hne : w7.heap.size ≠ (w7.heap.size + 1) := by have := hy8.lt; omega
  have hz14 := (hz13.set 0 (.string ym)).set 1 (.int .i64 ys)
  have hy14 : Box4 ((w13.setCell ⟨(w7.heap.size + 1), 0, none⟩ (.string ym)).setCell ⟨(w7.heap.size + 1), 1, none⟩ (.int .i64 ys)) w7.heap.size 35 [.string ym, .int .i64 ys] := (Below.heap_setCell _ _ _ _ hne).trans ((Below.heap_setCell _ _ _ _ hne).trans hy13)
  have hB14 := Lib.hid ((hB13.out.setCell (p := ⟨(w7.heap.size + 1), 0, none⟩) (by have := (HB8.out).size; (try simp at this); omega) (.string ym)).setCell (p := ⟨(w7.heap.size + 1), 1, none⟩) (by have := (HB8.out).size; (try simp at this); omega) (.int .i64 ys))
  have y0 := hy14.cell 0 (by simp)
  have y1 := hy14.cell 1 (by simp)
  have z0 := hz14.cell 0 (by simp)
  have z1 := hz14.cell 1 (by simp)
  simp only [List.set_cons_zero, List.set_cons_succ, List.getElem_cons_zero, List.getElem_cons_succ] at y0 y1 z0 z1
  go_wp2_with fail
  go_ret
  exact ⟨rfl, hB14.out⟩

theorem changes_any (A : Option Addr) (l0 : List Ent) (len c : Nat) (hlen : l0.length = len) (hm : len ≤ 9223372036854775807) (hrg : Rng l0) (i : Int) (m : ByteArray) (sc : Int) (hsc : -9223372036854775808 ≤ sc ∧ sc ≤ 9223372036854775807) (w : World) (hr : Els w A l0) :
    Calls Try.prog 7 #[.slice A len c, .int .i64 i, .agg #[.string m, .int .i64 sc]] w fun e w' => e = .returned (.bool true) ∧ Below w.heap.size w w' := by
  obtain ⟨l, hl⟩ : ∃ l, few l0 = l := ⟨_, rfl⟩
  have hrl := few_rng hrg
  rw [hl] at hrl
  by_cases he : (packS l).2 = 0
  · have hf := packS_fine hrl he
    have hps := pack_size hf
    have hpk := packS_ok hf
    have hl200 := hf.1
    obtain ⟨q, hq⟩ : ∃ q, min m.size 70 = q := ⟨_, rfl⟩
    have hxs : (m.extract 0 q).size = q := by rw [ByteArray.size_extract]; omega
    have hI := insert_any (strOfNums (packB l)) (by omega) i (m.extract 0 q) sc
    have hD := delete_any (strOfNums (packB l)) (by omega) i
    have hG := get_any (strOfNums (packB l)) (by omega) i
    by_cases h0 : i < 0
    · rw [del_out hf i (.inl h0)] at hD
      rw [get_out hf i (.inl h0)] at hG
      by_cases h200 : l.length = 200
      · rw [ins_full hf _ _ h200] at hI
        exact changes_I4aD2 A l0 l len c hlen hm hl hl200 h200 m q hq sc i h0 _ hpk hI hD hG w hr
      · rw [ins_out hf i _ h200 (.inl h0)] at hI
        exact changes_I3aD2 A l0 l len c hlen hm hl hl200 h200 m q hq sc i h0 _ hpk hI hD hG w hr
    · by_cases h1 : (l.length : Int) < i
      · rw [del_out hf i (.inr (by omega))] at hD
        rw [get_out hf i (.inr (by omega))] at hG
        by_cases h200 : l.length = 200
        · rw [ins_full hf _ _ h200] at hI
          exact changes_I4bD3 A l0 l len c hlen hm hl hl200 h200 m q hq sc i (by omega) h1 (by omega) _ hpk hI hD hG w hr
        · rw [ins_out hf i _ h200 (.inr (.inl h1))] at hI
          exact changes_I3bD3 A l0 l len c hlen hm hl hl200 h200 m q hq sc i (by omega) h1 (by omega) _ hpk hI hD hG w hr
      · obtain ⟨k, rfl⟩ : ∃ k : Nat, i = k := ⟨i.toNat, by omega⟩
        have hk : k ≤ l.length := by omega
        by_cases hin : k < l.length
        · have hfd := fine_delAt hf k
          rw [del_in hf k hin] at hD
          rw [get_in hf k hin] at hG
          have hpd := packS_ok hfd
          by_cases h200 : l.length = 200
          · rw [ins_full hf _ _ h200] at hI
            by_cases hb : q ≤ 64
            · exact changes_I2D1 A l0 l len c hlen hm hl hl200 h200 m q hq sc k hk hb hin _ _ hpk hI hD hG (packS_full (by rw [insAt_length hk]; omega)) hpd w hr
            · exact changes_I4cD1 A l0 l len c hlen hm hl hl200 h200 m q hq sc k hk (by omega) hin _ _ hpk hI hD hG hpd w hr
          · by_cases hb : q ≤ 64
            · have hfi := fine_insAt hf (by omega) hk (x := (m.extract 0 q, sc)) ⟨by show (m.extract 0 q).size ≤ 64; omega, hsc⟩
              rw [ins_in hf k hk _ h200 (by show (m.extract 0 q).size ≤ 64; omega)] at hI
              exact changes_I1D1 A l0 l len c hlen hm hl hl200 h200 m q hq sc k hk hb hin _ _ _ hpk hI hD hG (packS_ok hfi) hpd w hr
            · rw [ins_out hf k _ h200 (.inr (.inr (by show 64 < (m.extract 0 q).size; omega)))] at hI
              exact changes_I3cD1 A l0 l len c hlen hm hl hl200 h200 m q hq sc k hk (by omega) hin _ _ hpk hI hD hG hpd w hr
        · rw [del_out hf k (.inr (by omega))] at hD
          rw [get_out hf k (.inr (by omega))] at hG
          by_cases h200 : l.length = 200
          · rw [ins_full hf _ _ h200] at hI
            by_cases hb : q ≤ 64
            · exact changes_I2D3 A l0 l len c hlen hm hl hl200 h200 m q hq sc k hk hb (by omega) _ hpk hI hD hG (packS_full (by rw [insAt_length hk]; omega)) w hr
            · exact changes_I4cD3 A l0 l len c hlen hm hl hl200 h200 m q hq sc k (by omega) (by omega) (by omega) (by omega) _ hpk hI hD hG w hr
          · by_cases hb : q ≤ 64
            · have hfi := fine_insAt hf (by omega) hk (x := (m.extract 0 q, sc)) ⟨by show (m.extract 0 q).size ≤ 64; omega, hsc⟩
              rw [ins_in hf k hk _ h200 (by show (m.extract 0 q).size ≤ 64; omega)] at hI
              exact changes_I1D3 A l0 l len c hlen hm hl hl200 h200 m q hq sc k hk hb (by omega) _ _ hpk hI hD hG (packS_ok hfi) w hr
            · rw [ins_out hf k _ h200 (.inr (.inr (by show 64 < (m.extract 0 q).size; omega)))] at hI
              exact changes_I3cD3 A l0 l len c hlen hm hl hl200 h200 m q hq sc k (by omega) (by omega) (by omega) (by omega) _ hpk hI hD hG w hr
  · exact changes_no A l0 l len c hlen hm hl _ (bne_iff_ne.2 he) (Prod.ext (packS_fail he) rfl) i m sc w hr

end Go.Proofs.Ytcjjeookfnmjcaa
