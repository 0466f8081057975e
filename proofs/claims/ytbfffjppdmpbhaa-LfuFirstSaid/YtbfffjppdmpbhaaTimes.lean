import Derived.Test.YtbfffjppdmpbhaaShown
import Derived.Deep.RegionHeld
namespace Go.Proofs.Ytbfffjppdmpbhaa
open Go.RowKit
set_option linter.unusedVariables false

theorem t_cell_past {W : World} {a : Addr} {v : Value} (o : Obj) (h : W.cell? a = some v) : (W.alloc o).cell? a = some v := by
  rw [World.cell?_alloc_some _ _ _ (by rw [h]; rfl), h]

theorem t_count_is (c a n m : Int) (w : World) (hn : n ≤ 9223372036854775807) (h : fineB c a n = true) (hm : left c a n = m) :
    Calls Try.prog 11 #[.agg #[.int .i64 c, .int .i64 a], .int .i64 n] w fun e w' => e = .returned (.tuple #[.int .i64 m, .int .i64 0]) ∧ Below w.heap.size w w' := by
  rw [← hm]; exact count_yes c a n w hn h

set_option maxHeartbeats 400000 in
theorem times_no (c z a b : Int) (w : World) (h : fineB c z a = false) :
    Calls Try.prog 4 #[.agg #[.int .i64 c, .int .i64 z], .int .i64 a, .int .i64 b] w fun e w' => e = .returned (.bool true) ∧ Below w.heap.size w w' := by
  have HF := Lib.hid h
  clear h
  go_enter Try.func4, Try.ntmps4
  go_wp2_with fail
  refine (shown_any _).mono ?_
  rintro e w1 ⟨rfl, hb1⟩
  have u1 : w1.cell? ⟨w.heap.size, 0, none⟩ = some (.int .i64 c) := cell_later hb1 (by simp)
  have v1 : w1.cell? ⟨w.heap.size, 1, none⟩ = some (.int .i64 z) := cell_later hb1 (by simp)
  have z1 : w.heap.size < w1.heap.size := by have := hb1.size; simp at this; omega
  go_wp2_with fail
  refine (count_no _ _ _ _ HF.out).mono ?_
  rintro e w2 ⟨rfl, hb2⟩
  go_wp2
  go_ret
  exact ⟨rfl, ((((Below.refl _ _).alloc (Nat.le_refl _) _).trans (hb1.mono (by simp))).trans (hb2.mono (by omega)))⟩

set_option maxHeartbeats 400000 in
theorem times_less (c z a b : Int) (w : World) (hn : a ≤ 9223372036854775807) (h : fineB c z a = true) (hba : b < a) :
    Calls Try.prog 4 #[.agg #[.int .i64 c, .int .i64 z], .int .i64 a, .int .i64 b] w fun e w' => e = .returned (.bool true) ∧ Below w.heap.size w w' := by
  have HF := Lib.hid h
  clear h
  go_enter Try.func4, Try.ntmps4
  go_wp2_with fail
  refine (shown_any _).mono ?_
  rintro e w1 ⟨rfl, hb1⟩
  have u1 : w1.cell? ⟨w.heap.size, 0, none⟩ = some (.int .i64 c) := cell_later hb1 (by simp)
  have v1 : w1.cell? ⟨w.heap.size, 1, none⟩ = some (.int .i64 z) := cell_later hb1 (by simp)
  have z1 : w.heap.size < w1.heap.size := by have := hb1.size; simp at this; omega
  go_wp2_with fail
  refine (count_yes _ _ _ _ hn HF.out).mono ?_
  rintro e w2 ⟨rfl, hb2⟩
  go_wp2
  go_ret
  exact ⟨rfl, ((((Below.refl _ _).alloc (Nat.le_refl _) _).trans (hb1.mono (by simp))).trans (hb2.mono (by omega)))⟩

set_option maxHeartbeats 400000 in
theorem times_yes (c z a b m k : Int) (w : World) (hn : a ≤ 9223372036854775807) (hn2 : b ≤ 9223372036854775807) (hba : a ≤ b) (h1 : fineB c z a = true) (h2 : fineB m a b = true) (h3 : fineB c z b = true)
    (e1 : left c z a = m) (e2 : left m a b = k) (e3 : left c z b = k) :
    Calls Try.prog 4 #[.agg #[.int .i64 c, .int .i64 z], .int .i64 a, .int .i64 b] w fun e w' => e = .returned (.bool true) ∧ Below w.heap.size w w' := by
  have H1 := Lib.hid h1
  have H2 := Lib.hid h2
  have H3 := Lib.hid h3
  have E1 := Lib.hid e1
  have E2 := Lib.hid e2
  have E3 := Lib.hid e3
  clear h1 h2 h3 e1 e2 e3
  go_enter Try.func4, Try.ntmps4
  go_wp2_with fail
  refine (shown_any _).mono ?_
  rintro e w1 ⟨rfl, hb1⟩
  have u1 : w1.cell? ⟨w.heap.size, 0, none⟩ = some (.int .i64 c) := cell_later hb1 (by simp)
  have v1 : w1.cell? ⟨w.heap.size, 1, none⟩ = some (.int .i64 z) := cell_later hb1 (by simp)
  have z1 : w.heap.size < w1.heap.size := by have := hb1.size; simp at this; omega
  go_wp2_with fail
  refine (t_count_is _ _ _ _ _ hn H1.out E1.out).mono ?_
  rintro e w2 ⟨rfl, hb2⟩
  have u2 := cell_later hb2 u1
  have v2 := cell_later hb2 v1
  have z2 := hb2.size
  clear u1 v1
  go_wp2_with fail
  refine (t_count_is _ _ _ _ _ hn2 H2.out E2.out).mono ?_
  rintro e w3 ⟨rfl, hb3⟩
  have u3 := cell_later hb3 u2
  have v3 := cell_later hb3 v2
  have z3 := hb3.size
  clear u2 v2
  go_wp2_with fail
  refine (t_count_is _ _ _ _ _ hn2 H3.out E3.out).mono ?_
  rintro e w4 ⟨rfl, hb4⟩
  go_wp2
  go_ret
  exact ⟨by first | rfl | (simp; done), ((((((Below.refl _ _).alloc (Nat.le_refl _) _).trans (hb1.mono (by simp))).trans (hb2.mono (by omega))).trans (hb3.mono (by omega))).trans (hb4.mono (by omega)))⟩

end Go.Proofs.Ytbfffjppdmpbhaa
