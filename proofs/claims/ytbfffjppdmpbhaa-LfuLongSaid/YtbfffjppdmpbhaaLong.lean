import Derived.Test.YtbfffjppdmpbhaaTimes
namespace Go.Proofs.Ytbfffjppdmpbhaa
open Go.RowKit
set_option linter.unusedVariables false

set_option maxHeartbeats 400000 in
theorem long_wrong (c z r : Int) (w : World) (h : rightB c z = false) :
    Calls Try.prog 6 #[.agg #[.int .i64 c, .int .i64 z], .int .i64 r] w fun e w' => e = .returned (.bool true) ∧ Below w.heap.size w w' := by
  have HF := Lib.hid h
  clear h
  go_enter Try.func6, Try.ntmps6
  go_wp2_with fail
  refine (shown_any _).mono ?_
  rintro e w1 ⟨rfl, hb1⟩
  have u1 : w1.cell? ⟨w.heap.size, 0, none⟩ = some (.int .i64 c) := cell_later hb1 (by simp)
  have v1 : w1.cell? ⟨w.heap.size, 1, none⟩ = some (.int .i64 z) := cell_later hb1 (by simp)
  have z1 : w.heap.size < w1.heap.size := by have := hb1.size; simp at this; omega
  go_wp2_with fail
  refine (right_no _ _ _ HF.out).mono ?_
  rintro e w2 ⟨rfl, hb2⟩
  go_wp2
  go_ret
  exact ⟨rfl, ((((Below.refl _ _).alloc (Nat.le_refl _) _).trans (hb1.mono (by simp))).trans (hb2.mono (by omega)))⟩

set_option maxHeartbeats 400000 in
theorem long_out (c z r : Int) (w : World) (h : rightB c z = true) (hx : r < 0 ∨ 100000 < r ∨ 1099511627776 < z) :
    Calls Try.prog 6 #[.agg #[.int .i64 c, .int .i64 z], .int .i64 r] w fun e w' => e = .returned (.bool true) ∧ Below w.heap.size w w' := by
  have HF := Lib.hid h
  clear h
  by_cases x1 : r < 0
  · go_enter Try.func6, Try.ntmps6
    go_wp2_with fail
    refine (shown_any _).mono ?_
    rintro e w1 ⟨rfl, hb1⟩
    have u1 : w1.cell? ⟨w.heap.size, 0, none⟩ = some (.int .i64 c) := cell_later hb1 (by simp)
    have v1 : w1.cell? ⟨w.heap.size, 1, none⟩ = some (.int .i64 z) := cell_later hb1 (by simp)
    have z1 : w.heap.size < w1.heap.size := by have := hb1.size; simp at this; omega
    go_wp2_with fail
    refine (right_yes _ _ _ HF.out).mono ?_
    rintro e w2 ⟨rfl, hb2⟩
    go_wp2
    go_ret
    exact ⟨rfl, ((((Below.refl _ _).alloc (Nat.le_refl _) _).trans (hb1.mono (by simp))).trans (hb2.mono (by omega)))⟩
  · by_cases x2 : 100000 < r
    · go_enter Try.func6, Try.ntmps6
      go_wp2_with fail
      refine (shown_any _).mono ?_
      rintro e w1 ⟨rfl, hb1⟩
      have u1 : w1.cell? ⟨w.heap.size, 0, none⟩ = some (.int .i64 c) := cell_later hb1 (by simp)
      have v1 : w1.cell? ⟨w.heap.size, 1, none⟩ = some (.int .i64 z) := cell_later hb1 (by simp)
      have z1 : w.heap.size < w1.heap.size := by have := hb1.size; simp at this; omega
      go_wp2_with fail
      refine (right_yes _ _ _ HF.out).mono ?_
      rintro e w2 ⟨rfl, hb2⟩
      go_wp2
      go_ret
      exact ⟨rfl, ((((Below.refl _ _).alloc (Nat.le_refl _) _).trans (hb1.mono (by simp))).trans (hb2.mono (by omega)))⟩
    · have x3 : 1099511627776 < z := by omega
      clear hx
      go_enter Try.func6, Try.ntmps6
      go_wp2_with fail
      refine (shown_any _).mono ?_
      rintro e w1 ⟨rfl, hb1⟩
      have u1 : w1.cell? ⟨w.heap.size, 0, none⟩ = some (.int .i64 c) := cell_later hb1 (by simp)
      have v1 : w1.cell? ⟨w.heap.size, 1, none⟩ = some (.int .i64 z) := cell_later hb1 (by simp)
      have z1 : w.heap.size < w1.heap.size := by have := hb1.size; simp at this; omega
      go_wp2_with fail
      refine (right_yes _ _ _ HF.out).mono ?_
      rintro e w2 ⟨rfl, hb2⟩
      have u2 := cell_later hb2 u1
      have v2 := cell_later hb2 v1
      go_wp2
      go_ret
      exact ⟨rfl, ((((Below.refl _ _).alloc (Nat.le_refl _) _).trans (hb1.mono (by simp))).trans (hb2.mono (by omega)))⟩

theorem touch_zero (c a n : Int) (w : World) (hn : n ≤ 9223372036854775807) (h : fineB c a n = true) (hl : left c a n = 0) :
    Calls Try.prog 12 #[.agg #[.int .i64 c, .int .i64 a], .int .i64 n, .int .u32 0] w fun e w' => e = .returned (.tuple #[.agg #[.int .i64 1, .int .i64 n], .int .i64 0]) ∧ Below w.heap.size w w' := by
  have := touch_yes c a n 0 w hn (by omega) (by omega) h
  rwa [hl, show touched 0 0 = 1 from by decide] at this

set_option maxHeartbeats 400000 in
theorem long_in (c z r : Int) (w : World) (h : rightB c z = true) (x1 : 0 ≤ r) (x2 : r ≤ 100000) (x3 : z ≤ 1099511627776) (x0 : 0 ≤ z) (hf : fineB c z (z + 255 + r) = true) (hl : left c z (z + 255 + r) = 0) :
    Calls Try.prog 6 #[.agg #[.int .i64 c, .int .i64 z], .int .i64 r] w fun e w' => e = .returned (.bool true) ∧ Below w.heap.size w w' := by
  have HR := Lib.hid h
  have HF := Lib.hid hf
  have HL := Lib.hid hl
  clear h hf hl
  go_enter Try.func6, Try.ntmps6
  go_wp2_with fail
  refine (shown_any _).mono ?_
  rintro e w1 ⟨rfl, hb1⟩
  have u1 : w1.cell? ⟨w.heap.size, 0, none⟩ = some (.int .i64 c) := cell_later hb1 (by simp)
  have v1 : w1.cell? ⟨w.heap.size, 1, none⟩ = some (.int .i64 z) := cell_later hb1 (by simp)
  have z1 : w.heap.size < w1.heap.size := by have := hb1.size; simp at this; omega
  go_wp2_with fail
  refine (right_yes _ _ _ HR.out).mono ?_
  rintro e w2 ⟨rfl, hb2⟩
  have u2 := cell_later hb2 u1
  have v2 := cell_later hb2 v1
  have z2 := hb2.size
  clear u1 v1
  go_wp2_with fail
  refine (t_count_is _ _ _ _ _ (by omega) HF.out HL.out).mono ?_
  rintro e w3 ⟨rfl, hb3⟩
  have u3 := cell_later hb3 u2
  have v3 := cell_later hb3 v2
  have z3 := hb3.size
  clear u2 v2
  go_wp2_with fail
  refine (touch_zero _ _ _ _ (by omega) HF.out HL.out).mono ?_
  rintro e w4 ⟨rfl, hb4⟩
  have z4 := hb4.size
  go_wp2
  go_ret
  exact ⟨by first | rfl | (simp; done), (((((((Below.refl _ _).alloc (Nat.le_refl _) _).trans (hb1.mono (by simp))).trans (hb2.mono (by omega))).trans (hb3.mono (by omega))).trans (hb4.mono (by omega))).alloc (by omega) _)⟩

end Go.Proofs.Ytbfffjppdmpbhaa
