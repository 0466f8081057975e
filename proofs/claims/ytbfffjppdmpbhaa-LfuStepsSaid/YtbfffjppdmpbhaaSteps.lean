import Derived.Test.YtbfffjppdmpbhaaShown
import Derived.Deep.RegionHeld
namespace Go.Proofs.Ytbfffjppdmpbhaa
open Go.RowKit
set_option linter.unusedVariables false

theorem cell_past {W : World} {a : Addr} {v : Value} (o : Obj) (h : W.cell? a = some v) : (W.alloc o).cell? a = some v := by
  rw [World.cell?_alloc_some _ _ _ (by rw [h]; rfl), h]

theorem count_is (c a n m : Int) (w : World) (hn : n ≤ 9223372036854775807) (h : fineB c a n = true) (hm : left c a n = m) :
    Calls Try.prog 11 #[.agg #[.int .i64 c, .int .i64 a], .int .i64 n] w fun e w' => e = .returned (.tuple #[.int .i64 m, .int .i64 0]) ∧ Below w.heap.size w w' := by
  rw [← hm]; exact count_yes c a n w hn h
theorem touch_is (c a n d t : Int) (w : World) (hn : n ≤ 9223372036854775807) (hd0 : 0 ≤ d) (hd : d ≤ 4294967295) (h : fineB c a n = true) (ht : touched (left c a n) d = t) :
    Calls Try.prog 12 #[.agg #[.int .i64 c, .int .i64 a], .int .i64 n, .int .u32 d] w fun e w' => e = .returned (.tuple #[.agg #[.int .i64 t, .int .i64 n], .int .i64 0]) ∧ Below w.heap.size w w' := by
  rw [← ht]; exact touch_yes c a n d w hn hd0 hd h

set_option maxHeartbeats 400000 in
theorem steps_no (c a n d : Int) (w : World) (h : fineB c a n = false) :
    Calls Try.prog 3 #[.agg #[.int .i64 c, .int .i64 a], .int .i64 n, .int .u32 d] w fun e w' => e = .returned (.bool true) ∧ Below w.heap.size w w' := by
  have HF := Lib.hid h
  clear h
  go_enter Try.func3, Try.ntmps3
  go_wp2_with fail
  refine (shown_any _).mono ?_
  rintro e w1 ⟨rfl, hb1⟩
  obtain ⟨hc1, hf1⟩ := bcell hb1
  go_wp2_with fail
  refine (count_no _ _ _ _ HF.out).mono ?_
  rintro e w2 ⟨rfl, hb2⟩
  obtain ⟨hc2, hf2⟩ := bcell hb2
  have z1 : w.heap.size < w1.heap.size := by have := hb1.size; simp at this; omega
  go_wp2_with fail
  refine (touch_no _ _ _ _ _ HF.out).mono ?_
  rintro e w3 ⟨rfl, hb3⟩
  obtain ⟨hc3, hf3⟩ := bcell hb3
  have z2 := hb2.size
  have z3 := hb3.size
  go_wp2
  go_ret
  exact ⟨rfl, (((((Below.refl _ _).alloc (Nat.le_refl _) _).trans (hb1.mono (by simp))).trans (hb2.mono (by omega))).trans (hb3.mono (by omega))).alloc (by omega) _⟩

set_option maxHeartbeats 400000 in
theorem steps_yes1 (m n : Int) (w : World) (hn : n ≤ 9223372036854775807) (hm0 : 0 ≤ m) (hm2 : m ≤ 255) (hup : m < 255) (h : fineB m n n = true) (hr : rightB (m + 1) n = true) (hl : left m n n = m) (ht : touched (left m n n) 0 = m + 1) :
    Calls Try.prog 3 #[.agg #[.int .i64 m, .int .i64 n], .int .i64 n, .int .u32 0] w fun e w' => e = .returned (.bool true) ∧ Below w.heap.size w w' := by
  have HF := Lib.hid h
  have HR := Lib.hid hr
  have HL := Lib.hid hl
  have HT := Lib.hid ht
  clear h hr hl ht
  go_enter Try.func3, Try.ntmps3
  go_wp2_with fail
  refine (shown_any _).mono ?_
  rintro e w1 ⟨rfl, hb1⟩
  have u1 : w1.cell? ⟨w.heap.size, 0, none⟩ = some (.int .i64 m) := cell_later hb1 (by simp)
  have v1 : w1.cell? ⟨w.heap.size, 1, none⟩ = some (.int .i64 n) := cell_later hb1 (by simp)
  have z1 : w.heap.size < w1.heap.size := by have := hb1.size; simp at this; omega
  go_wp2_with fail
  refine (count_is _ _ _ _ _ hn HF.out HL.out).mono ?_
  rintro e w2 ⟨rfl, hb2⟩
  have u2 := cell_later hb2 u1
  have v2 := cell_later hb2 v1
  have z2 := hb2.size
  clear u1 v1
  go_wp2_with fail
  refine (touch_is _ _ _ _ _ _ hn (by omega) (by omega) HF.out HT.out).mono ?_
  rintro e w3 ⟨rfl, hb3⟩
  have u3 := cell_later hb3 u2
  have v3 := cell_later hb3 v2
  have z3 := hb3.size
  clear u2 v2
  go_wp2_with fail
  refine (right_yes _ _ _ HR.out).mono ?_
  rintro e w4 ⟨rfl, hb4⟩
  have u4 := cell_later hb4 (cell_past _ u3)
  have v4 := cell_later hb4 (cell_past _ v3)
  have x4 : w4.cell? ⟨w3.heap.size, 0, none⟩ = some (.int .i64 (m + 1)) := cell_later hb4 (by simp)
  have y4 : w4.cell? ⟨w3.heap.size, 1, none⟩ = some (.int .i64 n) := cell_later hb4 (by simp)
  have z4 : w3.heap.size < w4.heap.size := by have := hb4.size; simp at this; omega
  clear u3 v3
  go_wp2
  all_goals
    go_ret
    exact ⟨by first | (simp; done) | (simp; omega), ((((((Below.refl _ _).alloc (Nat.le_refl _) _).trans (hb1.mono (by simp))).trans (hb2.mono (by omega))).trans (hb3.mono (by omega))).alloc (by omega) _).trans (hb4.mono (by simp; omega))⟩

set_option maxHeartbeats 400000 in
theorem steps_yes2 (m n : Int) (d : Int) (w : World) (hn : n ≤ 9223372036854775807) (hm0 : 0 ≤ m) (hm2 : m ≤ 255) (hd0 : 0 ≤ d) (hd : d ≤ 4294967295) (hdz : d ≠ 0) (hup : m < 255) (h : fineB m n n = true) (hr : rightB (m + 1) n = true) (hl : left m n n = m) (ht : touched (left m n n) d = m + 1) :
    Calls Try.prog 3 #[.agg #[.int .i64 m, .int .i64 n], .int .i64 n, .int .u32 d] w fun e w' => e = .returned (.bool true) ∧ Below w.heap.size w w' := by
  have HF := Lib.hid h
  have HR := Lib.hid hr
  have HL := Lib.hid hl
  have HT := Lib.hid ht
  clear h hr hl ht
  go_enter Try.func3, Try.ntmps3
  go_wp2_with fail
  refine (shown_any _).mono ?_
  rintro e w1 ⟨rfl, hb1⟩
  have u1 : w1.cell? ⟨w.heap.size, 0, none⟩ = some (.int .i64 m) := cell_later hb1 (by simp)
  have v1 : w1.cell? ⟨w.heap.size, 1, none⟩ = some (.int .i64 n) := cell_later hb1 (by simp)
  have z1 : w.heap.size < w1.heap.size := by have := hb1.size; simp at this; omega
  go_wp2_with fail
  refine (count_is _ _ _ _ _ hn HF.out HL.out).mono ?_
  rintro e w2 ⟨rfl, hb2⟩
  have u2 := cell_later hb2 u1
  have v2 := cell_later hb2 v1
  have z2 := hb2.size
  clear u1 v1
  go_wp2_with fail
  refine (touch_is _ _ _ _ _ _ hn (by omega) (by omega) HF.out HT.out).mono ?_
  rintro e w3 ⟨rfl, hb3⟩
  have u3 := cell_later hb3 u2
  have v3 := cell_later hb3 v2
  have z3 := hb3.size
  clear u2 v2
  go_wp2_with fail
  refine (right_yes _ _ _ HR.out).mono ?_
  rintro e w4 ⟨rfl, hb4⟩
  have u4 := cell_later hb4 (cell_past _ u3)
  have v4 := cell_later hb4 (cell_past _ v3)
  have x4 : w4.cell? ⟨w3.heap.size, 0, none⟩ = some (.int .i64 (m + 1)) := cell_later hb4 (by simp)
  have y4 : w4.cell? ⟨w3.heap.size, 1, none⟩ = some (.int .i64 n) := cell_later hb4 (by simp)
  have z4 : w3.heap.size < w4.heap.size := by have := hb4.size; simp at this; omega
  clear u3 v3
  go_wp2
  all_goals
    go_ret
    exact ⟨by first | (simp; done) | (simp; omega), ((((((Below.refl _ _).alloc (Nat.le_refl _) _).trans (hb1.mono (by simp))).trans (hb2.mono (by omega))).trans (hb3.mono (by omega))).alloc (by omega) _).trans (hb4.mono (by simp; omega))⟩

set_option maxHeartbeats 400000 in
theorem steps_yes3 (c a m n : Int) (w : World) (hn : n ≤ 9223372036854775807) (hm0 : 0 ≤ m) (hm2 : m ≤ 255) (han : a < n) (hmc : m ≤ c) (hup : m < 255) (h : fineB c a n = true) (hr : rightB (m + 1) n = true) (hl : left c a n = m) (ht : touched (left c a n) 0 = m + 1) :
    Calls Try.prog 3 #[.agg #[.int .i64 c, .int .i64 a], .int .i64 n, .int .u32 0] w fun e w' => e = .returned (.bool true) ∧ Below w.heap.size w w' := by
  have HF := Lib.hid h
  have HR := Lib.hid hr
  have HL := Lib.hid hl
  have HT := Lib.hid ht
  clear h hr hl ht
  go_enter Try.func3, Try.ntmps3
  go_wp2_with fail
  refine (shown_any _).mono ?_
  rintro e w1 ⟨rfl, hb1⟩
  have u1 : w1.cell? ⟨w.heap.size, 0, none⟩ = some (.int .i64 c) := cell_later hb1 (by simp)
  have v1 : w1.cell? ⟨w.heap.size, 1, none⟩ = some (.int .i64 a) := cell_later hb1 (by simp)
  have z1 : w.heap.size < w1.heap.size := by have := hb1.size; simp at this; omega
  go_wp2_with fail
  refine (count_is _ _ _ _ _ hn HF.out HL.out).mono ?_
  rintro e w2 ⟨rfl, hb2⟩
  have u2 := cell_later hb2 u1
  have v2 := cell_later hb2 v1
  have z2 := hb2.size
  clear u1 v1
  go_wp2_with fail
  refine (touch_is _ _ _ _ _ _ hn (by omega) (by omega) HF.out HT.out).mono ?_
  rintro e w3 ⟨rfl, hb3⟩
  have u3 := cell_later hb3 u2
  have v3 := cell_later hb3 v2
  have z3 := hb3.size
  clear u2 v2
  go_wp2_with fail
  refine (right_yes _ _ _ HR.out).mono ?_
  rintro e w4 ⟨rfl, hb4⟩
  have u4 := cell_later hb4 (cell_past _ u3)
  have v4 := cell_later hb4 (cell_past _ v3)
  have x4 : w4.cell? ⟨w3.heap.size, 0, none⟩ = some (.int .i64 (m + 1)) := cell_later hb4 (by simp)
  have y4 : w4.cell? ⟨w3.heap.size, 1, none⟩ = some (.int .i64 n) := cell_later hb4 (by simp)
  have z4 : w3.heap.size < w4.heap.size := by have := hb4.size; simp at this; omega
  clear u3 v3
  go_wp2
  all_goals
    go_ret
    exact ⟨by first | (simp; done) | (simp; omega), ((((((Below.refl _ _).alloc (Nat.le_refl _) _).trans (hb1.mono (by simp))).trans (hb2.mono (by omega))).trans (hb3.mono (by omega))).alloc (by omega) _).trans (hb4.mono (by simp; omega))⟩

set_option maxHeartbeats 400000 in
theorem steps_yes4 (c a m n : Int) (d : Int) (w : World) (hn : n ≤ 9223372036854775807) (hm0 : 0 ≤ m) (hm2 : m ≤ 255) (hd0 : 0 ≤ d) (hd : d ≤ 4294967295) (hdz : d ≠ 0) (han : a < n) (hmc : m ≤ c) (hup : m < 255) (h : fineB c a n = true) (hr : rightB (m + 1) n = true) (hl : left c a n = m) (ht : touched (left c a n) d = m + 1) :
    Calls Try.prog 3 #[.agg #[.int .i64 c, .int .i64 a], .int .i64 n, .int .u32 d] w fun e w' => e = .returned (.bool true) ∧ Below w.heap.size w w' := by
  have HF := Lib.hid h
  have HR := Lib.hid hr
  have HL := Lib.hid hl
  have HT := Lib.hid ht
  clear h hr hl ht
  go_enter Try.func3, Try.ntmps3
  go_wp2_with fail
  refine (shown_any _).mono ?_
  rintro e w1 ⟨rfl, hb1⟩
  have u1 : w1.cell? ⟨w.heap.size, 0, none⟩ = some (.int .i64 c) := cell_later hb1 (by simp)
  have v1 : w1.cell? ⟨w.heap.size, 1, none⟩ = some (.int .i64 a) := cell_later hb1 (by simp)
  have z1 : w.heap.size < w1.heap.size := by have := hb1.size; simp at this; omega
  go_wp2_with fail
  refine (count_is _ _ _ _ _ hn HF.out HL.out).mono ?_
  rintro e w2 ⟨rfl, hb2⟩
  have u2 := cell_later hb2 u1
  have v2 := cell_later hb2 v1
  have z2 := hb2.size
  clear u1 v1
  go_wp2_with fail
  refine (touch_is _ _ _ _ _ _ hn (by omega) (by omega) HF.out HT.out).mono ?_
  rintro e w3 ⟨rfl, hb3⟩
  have u3 := cell_later hb3 u2
  have v3 := cell_later hb3 v2
  have z3 := hb3.size
  clear u2 v2
  go_wp2_with fail
  refine (right_yes _ _ _ HR.out).mono ?_
  rintro e w4 ⟨rfl, hb4⟩
  have u4 := cell_later hb4 (cell_past _ u3)
  have v4 := cell_later hb4 (cell_past _ v3)
  have x4 : w4.cell? ⟨w3.heap.size, 0, none⟩ = some (.int .i64 (m + 1)) := cell_later hb4 (by simp)
  have y4 : w4.cell? ⟨w3.heap.size, 1, none⟩ = some (.int .i64 n) := cell_later hb4 (by simp)
  have z4 : w3.heap.size < w4.heap.size := by have := hb4.size; simp at this; omega
  clear u3 v3
  go_wp2
  all_goals
    go_ret
    exact ⟨by first | (simp; done) | (simp; omega), ((((((Below.refl _ _).alloc (Nat.le_refl _) _).trans (hb1.mono (by simp))).trans (hb2.mono (by omega))).trans (hb3.mono (by omega))).alloc (by omega) _).trans (hb4.mono (by simp; omega))⟩

set_option maxHeartbeats 400000 in
theorem steps_yes5 (m n : Int) (w : World) (hn : n ≤ 9223372036854775807) (hm0 : 0 ≤ m) (hm2 : m ≤ 255) (hup : ¬ m < 255) (h : fineB m n n = true) (hr : rightB (m) n = true) (hl : left m n n = m) (ht : touched (left m n n) 0 = m) :
    Calls Try.prog 3 #[.agg #[.int .i64 m, .int .i64 n], .int .i64 n, .int .u32 0] w fun e w' => e = .returned (.bool true) ∧ Below w.heap.size w w' := by
  have HF := Lib.hid h
  have HR := Lib.hid hr
  have HL := Lib.hid hl
  have HT := Lib.hid ht
  clear h hr hl ht
  go_enter Try.func3, Try.ntmps3
  go_wp2_with fail
  refine (shown_any _).mono ?_
  rintro e w1 ⟨rfl, hb1⟩
  have u1 : w1.cell? ⟨w.heap.size, 0, none⟩ = some (.int .i64 m) := cell_later hb1 (by simp)
  have v1 : w1.cell? ⟨w.heap.size, 1, none⟩ = some (.int .i64 n) := cell_later hb1 (by simp)
  have z1 : w.heap.size < w1.heap.size := by have := hb1.size; simp at this; omega
  go_wp2_with fail
  refine (count_is _ _ _ _ _ hn HF.out HL.out).mono ?_
  rintro e w2 ⟨rfl, hb2⟩
  have u2 := cell_later hb2 u1
  have v2 := cell_later hb2 v1
  have z2 := hb2.size
  clear u1 v1
  go_wp2_with fail
  refine (touch_is _ _ _ _ _ _ hn (by omega) (by omega) HF.out HT.out).mono ?_
  rintro e w3 ⟨rfl, hb3⟩
  have u3 := cell_later hb3 u2
  have v3 := cell_later hb3 v2
  have z3 := hb3.size
  clear u2 v2
  go_wp2_with fail
  refine (right_yes _ _ _ HR.out).mono ?_
  rintro e w4 ⟨rfl, hb4⟩
  have u4 := cell_later hb4 (cell_past _ u3)
  have v4 := cell_later hb4 (cell_past _ v3)
  have x4 : w4.cell? ⟨w3.heap.size, 0, none⟩ = some (.int .i64 (m)) := cell_later hb4 (by simp)
  have y4 : w4.cell? ⟨w3.heap.size, 1, none⟩ = some (.int .i64 n) := cell_later hb4 (by simp)
  have z4 : w3.heap.size < w4.heap.size := by have := hb4.size; simp at this; omega
  clear u3 v3
  go_wp2
  all_goals
    go_ret
    exact ⟨by first | (simp; done) | (simp; omega), ((((((Below.refl _ _).alloc (Nat.le_refl _) _).trans (hb1.mono (by simp))).trans (hb2.mono (by omega))).trans (hb3.mono (by omega))).alloc (by omega) _).trans (hb4.mono (by simp; omega))⟩

set_option maxHeartbeats 400000 in
theorem steps_yes6 (m n : Int) (d : Int) (w : World) (hn : n ≤ 9223372036854775807) (hm0 : 0 ≤ m) (hm2 : m ≤ 255) (hd0 : 0 ≤ d) (hd : d ≤ 4294967295) (hdz : d ≠ 0) (h : fineB m n n = true) (hr : rightB (m) n = true) (hl : left m n n = m) (ht : touched (left m n n) d = m) :
    Calls Try.prog 3 #[.agg #[.int .i64 m, .int .i64 n], .int .i64 n, .int .u32 d] w fun e w' => e = .returned (.bool true) ∧ Below w.heap.size w w' := by
  have HF := Lib.hid h
  have HR := Lib.hid hr
  have HL := Lib.hid hl
  have HT := Lib.hid ht
  clear h hr hl ht
  go_enter Try.func3, Try.ntmps3
  go_wp2_with fail
  refine (shown_any _).mono ?_
  rintro e w1 ⟨rfl, hb1⟩
  have u1 : w1.cell? ⟨w.heap.size, 0, none⟩ = some (.int .i64 m) := cell_later hb1 (by simp)
  have v1 : w1.cell? ⟨w.heap.size, 1, none⟩ = some (.int .i64 n) := cell_later hb1 (by simp)
  have z1 : w.heap.size < w1.heap.size := by have := hb1.size; simp at this; omega
  go_wp2_with fail
  refine (count_is _ _ _ _ _ hn HF.out HL.out).mono ?_
  rintro e w2 ⟨rfl, hb2⟩
  have u2 := cell_later hb2 u1
  have v2 := cell_later hb2 v1
  have z2 := hb2.size
  clear u1 v1
  go_wp2_with fail
  refine (touch_is _ _ _ _ _ _ hn (by omega) (by omega) HF.out HT.out).mono ?_
  rintro e w3 ⟨rfl, hb3⟩
  have u3 := cell_later hb3 u2
  have v3 := cell_later hb3 v2
  have z3 := hb3.size
  clear u2 v2
  go_wp2_with fail
  refine (right_yes _ _ _ HR.out).mono ?_
  rintro e w4 ⟨rfl, hb4⟩
  have u4 := cell_later hb4 (cell_past _ u3)
  have v4 := cell_later hb4 (cell_past _ v3)
  have x4 : w4.cell? ⟨w3.heap.size, 0, none⟩ = some (.int .i64 (m)) := cell_later hb4 (by simp)
  have y4 : w4.cell? ⟨w3.heap.size, 1, none⟩ = some (.int .i64 n) := cell_later hb4 (by simp)
  have z4 : w3.heap.size < w4.heap.size := by have := hb4.size; simp at this; omega
  clear u3 v3
  go_wp2
  all_goals
    go_ret
    exact ⟨by first | (simp; done) | (simp; omega), ((((((Below.refl _ _).alloc (Nat.le_refl _) _).trans (hb1.mono (by simp))).trans (hb2.mono (by omega))).trans (hb3.mono (by omega))).alloc (by omega) _).trans (hb4.mono (by simp; omega))⟩

set_option maxHeartbeats 400000 in
theorem steps_yes7 (c a m n : Int) (w : World) (hn : n ≤ 9223372036854775807) (hm0 : 0 ≤ m) (hm2 : m ≤ 255) (han : a < n) (hmc : m ≤ c) (hup : ¬ m < 255) (h : fineB c a n = true) (hr : rightB (m) n = true) (hl : left c a n = m) (ht : touched (left c a n) 0 = m) :
    Calls Try.prog 3 #[.agg #[.int .i64 c, .int .i64 a], .int .i64 n, .int .u32 0] w fun e w' => e = .returned (.bool true) ∧ Below w.heap.size w w' := by
  have HF := Lib.hid h
  have HR := Lib.hid hr
  have HL := Lib.hid hl
  have HT := Lib.hid ht
  clear h hr hl ht
  go_enter Try.func3, Try.ntmps3
  go_wp2_with fail
  refine (shown_any _).mono ?_
  rintro e w1 ⟨rfl, hb1⟩
  have u1 : w1.cell? ⟨w.heap.size, 0, none⟩ = some (.int .i64 c) := cell_later hb1 (by simp)
  have v1 : w1.cell? ⟨w.heap.size, 1, none⟩ = some (.int .i64 a) := cell_later hb1 (by simp)
  have z1 : w.heap.size < w1.heap.size := by have := hb1.size; simp at this; omega
  go_wp2_with fail
  refine (count_is _ _ _ _ _ hn HF.out HL.out).mono ?_
  rintro e w2 ⟨rfl, hb2⟩
  have u2 := cell_later hb2 u1
  have v2 := cell_later hb2 v1
  have z2 := hb2.size
  clear u1 v1
  go_wp2_with fail
  refine (touch_is _ _ _ _ _ _ hn (by omega) (by omega) HF.out HT.out).mono ?_
  rintro e w3 ⟨rfl, hb3⟩
  have u3 := cell_later hb3 u2
  have v3 := cell_later hb3 v2
  have z3 := hb3.size
  clear u2 v2
  go_wp2_with fail
  refine (right_yes _ _ _ HR.out).mono ?_
  rintro e w4 ⟨rfl, hb4⟩
  have u4 := cell_later hb4 (cell_past _ u3)
  have v4 := cell_later hb4 (cell_past _ v3)
  have x4 : w4.cell? ⟨w3.heap.size, 0, none⟩ = some (.int .i64 (m)) := cell_later hb4 (by simp)
  have y4 : w4.cell? ⟨w3.heap.size, 1, none⟩ = some (.int .i64 n) := cell_later hb4 (by simp)
  have z4 : w3.heap.size < w4.heap.size := by have := hb4.size; simp at this; omega
  clear u3 v3
  go_wp2
  all_goals
    go_ret
    exact ⟨by first | (simp; done) | (simp; omega), ((((((Below.refl _ _).alloc (Nat.le_refl _) _).trans (hb1.mono (by simp))).trans (hb2.mono (by omega))).trans (hb3.mono (by omega))).alloc (by omega) _).trans (hb4.mono (by simp; omega))⟩

set_option maxHeartbeats 400000 in
theorem steps_yes8 (c a m n : Int) (d : Int) (w : World) (hn : n ≤ 9223372036854775807) (hm0 : 0 ≤ m) (hm2 : m ≤ 255) (hd0 : 0 ≤ d) (hd : d ≤ 4294967295) (hdz : d ≠ 0) (han : a < n) (hmc : m ≤ c) (h : fineB c a n = true) (hr : rightB (m) n = true) (hl : left c a n = m) (ht : touched (left c a n) d = m) :
    Calls Try.prog 3 #[.agg #[.int .i64 c, .int .i64 a], .int .i64 n, .int .u32 d] w fun e w' => e = .returned (.bool true) ∧ Below w.heap.size w w' := by
  have HF := Lib.hid h
  have HR := Lib.hid hr
  have HL := Lib.hid hl
  have HT := Lib.hid ht
  clear h hr hl ht
  go_enter Try.func3, Try.ntmps3
  go_wp2_with fail
  refine (shown_any _).mono ?_
  rintro e w1 ⟨rfl, hb1⟩
  have u1 : w1.cell? ⟨w.heap.size, 0, none⟩ = some (.int .i64 c) := cell_later hb1 (by simp)
  have v1 : w1.cell? ⟨w.heap.size, 1, none⟩ = some (.int .i64 a) := cell_later hb1 (by simp)
  have z1 : w.heap.size < w1.heap.size := by have := hb1.size; simp at this; omega
  go_wp2_with fail
  refine (count_is _ _ _ _ _ hn HF.out HL.out).mono ?_
  rintro e w2 ⟨rfl, hb2⟩
  have u2 := cell_later hb2 u1
  have v2 := cell_later hb2 v1
  have z2 := hb2.size
  clear u1 v1
  go_wp2_with fail
  refine (touch_is _ _ _ _ _ _ hn (by omega) (by omega) HF.out HT.out).mono ?_
  rintro e w3 ⟨rfl, hb3⟩
  have u3 := cell_later hb3 u2
  have v3 := cell_later hb3 v2
  have z3 := hb3.size
  clear u2 v2
  go_wp2_with fail
  refine (right_yes _ _ _ HR.out).mono ?_
  rintro e w4 ⟨rfl, hb4⟩
  have u4 := cell_later hb4 (cell_past _ u3)
  have v4 := cell_later hb4 (cell_past _ v3)
  have x4 : w4.cell? ⟨w3.heap.size, 0, none⟩ = some (.int .i64 (m)) := cell_later hb4 (by simp)
  have y4 : w4.cell? ⟨w3.heap.size, 1, none⟩ = some (.int .i64 n) := cell_later hb4 (by simp)
  have z4 : w3.heap.size < w4.heap.size := by have := hb4.size; simp at this; omega
  clear u3 v3
  go_wp2
  all_goals
    go_ret
    exact ⟨by first | (simp; done) | (simp; omega), ((((((Below.refl _ _).alloc (Nat.le_refl _) _).trans (hb1.mono (by simp))).trans (hb2.mono (by omega))).trans (hb3.mono (by omega))).alloc (by omega) _).trans (hb4.mono (by simp; omega))⟩

end Go.Proofs.Ytbfffjppdmpbhaa
