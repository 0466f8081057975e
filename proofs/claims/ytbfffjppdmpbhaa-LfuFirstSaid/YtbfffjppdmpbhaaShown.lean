import Derived.Test.YtbfffjppdmpbhaaTouch
namespace Go.Proofs.Ytbfffjppdmpbhaa
open Go.RowKit

theorem count_735 (w : World) : Calls Try.prog 11 #[.agg #[.int .i64 7, .int .i64 3], .int .i64 5] w fun e w' => e = .returned (.tuple #[.int .i64 5, .int .i64 0]) ∧ Below w.heap.size w w' :=
  count_yes 7 3 5 w (by decide) (by decide)
theorem count_732 (w : World) : Calls Try.prog 11 #[.agg #[.int .i64 7, .int .i64 3], .int .i64 2] w fun e w' => e = .returned (.tuple #[.int .i64 0, .int .i64 130]) ∧ Below w.heap.size w w' :=
  count_no 7 3 2 w (by decide)
theorem touch_7350 (w : World) : Calls Try.prog 12 #[.agg #[.int .i64 7, .int .i64 3], .int .i64 5, .int .u32 0] w fun e w' => e = .returned (.tuple #[.agg #[.int .i64 6, .int .i64 5], .int .i64 0]) ∧ Below w.heap.size w w' :=
  touch_yes 7 3 5 0 w (by decide) (by decide) (by decide) (by decide)

set_option maxHeartbeats 400000 in
theorem shown_any (w : World) : Calls Try.prog 10 #[] w fun e w' => e = .returned (.bool true) ∧ Below w.heap.size w w' := by
  go_enter Try.func10, Try.ntmps10
  go_wp2_with fail
  refine (count_735 _).mono ?_
  rintro e w1 ⟨rfl, hb1⟩
  go_wp2_with fail
  refine (touch_7350 _).mono ?_
  rintro e w2 ⟨rfl, hb2⟩
  go_wp2_with fail
  refine (count_732 _).mono ?_
  rintro e w3 ⟨rfl, hb3⟩
  obtain ⟨hc, hf⟩ := bcell hb3
  go_wp2
  go_ret
  have z1 := hb1.size
  have z2 := hb2.size
  exact ⟨rfl, ((hb1.trans (hb2.mono z1)).alloc (by omega) _).trans (hb3.mono (by simp; omega))⟩

end Go.Proofs.Ytbfffjppdmpbhaa
