import Derived.Test.YtbfffjppdmpbhaaWalk
namespace Go.Proofs.Ytbfffjppdmpbhaa
open Go.RowKit

def steps (m : Int) : Int := 10 * max 0 (m - 5) + 1
def upB (m d : Int) : Bool := decide (m < 255) && decide (d % steps m = 0)
def touched (m d : Int) : Int := if upB m d = true then m + 1 else m

theorem touch_below {w w' : World} {o1 o2 : Obj} {x y : Value} (hb : Below ((w.alloc o1).alloc o2).heap.size ((w.alloc o1).alloc o2) w') :
    Below w.heap.size w ((w'.setCell ⟨w.heap.size + 1, 0, none⟩ x).setCell ⟨w.heap.size + 1, 1, none⟩ y) :=
  ((two_below hb).setCell (by simp) _).setCell (by simp) _

set_option maxHeartbeats 400000 in
theorem touch_yes_low (c a n d : Int) (w : World) (hn : n ≤ 9223372036854775807) (hd0 : 0 ≤ d) (hd : d ≤ 4294967295) (h : fineB c a n = true) (m : Int) (hm : left c a n = m) (hm0 : 0 ≤ m) (hm5 : m ≤ 5) :
    Calls Try.prog 12 #[.agg #[.int .i64 c, .int .i64 a], .int .i64 n, .int .u32 d] w fun e w' => e = .returned (.tuple #[.agg #[.int .i64 (m + 1), .int .i64 n], .int .i64 0]) ∧ Below w.heap.size w w' := by
  have HF := Lib.hid h
  have HM := Lib.hid hm
  clear h hm
  go_enter Try.func12, Try.ntmps12
  go_wp2_with fail
  refine (count_yes _ _ _ _ hn HF.out).mono ?_
  rintro e w' ⟨rfl, hb⟩
  obtain ⟨hc, hf⟩ := bcell hb
  rw [HM.out]
  go_wp2
  exact bodyPost_ret (v := .tuple #[.agg #[.int .i64 (m + 1), .int .i64 n], .int .i64 0]) (by simp [results, Try.results12, go_sem, hc]) rfl ⟨rfl, touch_below hb⟩

set_option maxHeartbeats 400000 in
theorem touch_yes_top (c a n d : Int) (w : World) (hn : n ≤ 9223372036854775807) (h : fineB c a n = true) (hm : left c a n = 255) :
    Calls Try.prog 12 #[.agg #[.int .i64 c, .int .i64 a], .int .i64 n, .int .u32 d] w fun e w' => e = .returned (.tuple #[.agg #[.int .i64 255, .int .i64 n], .int .i64 0]) ∧ Below w.heap.size w w' := by
  have HF := Lib.hid h
  have HM := Lib.hid hm
  clear h hm
  go_enter Try.func12, Try.ntmps12
  go_wp2_with fail
  refine (count_yes _ _ _ _ hn HF.out).mono ?_
  rintro e w' ⟨rfl, hb⟩
  obtain ⟨hc, hf⟩ := bcell hb
  rw [HM.out]
  go_wp2
  exact bodyPost_ret (v := .tuple #[.agg #[.int .i64 255, .int .i64 n], .int .i64 0]) (by simp [results, Try.results12, go_sem, hc]) rfl ⟨rfl, touch_below hb⟩

set_option maxHeartbeats 400000 in
theorem touch_yes_mid (c a n d : Int) (w : World) (hn : n ≤ 9223372036854775807) (hd0 : 0 ≤ d) (hd : d ≤ 4294967295) (h : fineB c a n = true) (m : Int) (hm : left c a n = m) (hm5 : 5 < m) (hm2 : m < 255) (hx : d % (10 * (m - 5) + 1) = 0) :
    Calls Try.prog 12 #[.agg #[.int .i64 c, .int .i64 a], .int .i64 n, .int .u32 d] w fun e w' => e = .returned (.tuple #[.agg #[.int .i64 (m + 1), .int .i64 n], .int .i64 0]) ∧ Below w.heap.size w w' := by
  have HF := Lib.hid h
  have HM := Lib.hid hm
  clear h hm
  go_enter Try.func12, Try.ntmps12
  go_wp2_with fail
  refine (count_yes _ _ _ _ hn HF.out).mono ?_
  rintro e w' ⟨rfl, hb⟩
  obtain ⟨hc, hf⟩ := bcell hb
  rw [HM.out]
  go_wp2
  exact bodyPost_ret (v := .tuple #[.agg #[.int .i64 (m + 1), .int .i64 n], .int .i64 0]) (by simp [results, Try.results12, go_sem, hc]) rfl ⟨rfl, touch_below hb⟩

set_option maxHeartbeats 400000 in
theorem touch_yes_not (c a n d : Int) (w : World) (hn : n ≤ 9223372036854775807) (hd0 : 0 ≤ d) (hd : d ≤ 4294967295) (h : fineB c a n = true) (m : Int) (hm : left c a n = m) (hm5 : 5 < m) (hm2 : m < 255) (hx : ¬ d % (10 * (m - 5) + 1) = 0) :
    Calls Try.prog 12 #[.agg #[.int .i64 c, .int .i64 a], .int .i64 n, .int .u32 d] w fun e w' => e = .returned (.tuple #[.agg #[.int .i64 m, .int .i64 n], .int .i64 0]) ∧ Below w.heap.size w w' := by
  have HF := Lib.hid h
  have HM := Lib.hid hm
  clear h hm
  go_enter Try.func12, Try.ntmps12
  go_wp2_with fail
  refine (count_yes _ _ _ _ hn HF.out).mono ?_
  rintro e w' ⟨rfl, hb⟩
  obtain ⟨hc, hf⟩ := bcell hb
  rw [HM.out]
  go_wp2
  exact bodyPost_ret (v := .tuple #[.agg #[.int .i64 m, .int .i64 n], .int .i64 0]) (by simp [results, Try.results12, go_sem, hc]) rfl ⟨rfl, touch_below hb⟩

set_option maxHeartbeats 400000 in
theorem touch_no (c a n d : Int) (w : World) (h : fineB c a n = false) :
    Calls Try.prog 12 #[.agg #[.int .i64 c, .int .i64 a], .int .i64 n, .int .u32 d] w fun e w' => e = .returned (.tuple #[.agg #[.int .i64 0, .int .i64 0], .int .i64 130]) ∧ Below w.heap.size w w' := by
  have HF := Lib.hid h
  clear h
  go_enter Try.func12, Try.ntmps12
  go_wp2_with fail
  refine (count_no _ _ _ _ HF.out).mono ?_
  rintro e w' ⟨rfl, hb⟩
  obtain ⟨hc, hf⟩ := bcell hb
  go_wp2
  exact bodyPost_ret (v := .tuple #[.agg #[.int .i64 0, .int .i64 0], .int .i64 130]) (by simp [results, Try.results12, go_sem, hc]) rfl ⟨rfl, touch_below hb⟩

theorem touch_yes (c a n d : Int) (w : World) (hn : n ≤ 9223372036854775807) (hd0 : 0 ≤ d) (hd : d ≤ 4294967295) (h : fineB c a n = true) :
    Calls Try.prog 12 #[.agg #[.int .i64 c, .int .i64 a], .int .i64 n, .int .u32 d] w fun e w' => e = .returned (.tuple #[.agg #[.int .i64 (touched (left c a n) d), .int .i64 n], .int .i64 0]) ∧ Below w.heap.size w w' := by
  obtain ⟨⟨⟨h1, h2⟩, h3⟩, h4⟩ : ((0 ≤ c ∧ c ≤ 255) ∧ 0 ≤ a) ∧ a ≤ n := by simpa [fineB, rightB, and_assoc] using h
  obtain ⟨m, hm⟩ : ∃ m, left c a n = m := ⟨_, rfl⟩
  have hm0 : 0 ≤ m := by rw [← hm]; unfold left; omega
  have hm2 : m ≤ 255 := by rw [← hm]; unfold left; omega
  rw [hm]
  by_cases h5 : m ≤ 5
  · have hs : steps m = 1 := by unfold steps; omega
    have : touched m d = m + 1 := by simp [touched, upB, hs, Int.emod_one]; omega
    rw [this]
    exact touch_yes_low c a n d w hn hd0 hd h m hm hm0 h5
  · by_cases h25 : m = 255
    · subst h25
      have : touched 255 d = 255 := by simp [touched, upB]
      rw [this]
      exact touch_yes_top c a n d w hn h hm
    · have hs : steps m = 10 * (m - 5) + 1 := by unfold steps; omega
      by_cases hx : d % (10 * (m - 5) + 1) = 0
      · have : touched m d = m + 1 := by simp [touched, upB, hs, hx]; omega
        rw [this]
        exact touch_yes_mid c a n d w hn hd0 hd h m hm (by omega) (by omega) hx
      · have : touched m d = m := by simp [touched, upB, hs, hx]
        rw [this]
        exact touch_yes_not c a n d w hn hd0 hd h m hm (by omega) (by omega) hx

end Go.Proofs.Ytbfffjppdmpbhaa
