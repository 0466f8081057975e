import Derived.Test.YtbfffjppdmpbhaaTimes
namespace Go.Proofs.Ytbfffjppdmpbhaa
open Go.RowKit
set_option linter.unusedVariables false

def newB (n : Int) : Bool := decide (0 ≤ n)

set_option maxHeartbeats 400000 in
theorem new_yes (n : Int) (w : World) (h : 0 ≤ n) : Calls Try.prog 14 #[.int .i64 n] w fun e w' => e = .returned (.tuple #[.agg #[.int .i64 5, .int .i64 n], .int .i64 0]) ∧ Below w.heap.size w w' := by
  go_enter Try.func14, Try.ntmps14
  go_wp2
  exact bodyPost_ret (v := .tuple #[.agg #[.int .i64 5, .int .i64 n], .int .i64 0]) (by simp [results, Try.results14, go_sem]) rfl ⟨rfl, (Below.refl _ _).alloc (Nat.le_refl _) _⟩
set_option maxHeartbeats 400000 in
theorem new_no (n : Int) (w : World) (h : n < 0) : Calls Try.prog 14 #[.int .i64 n] w fun e w' => e = .returned (.tuple #[.agg #[.int .i64 0, .int .i64 0], .int .i64 130]) ∧ Below w.heap.size w w' := by
  go_enter Try.func14, Try.ntmps14
  go_wp2
  exact bodyPost_ret (v := .tuple #[.agg #[.int .i64 0, .int .i64 0], .int .i64 130]) (by simp [results, Try.results14, go_sem]) rfl ⟨rfl, (Below.refl _ _).alloc (Nat.le_refl _) _⟩
set_option maxHeartbeats 400000 in
theorem rnew_yes (n : Int) (w : World) (h : 0 ≤ n) : Calls Try.prog 15 #[.int .i64 n] w fun e w' => e = .returned (.tuple #[.agg #[.int .i64 5, .int .i64 n], .int .i64 0]) ∧ Below w.heap.size w w' := by
  go_enter Try.func15, Try.ntmps15
  go_wp2
  exact bodyPost_ret (v := .tuple #[.agg #[.int .i64 5, .int .i64 n], .int .i64 0]) (by simp [results, Try.results15, go_sem]) rfl ⟨rfl, (Below.refl _ _).alloc (Nat.le_refl _) _⟩
set_option maxHeartbeats 400000 in
theorem rnew_no (n : Int) (w : World) (h : n < 0) : Calls Try.prog 15 #[.int .i64 n] w fun e w' => e = .returned (.tuple #[.agg #[.int .i64 0, .int .i64 0], .int .i64 130]) ∧ Below w.heap.size w w' := by
  go_enter Try.func15, Try.ntmps15
  go_wp2
  exact bodyPost_ret (v := .tuple #[.agg #[.int .i64 0, .int .i64 0], .int .i64 130]) (by simp [results, Try.results15, go_sem]) rfl ⟨rfl, (Below.refl _ _).alloc (Nat.le_refl _) _⟩

set_option maxHeartbeats 400000 in
theorem rright_any (c a : Int) (w : World) :
    Calls Try.prog 18 #[.agg #[.int .i64 c, .int .i64 a]] w fun e w' => e = .returned (.bool (rightB c a)) ∧ Below w.heap.size w w' := by
  by_cases h1 : 0 ≤ c
  · by_cases h2 : c ≤ 255
    · go_enter Try.func18, Try.ntmps18
      go_wp2
      go_ret
      exact ⟨by simp [rightB, h1, h2], (Below.refl _ _).alloc (Nat.le_refl _) _⟩
    · go_enter Try.func18, Try.ntmps18
      go_wp2
      go_ret
      exact ⟨by simp [rightB]; omega, (Below.refl _ _).alloc (Nat.le_refl _) _⟩
  · go_enter Try.func18, Try.ntmps18
    go_wp2
    go_ret
    exact ⟨by simp [rightB]; omega, (Below.refl _ _).alloc (Nat.le_refl _) _⟩
theorem rright_yes (c a : Int) (w : World) (h : rightB c a = true) :
    Calls Try.prog 18 #[.agg #[.int .i64 c, .int .i64 a]] w fun e w' => e = .returned (.bool true) ∧ Below w.heap.size w w' :=
  (rright_any c a w).mono fun _ _ ⟨he, hb⟩ => ⟨by rw [he, h], hb⟩
theorem rright_no (c a : Int) (w : World) (h : rightB c a = false) :
    Calls Try.prog 18 #[.agg #[.int .i64 c, .int .i64 a]] w fun e w' => e = .returned (.bool false) ∧ Below w.heap.size w w' :=
  (rright_any c a w).mono fun _ _ ⟨he, hb⟩ => ⟨by rw [he, h], hb⟩

theorem one_below {w w' : World} {o1 : Obj} (hb : Below (w.alloc o1).heap.size (w.alloc o1) w') : Below w.heap.size w w' :=
  ((Below.refl _ _).alloc (Nat.le_refl _) _).trans (hb.mono (by simp))

set_option maxHeartbeats 400000 in
theorem rcount_yes (c a n : Int) (w : World) (hn : n ≤ 9223372036854775807) (h : fineB c a n = true) :
    Calls Try.prog 16 #[.agg #[.int .i64 c, .int .i64 a], .int .i64 n] w fun e w' => e = .returned (.tuple #[.int .i64 (left c a n), .int .i64 0]) ∧ Below w.heap.size w w' := by
  obtain ⟨⟨⟨h1, h2⟩, h3⟩, h4⟩ : ((0 ≤ c ∧ c ≤ 255) ∧ 0 ≤ a) ∧ a ≤ n := by simpa [fineB, rightB, and_assoc] using h
  have HR := Lib.hid (show rightB c a = true by simp [rightB, *])
  clear h
  go_enter Try.func16, Try.ntmps16
  go_wp2_with fail
  refine (rright_yes _ _ _ HR.out).mono ?_
  rintro e w' ⟨rfl, hb⟩
  have u1 : w'.cell? ⟨w.heap.size, 0, none⟩ = some (.int .i64 c) := cell_later hb (by simp)
  have v1 : w'.cell? ⟨w.heap.size, 1, none⟩ = some (.int .i64 a) := cell_later hb (by simp)
  go_wp2
  all_goals
    go_ret2
    exact ⟨ret_two (by simp [left]; omega) rfl, one_below hb⟩

set_option maxHeartbeats 400000 in
theorem rcount_no1 (c a n : Int) (w : World) (h : rightB c a = false) :
    Calls Try.prog 16 #[.agg #[.int .i64 c, .int .i64 a], .int .i64 n] w fun e w' => e = .returned (.tuple #[.int .i64 0, .int .i64 130]) ∧ Below w.heap.size w w' := by
  have HR := Lib.hid h
  clear h
  go_enter Try.func16, Try.ntmps16
  go_wp2_with fail
  refine (rright_no _ _ _ HR.out).mono ?_
  rintro e w' ⟨rfl, hb⟩
  go_wp2
  go_ret2
  exact ⟨ret_two rfl rfl, one_below hb⟩

set_option maxHeartbeats 400000 in
theorem rcount_no2 (c a n : Int) (w : World) (h : rightB c a = true) (hna : n < a) :
    Calls Try.prog 16 #[.agg #[.int .i64 c, .int .i64 a], .int .i64 n] w fun e w' => e = .returned (.tuple #[.int .i64 0, .int .i64 130]) ∧ Below w.heap.size w w' := by
  have HR := Lib.hid h
  clear h
  go_enter Try.func16, Try.ntmps16
  go_wp2_with fail
  refine (rright_yes _ _ _ HR.out).mono ?_
  rintro e w' ⟨rfl, hb⟩
  have v1 : w'.cell? ⟨w.heap.size, 1, none⟩ = some (.int .i64 a) := cell_later hb (by simp)
  go_wp2
  go_ret2
  exact ⟨ret_two rfl rfl, one_below hb⟩

theorem rcount_no (c a n : Int) (w : World) (h : fineB c a n = false) :
    Calls Try.prog 16 #[.agg #[.int .i64 c, .int .i64 a], .int .i64 n] w fun e w' => e = .returned (.tuple #[.int .i64 0, .int .i64 130]) ∧ Below w.heap.size w w' := by
  by_cases hr : rightB c a = true
  · exact rcount_no2 c a n w hr (by simpa [fineB, hr] using h)
  · exact rcount_no1 c a n w (by simpa using hr)

set_option maxHeartbeats 400000 in
theorem rtouch_yes_low (c a n d : Int) (w : World) (hn : n ≤ 9223372036854775807) (hd0 : 0 ≤ d) (hd : d ≤ 4294967295) (h : fineB c a n = true) (m : Int) (hm : left c a n = m) (hm0 : 0 ≤ m) (hm5 : m ≤ 5) :
    Calls Try.prog 17 #[.agg #[.int .i64 c, .int .i64 a], .int .i64 n, .int .u32 d] w fun e w' => e = .returned (.tuple #[.agg #[.int .i64 (m + 1), .int .i64 n], .int .i64 0]) ∧ Below w.heap.size w w' := by
  have HF := Lib.hid h
  have HM := Lib.hid hm
  clear h hm
  go_enter Try.func17, Try.ntmps17
  go_wp2_with fail
  refine (rcount_yes _ _ _ _ hn HF.out).mono ?_
  rintro e w' ⟨rfl, hb⟩
  obtain ⟨hc, hf⟩ := bcell hb
  rw [HM.out]
  go_wp2
  exact bodyPost_ret (v := .tuple #[.agg #[.int .i64 (m + 1), .int .i64 n], .int .i64 0]) (by simp [results, Try.results17, go_sem, hc]) rfl ⟨rfl, touch_below hb⟩

set_option maxHeartbeats 400000 in
theorem rtouch_yes_top (c a n d : Int) (w : World) (hn : n ≤ 9223372036854775807) (h : fineB c a n = true) (hm : left c a n = 255) :
    Calls Try.prog 17 #[.agg #[.int .i64 c, .int .i64 a], .int .i64 n, .int .u32 d] w fun e w' => e = .returned (.tuple #[.agg #[.int .i64 255, .int .i64 n], .int .i64 0]) ∧ Below w.heap.size w w' := by
  have HF := Lib.hid h
  have HM := Lib.hid hm
  clear h hm
  go_enter Try.func17, Try.ntmps17
  go_wp2_with fail
  refine (rcount_yes _ _ _ _ hn HF.out).mono ?_
  rintro e w' ⟨rfl, hb⟩
  obtain ⟨hc, hf⟩ := bcell hb
  rw [HM.out]
  go_wp2
  exact bodyPost_ret (v := .tuple #[.agg #[.int .i64 255, .int .i64 n], .int .i64 0]) (by simp [results, Try.results17, go_sem, hc]) rfl ⟨rfl, touch_below hb⟩

set_option maxHeartbeats 400000 in
theorem rtouch_yes_mid (c a n d : Int) (w : World) (hn : n ≤ 9223372036854775807) (hd0 : 0 ≤ d) (hd : d ≤ 4294967295) (h : fineB c a n = true) (m : Int) (hm : left c a n = m) (hm5 : 5 < m) (hm2 : m < 255) (hx : d % (10 * (m - 5) + 1) = 0) :
    Calls Try.prog 17 #[.agg #[.int .i64 c, .int .i64 a], .int .i64 n, .int .u32 d] w fun e w' => e = .returned (.tuple #[.agg #[.int .i64 (m + 1), .int .i64 n], .int .i64 0]) ∧ Below w.heap.size w w' := by
  have HF := Lib.hid h
  have HM := Lib.hid hm
  clear h hm
  go_enter Try.func17, Try.ntmps17
  go_wp2_with fail
  refine (rcount_yes _ _ _ _ hn HF.out).mono ?_
  rintro e w' ⟨rfl, hb⟩
  obtain ⟨hc, hf⟩ := bcell hb
  rw [HM.out]
  go_wp2
  exact bodyPost_ret (v := .tuple #[.agg #[.int .i64 (m + 1), .int .i64 n], .int .i64 0]) (by simp [results, Try.results17, go_sem, hc]) rfl ⟨rfl, touch_below hb⟩

set_option maxHeartbeats 400000 in
theorem rtouch_yes_not (c a n d : Int) (w : World) (hn : n ≤ 9223372036854775807) (hd0 : 0 ≤ d) (hd : d ≤ 4294967295) (h : fineB c a n = true) (m : Int) (hm : left c a n = m) (hm5 : 5 < m) (hm2 : m < 255) (hx : ¬ d % (10 * (m - 5) + 1) = 0) :
    Calls Try.prog 17 #[.agg #[.int .i64 c, .int .i64 a], .int .i64 n, .int .u32 d] w fun e w' => e = .returned (.tuple #[.agg #[.int .i64 m, .int .i64 n], .int .i64 0]) ∧ Below w.heap.size w w' := by
  have HF := Lib.hid h
  have HM := Lib.hid hm
  clear h hm
  go_enter Try.func17, Try.ntmps17
  go_wp2_with fail
  refine (rcount_yes _ _ _ _ hn HF.out).mono ?_
  rintro e w' ⟨rfl, hb⟩
  obtain ⟨hc, hf⟩ := bcell hb
  rw [HM.out]
  go_wp2
  exact bodyPost_ret (v := .tuple #[.agg #[.int .i64 m, .int .i64 n], .int .i64 0]) (by simp [results, Try.results17, go_sem, hc]) rfl ⟨rfl, touch_below hb⟩

set_option maxHeartbeats 400000 in
theorem rtouch_no (c a n d : Int) (w : World) (h : fineB c a n = false) :
    Calls Try.prog 17 #[.agg #[.int .i64 c, .int .i64 a], .int .i64 n, .int .u32 d] w fun e w' => e = .returned (.tuple #[.agg #[.int .i64 0, .int .i64 0], .int .i64 130]) ∧ Below w.heap.size w w' := by
  have HF := Lib.hid h
  clear h
  go_enter Try.func17, Try.ntmps17
  go_wp2_with fail
  refine (rcount_no _ _ _ _ HF.out).mono ?_
  rintro e w' ⟨rfl, hb⟩
  obtain ⟨hc, hf⟩ := bcell hb
  go_wp2
  exact bodyPost_ret (v := .tuple #[.agg #[.int .i64 0, .int .i64 0], .int .i64 130]) (by simp [results, Try.results17, go_sem, hc]) rfl ⟨rfl, touch_below hb⟩

theorem rtouch_yes (c a n d : Int) (w : World) (hn : n ≤ 9223372036854775807) (hd0 : 0 ≤ d) (hd : d ≤ 4294967295) (h : fineB c a n = true) :
    Calls Try.prog 17 #[.agg #[.int .i64 c, .int .i64 a], .int .i64 n, .int .u32 d] w fun e w' => e = .returned (.tuple #[.agg #[.int .i64 (touched (left c a n) d), .int .i64 n], .int .i64 0]) ∧ Below w.heap.size w w' := by
  obtain ⟨⟨⟨h1, h2⟩, h3⟩, h4⟩ : ((0 ≤ c ∧ c ≤ 255) ∧ 0 ≤ a) ∧ a ≤ n := by simpa [fineB, rightB, and_assoc] using h
  obtain ⟨m, hm⟩ : ∃ m, left c a n = m := ⟨_, rfl⟩
  have hm0 : 0 ≤ m := by rw [← hm]; unfold left; omega
  have hm2 : m ≤ 255 := by rw [← hm]; unfold left; omega
  rw [hm]
  by_cases h5 : m ≤ 5
  · have hs : steps m = 1 := by unfold steps; omega
    have : touched m d = m + 1 := by simp [touched, upB, hs, Int.emod_one]; omega
    rw [this]
    exact rtouch_yes_low c a n d w hn hd0 hd h m hm hm0 h5
  · by_cases h25 : m = 255
    · subst h25
      have : touched 255 d = 255 := by simp [touched, upB]
      rw [this]
      exact rtouch_yes_top c a n d w hn h hm
    · have hs : steps m = 10 * (m - 5) + 1 := by unfold steps; omega
      by_cases hx : d % (10 * (m - 5) + 1) = 0
      · have : touched m d = m + 1 := by simp [touched, upB, hs, hx]; omega
        rw [this]
        exact rtouch_yes_mid c a n d w hn hd0 hd h m hm (by omega) (by omega) hx
      · have : touched m d = m := by simp [touched, upB, hs, hx]
        rw [this]
        exact rtouch_yes_not c a n d w hn hd0 hd h m hm (by omega) (by omega) hx

end Go.Proofs.Ytbfffjppdmpbhaa
