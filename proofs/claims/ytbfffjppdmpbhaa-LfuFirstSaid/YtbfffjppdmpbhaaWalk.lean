import Derived.Test.YtbfffjppdmpbhaaRows
import Derived.WalkKit
import Derived.WalkSpells
import Derived.WalkLawsBesides
import Derived.Lib.Hide
import Derived.Outline
import Derived.ScopeJumps
import Derived.WalkMore
namespace Go.Proofs.Ytbfffjppdmpbhaa
open Go.RowKit

def rightB (c a : Int) : Bool := decide (0 ≤ c) && decide (c ≤ 255) && decide (0 ≤ a)

set_option maxHeartbeats 400000 in
theorem within_one (m n : Int) (b : Nat) (w : World) (hc : w.cell? ⟨b, 0, none⟩ = some (.int .i64 n)) :
    Calls Try.prog 21 #[.int .i64 m, .slice (some ⟨b, 0, none⟩) 1 1] w fun e w' => e = .returned (.bool (decide (0 ≤ n) && decide (n ≤ m))) ∧ w = w' := by
  go_enter Try.func21, Try.ntmps21
  go_wp2
  go_loop [9] (fun i => ∃ k : Nat, k ≤ 1 ∧ i = .int .i64 k ∧ (k = 1 → 0 ≤ n ∧ n ≤ m)) (fun i => 1 - (intOf i).toNat)
  case atStart => exact ⟨0, by omega, rfl, by omega⟩
  case round =>
    obtain ⟨k, hk, rfl, hn⟩ := hrel
    by_cases h0 : k = 0
    · subst h0
      by_cases h1 : n < 0
      · go_wp2
        go_ret
        exact ⟨by simp; omega, rfl⟩
      · by_cases h2 : m < n
        · go_wp2
          go_ret
          exact ⟨by simp; omega, rfl⟩
        · go_wp2
          go_round
          case rel => exact ⟨1, by omega, by go_num, by omega⟩
          case measure => simp [intOf]
    · have h1 : k = 1 := by omega
      subst h1
      have h2 := hn rfl
      clear hn
      go_wp2
      go_ret
      exact ⟨by simp, rfl⟩

set_option maxHeartbeats 400000 in
theorem right_any (c a : Int) (w : World) :
    Calls Try.prog 13 #[.agg #[.int .i64 c, .int .i64 a]] w fun e w' => e = .returned (.bool (rightB c a)) ∧ Below w.heap.size w w' := by
  go_enter Try.func13, Try.ntmps13
  go_wp2_with fail
  refine (within_one _ c _ _ (by simp [go_sem])).mono ?_
  rintro e w' ⟨rfl, rfl⟩
  by_cases h1 : 0 ≤ c
  · by_cases h2 : c ≤ 255
    · go_wp2
      go_ret
      exact ⟨by simp [rightB, h1, h2], (((Below.refl _ _).alloc (Nat.le_refl _) _).alloc (by simp) _)⟩
    · go_wp2
      go_ret
      exact ⟨by simp [rightB]; omega, (((Below.refl _ _).alloc (Nat.le_refl _) _).alloc (by simp) _)⟩
  · go_wp2
    go_ret
    exact ⟨by simp [rightB]; omega, (((Below.refl _ _).alloc (Nat.le_refl _) _).alloc (by simp) _)⟩

set_option maxHeartbeats 400000 in
theorem right_yes (c a : Int) (w : World) (h : rightB c a = true) :
    Calls Try.prog 13 #[.agg #[.int .i64 c, .int .i64 a]] w fun e w' => e = .returned (.bool true) ∧ Below w.heap.size w w' :=
  (right_any c a w).mono fun _ _ ⟨he, hb⟩ => ⟨by rw [he, h], hb⟩
theorem right_no (c a : Int) (w : World) (h : rightB c a = false) :
    Calls Try.prog 13 #[.agg #[.int .i64 c, .int .i64 a]] w fun e w' => e = .returned (.bool false) ∧ Below w.heap.size w w' :=
  (right_any c a w).mono fun _ _ ⟨he, hb⟩ => ⟨by rw [he, h], hb⟩

theorem bcell {W w1 : World} (hb : Below W.heap.size W w1) : (∀ b o, b < W.heap.size → w1.cell? ⟨b, o, none⟩ = W.cell? ⟨b, o, none⟩) ∧ (∀ b o, b < W.heap.size → w1.frozen? ⟨b, o, none⟩ = W.frozen? ⟨b, o, none⟩) :=
  ⟨fun b o h => hb.cell (p := ⟨b, o, none⟩) h, fun b o h => hb.frozen (p := ⟨b, o, none⟩) h⟩

def fineB (c a n : Int) : Bool := rightB c a && decide (a ≤ n)
def left (c a n : Int) : Int := max 0 (c - (n - a))


theorem wp_scope_ahead {P : Program} {a : Act} {w : World} {Q : Exit → Act → World → Prop} {c rest : Code} (l : Nat) (hf : findLabel c l = some rest)
    (h : c.wp P (Exit.jump l (fun a w => rest.wp P (Exit.noGoto Q) a w) Q) a w) : (Code.scope c).wp P Q a w :=
  wp_scope_jumps l (fun a w => rest.wp P (Exit.noGoto Q) a w) (fun _ _ => 0) hf h fun a w hj => wp_mono hj fun e a' w' hq => by
    cases e with
    | goto l' => exact hq.elim
    | _ => exact hq



theorem two_below {w w' : World} {o1 o2 : Obj} (hb : Below ((w.alloc o1).alloc o2).heap.size ((w.alloc o1).alloc o2) w') : Below w.heap.size w w' :=
  (((Below.refl _ _).alloc (Nat.le_refl _) _).alloc (by simp) _).trans (hb.mono (by simp; omega))

theorem ret_two {a b c d : Int} (h1 : a = c) (h2 : b = d) : Ending.returned (.tuple #[.int .i64 a, .int .i64 b]) = .returned (.tuple #[.int .i64 c, .int .i64 d]) := by rw [h1, h2]

set_option maxHeartbeats 400000 in
theorem count_yes_a (c a n : Int) (w : World) (hn : n ≤ 9223372036854775807) (h1 : 0 ≤ c) (h2 : c ≤ 255) (h3 : 0 ≤ a) (h4 : a ≤ n) (hc : c ≠ 0) :
    Calls Try.prog 11 #[.agg #[.int .i64 c, .int .i64 a], .int .i64 n] w fun e w' => e = .returned (.tuple #[.int .i64 (left c a n), .int .i64 0]) ∧ Below w.heap.size w w' := by
  have hr : rightB c a = true := by simp [rightB, *]
  have HR := Lib.hid hr
  clear hr
  go_enter Try.func11, Try.ntmps11
  go_wp2
  go_step3
  go_wp2_with fail
  refine (right_yes _ _ _ HR.out).mono ?_
  rintro e w' ⟨rfl, hb⟩
  obtain ⟨hc, hf⟩ := bcell hb
  go_wp2
  all_goals
    try rw [Exit.noGoto_ret]
    go_ret2
    exact ⟨ret_two (by simp [left]; omega) rfl, two_below hb⟩

set_option maxHeartbeats 400000 in
theorem count_yes_b (a n : Int) (w : World) (hn : n ≤ 9223372036854775807) (h3 : 0 ≤ a) (h4 : a ≤ n) (hc : a ≠ 0) :
    Calls Try.prog 11 #[.agg #[.int .i64 0, .int .i64 a], .int .i64 n] w fun e w' => e = .returned (.tuple #[.int .i64 (left 0 a n), .int .i64 0]) ∧ Below w.heap.size w w' := by
  have hr : rightB 0 a = true := by simp [rightB, *]
  have HR := Lib.hid hr
  clear hr
  go_enter Try.func11, Try.ntmps11
  go_wp2
  go_step3
  go_wp2_with fail
  refine (right_yes _ _ _ HR.out).mono ?_
  rintro e w' ⟨rfl, hb⟩
  obtain ⟨hc, hf⟩ := bcell hb
  go_wp2
  all_goals
    try rw [Exit.noGoto_ret]
    go_ret2
    exact ⟨ret_two (by simp [left]; omega) rfl, two_below hb⟩

set_option maxHeartbeats 400000 in
theorem count_yes_c (n : Int) (w : World) (hn : n ≤ 9223372036854775807) (h4 : 0 ≤ n) :
    Calls Try.prog 11 #[.agg #[.int .i64 0, .int .i64 0], .int .i64 n] w fun e w' => e = .returned (.tuple #[.int .i64 (left 0 0 n), .int .i64 0]) ∧ Below w.heap.size w w' := by
  go_enter Try.func11, Try.ntmps11
  go_wp2
  go_step3
  go_wp2
  all_goals
    try rw [Exit.noGoto_ret]
    go_ret2
    exact ⟨ret_two (by simp [left]; omega) rfl, two_below (Below.refl _ _)⟩

set_option maxHeartbeats 400000 in
theorem count_no_a (c a n : Int) (w : World) (hr : rightB c a = false) (hc : c ≠ 0) :
    Calls Try.prog 11 #[.agg #[.int .i64 c, .int .i64 a], .int .i64 n] w fun e w' => e = .returned (.tuple #[.int .i64 0, .int .i64 130]) ∧ Below w.heap.size w w' := by
  have HR := Lib.hid hr
  clear hr
  go_enter Try.func11, Try.ntmps11
  go_wp2
  refine wp_scope_ahead 0 rfl ?_
  go_wp2_with fail
  refine (right_no _ _ _ HR.out).mono ?_
  rintro e w' ⟨rfl, hb⟩
  obtain ⟨hc, hf⟩ := bcell hb
  go_wp2
  go_step3
  refine ⟨rfl, ?_⟩
  go_wp2
  rw [Exit.noGoto_ret]
  go_ret2
  exact ⟨ret_two rfl rfl, two_below hb⟩

set_option maxHeartbeats 400000 in
theorem count_no_b (a n : Int) (w : World) (hr : rightB 0 a = false) (hc : a ≠ 0) :
    Calls Try.prog 11 #[.agg #[.int .i64 0, .int .i64 a], .int .i64 n] w fun e w' => e = .returned (.tuple #[.int .i64 0, .int .i64 130]) ∧ Below w.heap.size w w' := by
  have HR := Lib.hid hr
  clear hr
  go_enter Try.func11, Try.ntmps11
  go_wp2
  refine wp_scope_ahead 0 rfl ?_
  go_wp2_with fail
  refine (right_no _ _ _ HR.out).mono ?_
  rintro e w' ⟨rfl, hb⟩
  obtain ⟨hc, hf⟩ := bcell hb
  go_wp2
  go_step3
  refine ⟨rfl, ?_⟩
  go_wp2
  rw [Exit.noGoto_ret]
  go_ret2
  exact ⟨ret_two rfl rfl, two_below hb⟩

set_option maxHeartbeats 400000 in
theorem count_no_c (n : Int) (w : World) (h4 : n < 0) :
    Calls Try.prog 11 #[.agg #[.int .i64 0, .int .i64 0], .int .i64 n] w fun e w' => e = .returned (.tuple #[.int .i64 0, .int .i64 130]) ∧ Below w.heap.size w w' := by
  go_enter Try.func11, Try.ntmps11
  go_wp2
  refine wp_scope_ahead 0 rfl ?_
  go_wp2
  go_step3
  refine ⟨rfl, ?_⟩
  go_wp2
  rw [Exit.noGoto_ret]
  go_ret2
  exact ⟨ret_two rfl rfl, two_below (Below.refl _ _)⟩

set_option maxHeartbeats 400000 in
theorem count_no_d (c a n : Int) (w : World) (hr : rightB c a = true) (h4 : n < a) (hc : c ≠ 0) :
    Calls Try.prog 11 #[.agg #[.int .i64 c, .int .i64 a], .int .i64 n] w fun e w' => e = .returned (.tuple #[.int .i64 0, .int .i64 130]) ∧ Below w.heap.size w w' := by
  have HR := Lib.hid hr
  clear hr
  go_enter Try.func11, Try.ntmps11
  go_wp2
  refine wp_scope_ahead 0 rfl ?_
  go_wp2_with fail
  refine (right_yes _ _ _ HR.out).mono ?_
  rintro e w' ⟨rfl, hb⟩
  obtain ⟨hc, hf⟩ := bcell hb
  go_wp2
  go_step3
  refine ⟨rfl, ?_⟩
  go_wp2
  rw [Exit.noGoto_ret]
  go_ret2
  exact ⟨ret_two rfl rfl, two_below hb⟩

set_option maxHeartbeats 400000 in
theorem count_no_e (a n : Int) (w : World) (hr : rightB 0 a = true) (h4 : n < a) (hc : a ≠ 0) :
    Calls Try.prog 11 #[.agg #[.int .i64 0, .int .i64 a], .int .i64 n] w fun e w' => e = .returned (.tuple #[.int .i64 0, .int .i64 130]) ∧ Below w.heap.size w w' := by
  have HR := Lib.hid hr
  clear hr
  go_enter Try.func11, Try.ntmps11
  go_wp2
  refine wp_scope_ahead 0 rfl ?_
  go_wp2_with fail
  refine (right_yes _ _ _ HR.out).mono ?_
  rintro e w' ⟨rfl, hb⟩
  obtain ⟨hc, hf⟩ := bcell hb
  go_wp2
  go_step3
  refine ⟨rfl, ?_⟩
  go_wp2
  rw [Exit.noGoto_ret]
  go_ret2
  exact ⟨ret_two rfl rfl, two_below hb⟩

theorem count_yes (c a n : Int) (w : World) (hn : n ≤ 9223372036854775807) (h : fineB c a n = true) :
    Calls Try.prog 11 #[.agg #[.int .i64 c, .int .i64 a], .int .i64 n] w fun e w' => e = .returned (.tuple #[.int .i64 (left c a n), .int .i64 0]) ∧ Below w.heap.size w w' := by
  obtain ⟨⟨⟨h1, h2⟩, h3⟩, h4⟩ : ((0 ≤ c ∧ c ≤ 255) ∧ 0 ≤ a) ∧ a ≤ n := by simpa [fineB, rightB, and_assoc] using h
  by_cases hc : c = 0
  · subst hc
    by_cases ha : a = 0
    · subst ha
      exact count_yes_c n w hn h4
    · exact count_yes_b a n w hn h3 h4 ha
  · exact count_yes_a c a n w hn h1 h2 h3 h4 hc

theorem count_no (c a n : Int) (w : World) (h : fineB c a n = false) :
    Calls Try.prog 11 #[.agg #[.int .i64 c, .int .i64 a], .int .i64 n] w fun e w' => e = .returned (.tuple #[.int .i64 0, .int .i64 130]) ∧ Below w.heap.size w w' := by
  by_cases hr : rightB c a = true
  · have h4 : n < a := by simpa [fineB, hr] using h
    by_cases hc : c = 0
    · subst hc
      by_cases ha : a = 0
      · subst ha
        exact count_no_c n w h4
      · exact count_no_e a n w hr h4 ha
    · exact count_no_d c a n w hr h4 hc
  · have hr : rightB c a = false := by simpa using hr
    by_cases hc : c = 0
    · subst hc
      by_cases ha : a = 0
      · subst ha
        exact absurd hr (by decide)
      · exact count_no_b a n w hr ha
    · exact count_no_a c a n w hr hc

end Go.Proofs.Ytbfffjppdmpbhaa
