import Derived.Test.YtbfffjppdmpbhaaTimes
namespace Go.Proofs.Ytbfffjppdmpbhaa
open Go.RowKit
set_option linter.unusedVariables false

def ups (c : Int) (k : Nat) : Int := if c = 255 then 0 else (k + steps c - 1) / steps c

theorem steps_pos (c : Int) : 0 < steps c := by unfold steps; omega

theorem ceil_succ (s k : Int) (hs : 0 < s) : (k + 1 + s - 1) / s = (k + s - 1) / s + if k % s = 0 then 1 else 0 := by
  have e := Int.mul_ediv_add_emod k s
  have r0 := Int.emod_nonneg k (by omega : s ≠ 0)
  have r1 := Int.emod_lt_of_pos k hs
  generalize k / s = q at *
  generalize k % s = r at *
  have h1 : (k + 1 + s - 1) / s = q + 1 := by
    have : k + 1 + s - 1 = r + s * (q + 1) := by rw [Int.mul_add]; omega
    rw [this, Int.add_mul_ediv_left _ _ (by omega), Int.ediv_eq_zero_of_lt r0 r1]; omega
  rw [h1]
  by_cases hr : r = 0
  · have : k + s - 1 = (s - 1) + s * q := by omega
    rw [if_pos hr, this, Int.add_mul_ediv_left _ _ (by omega), Int.ediv_eq_zero_of_lt (by omega) (by omega)]; omega
  · have : k + s - 1 = (r - 1) + s * (q + 1) := by rw [Int.mul_add]; omega
    rw [if_neg hr, this, Int.add_mul_ediv_left _ _ (by omega), Int.ediv_eq_zero_of_lt (by omega) (by omega)]; omega

theorem ups_zero (c : Int) (h : c < 255) : ups c 0 = 0 := by
  unfold ups
  rw [if_neg (by omega)]
  have := steps_pos c
  exact Int.ediv_eq_zero_of_lt (by omega) (by omega)

theorem ups_succ (c : Int) (k : Nat) (hc : c ≤ 255) : ups c (k + 1) = ups c k + if upB c k = true then 1 else 0 := by
  unfold ups upB
  by_cases h : c = 255
  · simp [h]
  · rw [if_neg h, if_neg h]
    have := ceil_succ (steps c) k (steps_pos c)
    have e : ((k + 1 : Nat) : Int) = (k : Int) + 1 := by omega
    rw [e, this]
    have hl : c < 255 := by omega
    simp [hl]

theorem ups_bd (c : Int) (k : Nat) (hc : c ≤ 255) : 0 ≤ ups c k ∧ ups c k ≤ k := by
  induction k with
  | zero =>
    by_cases h : c = 255
    · simp [ups, h]
    · rw [ups_zero c (by omega)]; simp
  | succ k ih => rw [ups_succ c k hc]; split <;> omega

theorem touch_draw (c d t : Int) (w : World) (hc0 : 0 ≤ c) (hc : c ≤ 255) (hd0 : 0 ≤ d) (hd : d ≤ 4294967295) (ht : touched c d = t) :
    Calls Try.prog 12 #[.agg #[.int .i64 c, .int .i64 9], .int .i64 9, .int .u32 d] w fun e w' => e = .returned (.tuple #[.agg #[.int .i64 t, .int .i64 9], .int .i64 0]) ∧ Below w.heap.size w w' := by
  have hl : left c 9 9 = c := by unfold left; omega
  have := touch_yes c 9 9 d w (by omega) hd0 hd (by simp [fineB, rightB]; omega)
  rwa [hl, ht] at this

set_option maxHeartbeats 1000000 in
theorem draws_mid (c : Int) (n : Nat) (w : World) (hc0 : 0 ≤ c) (hc5 : 5 < c) (hc : c < 255) (hn0 : 1 ≤ n) (hn : n ≤ 3000) :
    Calls Try.prog 5 #[.int .i64 c, .int .i64 n] w fun e w' => e = .returned (.bool true) ∧ Below w.heap.size w w' := by
  go_enter Try.func5, Try.ntmps5
  go_wp2_with fail
  refine (shown_any _).mono ?_
  rintro e w1 ⟨rfl, hb1⟩
  have z1 := hb1.size
  go_wp2_with fail
  go_loopw [6, 7] (fun u i wr => ∃ k : Nat, k ≤ n ∧ i = .int .i64 k ∧ u = .int .i64 (ups c k) ∧ Below w.heap.size w wr) (fun _ i _ => n - (intOf i).toNat)
  case atStart => exact ⟨0, by omega, rfl, by rw [show ups c 0 = 0 from ups_zero c hc], hb1⟩
  case round =>
    obtain ⟨k, hk, rfl, rfl, hb2⟩ := hrel
    have z2 := hb2.size
    by_cases hlt : k < n
    · have HS := Lib.hid (ups_succ c k (by omega))
      have hu := ups_bd c k (by omega)
      by_cases hu : upB c k = true
      · have HU := Lib.hid hu
        have HT := Lib.hid (show touched c k = c + 1 by simp [touched, hu])
        clear hu
        skip
        go_wp2_with fail
        refine (touch_draw _ _ _ _ hc0 (by omega) (by omega) (by omega) HT.out).mono ?_
        rintro e w3 ⟨rfl, hb3⟩
        have z3 := hb3.size
        go_wp2
        go_roundw
        case rel => exact ⟨k + 1, by omega, by go_num, by rw [HS.out, if_pos HU.out], (hb2.trans (hb3.mono z2)).alloc (by omega) _⟩
        case measure => simp [intOf]; omega
      · have HU := Lib.hid hu
        have HT := Lib.hid (show touched c k = c by simp [touched, hu])
        clear hu
        go_wp2_with fail
        refine (touch_draw _ _ _ _ hc0 (by omega) (by omega) (by omega) HT.out).mono ?_
        rintro e w3 ⟨rfl, hb3⟩
        have z3 := hb3.size
        go_wp2
        go_roundw
        case rel => exact ⟨k + 1, by omega, by go_num, by rw [HS.out, if_neg HU.out, Int.add_zero], (hb2.trans (hb3.mono z2)).alloc (by omega) _⟩
        case measure => simp [intOf]; omega
    · obtain rfl : k = n := by omega
      have hq : ups c k = (k + (10 * (c - 5) + 1) - 1) / (10 * (c - 5) + 1) := by unfold ups steps; rw [if_neg (by omega), show max 0 (c - 5) = c - 5 by omega]
      have HQ := Lib.hid hq
      clear hq
      go_wp2
      go_ret
      exact ⟨by first | rfl | (simp; done) | (simp; exact HQ.out), hb2⟩

set_option maxHeartbeats 1000000 in
theorem draws_low (c : Int) (n : Nat) (w : World) (hc0 : 0 ≤ c) (hc : c ≤ 5) (hn0 : 1 ≤ n) (hn : n ≤ 3000) :
    Calls Try.prog 5 #[.int .i64 c, .int .i64 n] w fun e w' => e = .returned (.bool true) ∧ Below w.heap.size w w' := by
  go_enter Try.func5, Try.ntmps5
  go_wp2_with fail
  refine (shown_any _).mono ?_
  rintro e w1 ⟨rfl, hb1⟩
  have z1 := hb1.size
  go_wp2_with fail
  go_loopw [6, 7] (fun u i wr => ∃ k : Nat, k ≤ n ∧ i = .int .i64 k ∧ u = .int .i64 (ups c k) ∧ Below w.heap.size w wr) (fun _ i _ => n - (intOf i).toNat)
  case atStart => exact ⟨0, by omega, rfl, by rw [show ups c 0 = 0 from ups_zero c (by omega)], hb1⟩
  case round =>
    obtain ⟨k, hk, rfl, rfl, hb2⟩ := hrel
    have z2 := hb2.size
    by_cases hlt : k < n
    · have HS := Lib.hid (ups_succ c k (by omega))
      have hu := ups_bd c k (by omega)
      by_cases hu : upB c k = true
      · have HU := Lib.hid hu
        have HT := Lib.hid (show touched c k = c + 1 by simp [touched, hu])
        clear hu
        skip
        go_wp2_with fail
        refine (touch_draw _ _ _ _ hc0 (by omega) (by omega) (by omega) HT.out).mono ?_
        rintro e w3 ⟨rfl, hb3⟩
        have z3 := hb3.size
        go_wp2
        go_roundw
        case rel => exact ⟨k + 1, by omega, by go_num, by rw [HS.out, if_pos HU.out], (hb2.trans (hb3.mono z2)).alloc (by omega) _⟩
        case measure => simp [intOf]; omega
      · have HU := Lib.hid hu
        have HT := Lib.hid (show touched c k = c by simp [touched, hu])
        clear hu
        go_wp2_with fail
        refine (touch_draw _ _ _ _ hc0 (by omega) (by omega) (by omega) HT.out).mono ?_
        rintro e w3 ⟨rfl, hb3⟩
        have z3 := hb3.size
        go_wp2
        go_roundw
        case rel => exact ⟨k + 1, by omega, by go_num, by rw [HS.out, if_neg HU.out, Int.add_zero], (hb2.trans (hb3.mono z2)).alloc (by omega) _⟩
        case measure => simp [intOf]; omega
    · obtain rfl : k = n := by omega
      have hq : ups c k = k := by unfold ups steps; rw [if_neg (by omega), show max 0 (c - 5) = 0 by omega]; omega
      have HQ := Lib.hid hq
      clear hq
      go_wp2
      go_ret
      exact ⟨by first | rfl | (simp; done) | (simp; exact HQ.out), hb2⟩

set_option maxHeartbeats 1000000 in
theorem draws_top (n : Nat) (w : World) (hn0 : 1 ≤ n) (hn : n ≤ 3000) :
    Calls Try.prog 5 #[.int .i64 255, .int .i64 n] w fun e w' => e = .returned (.bool true) ∧ Below w.heap.size w w' := by
  go_enter Try.func5, Try.ntmps5
  go_wp2_with fail
  refine (shown_any _).mono ?_
  rintro e w1 ⟨rfl, hb1⟩
  have z1 := hb1.size
  go_wp2_with fail
  go_loopw [6, 7] (fun u i wr => ∃ k : Nat, k ≤ n ∧ i = .int .i64 k ∧ u = .int .i64 (ups 255 k) ∧ Below w.heap.size w wr) (fun _ i _ => n - (intOf i).toNat)
  case atStart => exact ⟨0, by omega, rfl, by rw [show ups 255 0 = 0 from rfl], hb1⟩
  case round =>
    obtain ⟨k, hk, rfl, rfl, hb2⟩ := hrel
    have z2 := hb2.size
    by_cases hlt : k < n
    · have HS := Lib.hid (ups_succ 255 k (by omega))
      have hu := ups_bd 255 k (by omega)
      have hu : ¬ upB 255 k = true := by simp [upB]
      have HU := Lib.hid hu
      have HT := Lib.hid (show touched 255 k = 255 by simp [touched, hu])
      clear hu
      go_wp2_with fail
      refine (touch_draw _ _ _ _ (by omega) (by omega) (by omega) (by omega) HT.out).mono ?_
      rintro e w3 ⟨rfl, hb3⟩
      have z3 := hb3.size
      go_wp2
      go_roundw
      case rel => exact ⟨k + 1, by omega, by go_num, by rw [HS.out, if_neg HU.out, Int.add_zero], (hb2.trans (hb3.mono z2)).alloc (by omega) _⟩
      case measure => simp [intOf]; omega
    · obtain rfl : k = n := by omega
      have hq : ups 255 k = 0 := rfl
      have HQ := Lib.hid hq
      clear hq
      go_wp2
      go_ret
      exact ⟨by first | rfl | (simp; done) | (simp; exact HQ.out), hb2⟩

set_option maxHeartbeats 400000 in
theorem draws_out1 (c n : Int) (w : World) (h1 : c < 0) :
    Calls Try.prog 5 #[.int .i64 c, .int .i64 n] w fun e w' => e = .returned (.bool true) ∧ Below w.heap.size w w' := by
  go_enter Try.func5, Try.ntmps5
  go_wp2_with fail
  refine (shown_any _).mono ?_
  rintro e w1 ⟨rfl, hb1⟩
  go_wp2
  go_ret
  exact ⟨rfl, hb1⟩

set_option maxHeartbeats 400000 in
theorem draws_out2 (c n : Int) (w : World) (h1 : 0 ≤ c) (h2 : 255 < c) :
    Calls Try.prog 5 #[.int .i64 c, .int .i64 n] w fun e w' => e = .returned (.bool true) ∧ Below w.heap.size w w' := by
  go_enter Try.func5, Try.ntmps5
  go_wp2_with fail
  refine (shown_any _).mono ?_
  rintro e w1 ⟨rfl, hb1⟩
  go_wp2
  go_ret
  exact ⟨rfl, hb1⟩

set_option maxHeartbeats 400000 in
theorem draws_out3 (c n : Int) (w : World) (h1 : 0 ≤ c) (h2 : c ≤ 255) (h3 : n < 1) :
    Calls Try.prog 5 #[.int .i64 c, .int .i64 n] w fun e w' => e = .returned (.bool true) ∧ Below w.heap.size w w' := by
  go_enter Try.func5, Try.ntmps5
  go_wp2_with fail
  refine (shown_any _).mono ?_
  rintro e w1 ⟨rfl, hb1⟩
  go_wp2
  go_ret
  exact ⟨rfl, hb1⟩

set_option maxHeartbeats 400000 in
theorem draws_out4 (c n : Int) (w : World) (h1 : 0 ≤ c) (h2 : c ≤ 255) (h3 : 1 ≤ n) (h4 : 3000 < n) :
    Calls Try.prog 5 #[.int .i64 c, .int .i64 n] w fun e w' => e = .returned (.bool true) ∧ Below w.heap.size w w' := by
  go_enter Try.func5, Try.ntmps5
  go_wp2_with fail
  refine (shown_any _).mono ?_
  rintro e w1 ⟨rfl, hb1⟩
  go_wp2
  go_ret
  exact ⟨rfl, hb1⟩


end Go.Proofs.Ytbfffjppdmpbhaa
