import Derived.Test.YtcjjeookfnmjcaaSame
namespace Go.Proofs.Ytcjjeookfnmjcaa
open Go.RowKit Go.Proofs.YtcjjeookfnmjcaaW.PrintWords
set_option linter.unusedVariables false

theorem strOf_append (a b : List Int) : strOfNums (a ++ b) = strOfNums a ++ strOfNums b := by
  apply Go.WideShapes.bytes_inj
  simp [strOfNums, ByteArray.data_append]
theorem box_string (w : World) (v : Int) : (convert 48 9 (.slice (some ⟨w.heap.size, 0, none⟩) 1 1)).run Try.prog (w.alloc (.cells #[.int .u8 v] 5)) = .ok (.string (strOfNums [v])) (w.alloc (.cells #[.int .u8 v] 5)) := by
  have hrow : Row (w.alloc (.cells #[.int .u8 v] 5)) w.heap.size [v] := by show (w.heap.push _)[w.heap.size]? = _; simp [nums]
  exact own_string (P := Try.prog) Try.underlying48 Try.underlying5 Try.underlying9 (row_owned (base := w.heap.size) hrow (n := 1) rfl (Nat.le_refl _) (by unfold maxLen; omega))

def scoreUp (n : Int) (k : Nat) : ByteArray := strOfNums ((be8 n).drop (8 - k))
theorem scoreUp_succ (n : Int) (k : Nat) (hk : k < 8) : strOfNums [dig n k] ++ scoreUp n k = scoreUp n (k + 1) := by
  unfold scoreUp
  rw [← strOf_append]
  congr 1
  match k, hk with
  | 0, _ => rfl
  | 1, _ => rfl
  | 2, _ => rfl
  | 3, _ => rfl
  | 4, _ => rfl
  | 5, _ => rfl
  | 6, _ => rfl
  | 7, _ => rfl
theorem scoreUp_size (n : Int) (k : Nat) : (scoreUp n k).size ≤ 8 := by unfold scoreUp; rw [strOf_size, List.length_drop, be8_length]; omega

set_option maxHeartbeats 1000000 in
theorem score_any (n : Int) (w : World) : Calls Try.prog 30 #[.int .i64 n] w fun e w' => e = .returned (.string (strOfNums (be8 n))) ∧ Below w.heap.size w w' := by
  go_enter Try.func30, Try.ntmps30
  go_wp2_with fail
  go_loopw [3, 4] (fun s i wr => ∃ k : Nat, ∃ q : ByteArray, k ≤ 8 ∧ i = .int .i64 k ∧ s = .string q ∧ q = scoreUp n k ∧ Below w.heap.size w wr) (fun _ i _ => 8 - (intOf i).toNat)
  case atStart => exact ⟨0, ⟨#[]⟩, by omega, rfl, rfl, rfl, Below.refl _ _⟩
  case round =>
    obtain ⟨k, q, hk, rfl, rfl, hq, hB⟩ := hrel
    by_cases hlt : k < 8
    · have hqs : q.size ≤ 8 := by rw [hq]; exact scoreUp_size n k
      have HQ := Lib.hid hq
      have hcv := box_string wr (n / 2 ^ (8 * k) % 256)
      obtain ⟨x, hx⟩ : ∃ x, strOfNums [n / 2 ^ (8 * k) % 256] = x := ⟨_, rfl⟩
      have hxs : x.size = 1 := by rw [← hx, strOf_size]; rfl
      rw [hx] at hcv
      have HX := Lib.hid hx
      clear hq hx
      go_wp2_with fail
      go_roundw
      case rel =>
        refine ⟨k + 1, x ++ q, by omega, by go_num, rfl, ?_, hB.alloc hB.size _⟩
        rw [HQ.out, ← scoreUp_succ n k hlt, ← HX.out]
        have : n / 2 ^ (8 * k) % 256 = dig n k := by
          unfold dig
          have e : ((256 ^ k : Nat) : Int) = 2 ^ (8 * k) := by rw [Int.pow_mul]; simp
          rw [e]
        rw [this]
      case measure => simp [intOf]; omega
    · obtain rfl : k = 8 := by omega
      have hq8 : q = strOfNums (be8 n) := hq
      subst hq8
      go_wp2_with fail
      go_ret
      exact ⟨rfl, hB⟩

end Go.Proofs.Ytcjjeookfnmjcaa
