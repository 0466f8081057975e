import Derived.Test.YtcjjeookfnmjcaaFinds
import Derived.BigQuiet
namespace Go.Proofs.Ytcjjeookfnmjcaa
open Go.RowKit Go.Proofs.YtcjjeookfnmjcaaW.PrintWords
set_option linter.unusedVariables false

set_option maxHeartbeats 1000000 in
/-- Lists that are the same. -/
theorem same_yes (A B : Option Addr) (l : List Ent) (len c d : Nat) (hlen : l.length = len) (hm : len ≤ 9223372036854775807) (w : World) (h1 : Els w A l) (h2 : Els w B l) :
    Calls Try.prog 17 #[.slice A len c, .slice B len d] w fun e w' => e = .returned (.bool true) ∧ Below w.heap.size w w' := by
  have H1 := Lib.hid h1
  have H2 := Lib.hid h2
  have HL := Lib.hid hlen
  clear h1 h2 hlen
  go_enter Try.func17, Try.ntmps17
  go_wp2_with fail
  go_loopw [5] (fun i wr => ∃ k : Nat, k ≤ len ∧ i = .int .i64 k ∧ Below w.heap.size w wr) (fun i _ => len - (intOf i).toNat)
  case atStart => exact ⟨0, by omega, rfl, Below.refl _ _⟩
  case round =>
    obtain ⟨k, hk, rfl, hB⟩ := hrel
    by_cases hlt : k < len
    · have hkl : k < l.length := by rw [HL.out]; exact hlt
      obtain ⟨b, o, rfl, hc0, hc1⟩ := (H1.out.later hB) k hkl
      obtain ⟨b2, o2, rfl, hd0, hd1⟩ := (H2.out.later hB) k hkl
      obtain ⟨x, hx⟩ : ∃ x, l[k]'hkl = x := ⟨_, rfl⟩
      rw [hx] at hc0 hc1 hd0 hd1
      obtain ⟨ms, sc⟩ := x
      dsimp only at hc0 hc1 hd0 hd1
      clear hx
      go_wp2_with fail
      go_quiet (fail)
      go_wp2_with fail
      go_roundw
      case rel => exact ⟨k + 1, by omega, by go_num, below_drewN hB _⟩
      case measure => simp [intOf]; omega
    · obtain rfl : k = len := by omega
      go_wp2_with fail
      go_ret
      exact ⟨rfl, hB⟩

end Go.Proofs.Ytcjjeookfnmjcaa
