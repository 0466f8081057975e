import Derived.Test.YtbfffjppdmpbhaaRLeast
namespace Go.Proofs.Ytbfffjppdmpbhaa
open Go.RowKit
set_option linter.unusedVariables false

theorem IsUses.later {w w' : World} {sl : Value} {us : List (Int × Int)} (h : IsUses w w.heap.size sl us) (hb : Below w.heap.size w w') : IsUses w' w'.heap.size sl us := by
  rcases h with h | ⟨b, off, cap, hs, hl, hc⟩
  · exact .inl h
  · exact .inr ⟨b, off, cap, hs, Nat.lt_of_lt_of_le hl hb.size, fun j hj => ⟨(hb.cell (p := ⟨b, off + j * 2, none⟩) hl).trans (hc j hj).1, (hb.cell (p := ⟨b, off + j * 2 + 1, none⟩) hl).trans (hc j hj).2⟩⟩

/-- What the law cuts: a slice value, its first fifty. -/
def Cut (w : World) (A : Option Addr) (len cap : Nat) (us : List (Int × Int)) : Prop :=
  us.length = len ∧ len ≤ 50 ∧ IsUses w w.heap.size (.slice A len cap) us
theorem Cut.later {w w' : World} {A : Option Addr} {len cap : Nat} {us : List (Int × Int)} (h : Cut w A len cap us) (hb : Below w.heap.size w w') : Cut w' A len cap us := ⟨h.1, h.2.1, h.2.2.later hb⟩

theorem least_cut (now : Int) (hnow : now ≤ 9223372036854775807) (A : Option Addr) (len cap : Nat) (us : List (Int × Int)) (m e : Int) (hm : least now us = (m, e)) (w : World) (h : Cut w A len cap us) :
    Calls Try.prog 19 #[.slice A len cap, .int .i64 now] w fun r w' => r = .returned (.tuple #[.int .i64 m, .int .i64 e]) ∧ Below w.heap.size w w' := by
  have := least_is now hnow A len cap us h.1 h.2.1 w h.2.2
  rwa [hm] at this
theorem rleast_cut (now : Int) (hnow : now ≤ 9223372036854775807) (A : Option Addr) (len cap : Nat) (us : List (Int × Int)) (m e : Int) (hm : least now us = (m, e)) (w : World) (h : Cut w A len cap us) :
    Calls Try.prog 20 #[.slice A len cap, .int .i64 now] w fun r w' => r = .returned (.tuple #[.int .i64 m, .int .i64 e]) ∧ Below w.heap.size w w' := by
  have := rleast_is now hnow A len cap us h.1 h.2.1 w h.2.2
  rwa [hm] at this

set_option maxHeartbeats 400000 in
theorem law_least_none (now : Int) (hnow : now ≤ 9223372036854775807) (w : World) :
    Calls Try.prog 8 #[.slice none 0 0, .int .i64 now] w fun e w' => e = .returned (.bool true) ∧ Below w.heap.size w w' := by
  have hC : Cut w none 0 0 [] := ⟨rfl, by omega, .inl ⟨rfl, none, 0, rfl⟩⟩
  obtain ⟨⟨m, e⟩, hm⟩ : ∃ y, least now [] = y := ⟨_, rfl⟩
  have HM := Lib.hid hm
  clear hm
  go_enter Try.func8, Try.ntmps8
  go_wp2_with fail
  refine (shown_any _).mono ?_
  rintro r w1 ⟨rfl, hb1⟩
  have HC1 := Lib.hid (hC.later hb1)
  clear hC
  go_wp2_with fail
  refine (least_cut now hnow none 0 0 [] m e HM.out _ HC1.out).mono ?_
  rintro r w2 ⟨rfl, hb2⟩
  have HC2 := Lib.hid (HC1.out.later hb2)
  have z1 := hb1.size
  have z2 := hb2.size
  go_wp2_with fail
  refine (rleast_cut now hnow none 0 0 [] m e HM.out _ HC2.out).mono ?_
  rintro r w3 ⟨rfl, hb3⟩
  go_wp2
  go_ret
  exact ⟨by simp, (hb1.trans (hb2.mono z1)).trans (hb3.mono (by omega))⟩

set_option maxHeartbeats 400000 in
theorem law_least_zero (a : Addr) (cap : Nat) (hcap : cap ≤ 9223372036854775807) (now : Int) (hnow : now ≤ 9223372036854775807) (w : World) :
    Calls Try.prog 8 #[.slice (some a) 0 cap, .int .i64 now] w fun e w' => e = .returned (.bool true) ∧ Below w.heap.size w w' := by
  have hC : Cut w (some a) 0 cap [] := ⟨rfl, by omega, .inl ⟨rfl, some a, cap, rfl⟩⟩
  obtain ⟨⟨m, e⟩, hm⟩ : ∃ y, least now [] = y := ⟨_, rfl⟩
  have HM := Lib.hid hm
  clear hm
  go_enter Try.func8, Try.ntmps8
  go_wp2_with fail
  refine (shown_any _).mono ?_
  rintro r w1 ⟨rfl, hb1⟩
  have HC1 := Lib.hid (hC.later hb1)
  clear hC
  go_wp2_with fail
  refine (least_cut now hnow (some a) 0 cap [] m e HM.out _ HC1.out).mono ?_
  rintro r w2 ⟨rfl, hb2⟩
  have HC2 := Lib.hid (HC1.out.later hb2)
  have z1 := hb1.size
  have z2 := hb2.size
  go_wp2_with fail
  refine (rleast_cut now hnow (some a) 0 cap [] m e HM.out _ HC2.out).mono ?_
  rintro r w3 ⟨rfl, hb3⟩
  go_wp2
  go_ret
  exact ⟨by simp, (hb1.trans (hb2.mono z1)).trans (hb3.mono (by omega))⟩

set_option maxHeartbeats 400000 in
theorem law_least_short (now : Int) (hnow : now ≤ 9223372036854775807) (b off len cap : Nat) (us : List (Int × Int)) (h50 : len ≤ 50) (hlc : len ≤ cap) (hcap : cap ≤ 9223372036854775807) (w : World) (hC : Cut w (some ⟨b, off, none⟩) len cap us) :
    Calls Try.prog 8 #[.slice (some ⟨b, off, none⟩) len cap, .int .i64 now] w fun e w' => e = .returned (.bool true) ∧ Below w.heap.size w w' := by
  obtain ⟨⟨m, e⟩, hm⟩ : ∃ y, least now us = y := ⟨_, rfl⟩
  have HM := Lib.hid hm
  clear hm
  go_enter Try.func8, Try.ntmps8
  go_wp2_with fail
  refine (shown_any _).mono ?_
  rintro r w1 ⟨rfl, hb1⟩
  have HC1 := Lib.hid (hC.later hb1)
  clear hC
  go_wp2_with fail
  refine (least_cut now hnow _ _ _ us m e HM.out _ HC1.out).mono ?_
  rintro r w2 ⟨rfl, hb2⟩
  have HC2 := Lib.hid (HC1.out.later hb2)
  have z1 := hb1.size
  have z2 := hb2.size
  go_wp2_with fail
  refine (rleast_cut now hnow _ _ _ us m e HM.out _ HC2.out).mono ?_
  rintro r w3 ⟨rfl, hb3⟩
  go_wp2
  go_ret
  exact ⟨by simp, (hb1.trans (hb2.mono z1)).trans (hb3.mono (by omega))⟩

set_option maxHeartbeats 400000 in
theorem law_least_long (now : Int) (hnow : now ≤ 9223372036854775807) (b off len cap : Nat) (us : List (Int × Int)) (h50 : 50 < len) (hlc : len ≤ cap) (hcap : cap ≤ 9223372036854775807) (w : World) (hC : Cut w (some ⟨b, off, none⟩) 50 cap us) :
    Calls Try.prog 8 #[.slice (some ⟨b, off, none⟩) len cap, .int .i64 now] w fun e w' => e = .returned (.bool true) ∧ Below w.heap.size w w' := by
  obtain ⟨⟨m, e⟩, hm⟩ : ∃ y, least now us = y := ⟨_, rfl⟩
  have HM := Lib.hid hm
  clear hm
  go_enter Try.func8, Try.ntmps8
  go_wp2_with fail
  refine (shown_any _).mono ?_
  rintro r w1 ⟨rfl, hb1⟩
  have HC1 := Lib.hid (hC.later hb1)
  clear hC
  go_wp2_with fail
  refine (least_cut now hnow _ _ _ us m e HM.out _ HC1.out).mono ?_
  rintro r w2 ⟨rfl, hb2⟩
  have HC2 := Lib.hid (HC1.out.later hb2)
  have z1 := hb1.size
  have z2 := hb2.size
  go_wp2_with fail
  refine (rleast_cut now hnow _ _ _ us m e HM.out _ HC2.out).mono ?_
  rintro r w3 ⟨rfl, hb3⟩
  go_wp2
  go_ret
  exact ⟨by simp, (hb1.trans (hb2.mono z1)).trans (hb3.mono (by omega))⟩

theorem UsesAt.take {w : World} {b off : Nat} {us : List (Int × Int)} (h : UsesAt w b off us) (n : Nat) : UsesAt w b off (us.take n) := by
  intro j hj
  have hl : j < us.length := by rw [List.length_take] at hj; omega
  have hn : j < n := by rw [List.length_take] at hj; omega
  have e : (us.take n)[j]? = us[j]? := by rw [List.getElem?_take]; simp [hn]
  rw [e]
  exact h j hl

theorem law_least_some (now : Int) (hnow : now ≤ 9223372036854775807) (b off len cap : Nat) (us : List (Int × Int)) (hlen : us.length = len) (hlc : len ≤ cap) (hcap : cap ≤ 9223372036854775807) (w : World) (hb : b < w.heap.size) (hc : UsesAt w b off us) :
    Calls Try.prog 8 #[.slice (some ⟨b, off, none⟩) len cap, .int .i64 now] w fun e w' => e = .returned (.bool true) ∧ Below w.heap.size w w' := by
  by_cases h50 : len ≤ 50
  · exact law_least_short now hnow b off len cap us h50 hlc hcap w ⟨hlen, h50, .inr ⟨b, off, cap, by rw [hlen], hb, hc⟩⟩
  · have ht : (us.take 50).length = 50 := by rw [List.length_take]; omega
    exact law_least_long now hnow b off len cap (us.take 50) (by omega) hlc hcap w ⟨ht, Nat.le_refl _, .inr ⟨b, off, cap, by rw [ht], hb, hc.take 50⟩⟩

end Go.Proofs.Ytbfffjppdmpbhaa
