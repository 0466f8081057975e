import Derived.Test.YtcjjeookfnmjcaaBackLaw
import Derived.Test.YtcjjeookfnmjcaaSame
import Derived.Test.YtcjjeookfnmjcaaRefPack
import Derived.Test.YtcjjeookfnmjcaaRefEnts
namespace Go.Proofs.Ytcjjeookfnmjcaa
open Go.RowKit Go.Proofs.YtcjjeookfnmjcaaW.PrintWords
set_option linter.unusedVariables false

theorem els_none (w : World) : Els w none [] := fun i hi => by simp at hi

set_option maxHeartbeats 4000000 in
theorem makes_any (A : Option Addr) (l0 : List Ent) (len c : Nat) (hlen : l0.length = len) (hm : len ≤ 9223372036854775807) (hrg : Rng l0) (s : ByteArray) (w : World) (hr : Els w A l0) :
    Calls Try.prog 3 #[.slice A len c, .string s] w fun e w' => e = .returned (.bool true) ∧ Below w.heap.size w w' := by
  obtain ⟨l, hl⟩ : ∃ l, few l0 = l := ⟨_, rfl⟩
  have hF := fun w' (hb : Below w.heap.size w w') => few_any A l0 len c hlen hm w' (hr.later hb)
  have hll : l.length ≤ 210 := by rw [← hl]; exact few_length l0
  simp only [hl] at hF
  obtain ⟨pk, hpk⟩ : ∃ pk, packS l = pk := ⟨_, rfl⟩
  obtain ⟨pa, pe⟩ := pk
  have HPK := Lib.hid hpk
  obtain ⟨p, hp⟩ : ∃ p, cutS s = p := ⟨_, rfl⟩
  have hcut := cut_any s
  have hpz := cutS_small s
  rw [hp] at hcut hpz
  have hE := entries_any p hpz
  have hR := refEnts_any p hpz
  have hG := right_any p hpz
  have hsm := spots_small p hpz
  have hok : ok p = okB (bytesOf p) := rfl
  rw [hok] at hG
  obtain ⟨k, hk⟩ : ∃ k, okB (bytesOf p) = k := ⟨_, rfl⟩
  obtain ⟨es, hes⟩ : ∃ es, (spots (bytesOf p)).map (·.1) = es := ⟨_, rfl⟩
  have hem : es.length ≤ 9223372036854775807 := by rw [← hes, List.length_map]; omega
  rw [hk] at hE hR hG
  rw [hes] at hE hR
  clear hr hl hp hok hk hes hpk hsm hlen hrg
  go_enter Try.func3, Try.ntmps3
  go_wp2_with fail
  refine (shown_any _).mono ?_
  rintro e w1 ⟨rfl, hb1⟩
  go_wp2_with fail
  refine (hF _ hb1).mono ?_
  rintro e w2 ⟨v2, rfl, hO2, hb2⟩
  obtain ⟨A2, c2, rfl⟩ := own_slice hO2
  have hB2 := hb1.trans (hb2.mono hb1.size)
  have hP := pack_any A2 l l.length c2 rfl w2 (row_reads hO2 rfl)
  rw [HPK.out] at hP
  clear hb2 hb1 hO2
  go_wp2_with fail
  refine hP.mono ?_
  rintro e w3 ⟨rfl, hb3⟩
  have hB3 := hB2.trans (hb3.mono hB2.size)
  clear hb3 hP hB2
  go_wp2_with fail
  refine (hF _ hB3).mono ?_
  rintro e w4 ⟨v4, rfl, hO4, hb4⟩
  obtain ⟨A4, c4, rfl⟩ := own_slice hO4
  have hB4 := hB3.trans (hb4.mono hB3.size)
  have hP := refPack_any A4 l l.length c4 rfl (by omega) w4 (row_reads hO4 rfl)
  rw [HPK.out] at hP
  clear hb4 hO4 hF hB3
  go_wp2_with fail
  refine hP.mono ?_
  rintro e w5 ⟨rfl, hb5⟩
  have hB5 := hB4.trans (hb5.mono hB4.size)
  clear hb5 hP hB4
  go_wp2_with fail
  refine (hcut _).mono ?_
  rintro e w6 ⟨rfl, hb6⟩
  have hB6 := hB5.trans (hb6.mono hB5.size)
  clear hb6 hB5
  go_wp2_with fail
  refine (hE _).mono ?_
  rintro e w7 ⟨⟨v7, i7, rfl, (⟨rfl, rfl, hO7⟩ | ⟨rfl, rfl, rfl⟩)⟩, hb7⟩
  · have hB7 := hB6.trans (hb7.mono hB6.size)
    obtain ⟨A7, c7, rfl⟩ := own_slice hO7
    have hE7 := row_reads hO7 rfl
    clear hb7 hB6 hO7
    go_wp2_with fail
    refine (hcut _).mono ?_
    rintro e w8 ⟨rfl, hb8⟩
    have hB8 := hB7.trans (hb8.mono hB7.size)
    have hE8 := hE7.later hb8
    clear hb8 hB7 hE7
    go_wp2_with fail
    refine (hR _).mono ?_
    rintro e w9 ⟨⟨v9, i9, rfl, (⟨_, rfl, hO9⟩ | ⟨h, _⟩)⟩, hb9⟩
    · have hB9 := hB8.trans (hb9.mono hB8.size)
      obtain ⟨A9, c9, rfl⟩ := own_slice hO9
      have hS := same_yes A7 A9 es es.length c7 c9 rfl hem w9 (hE8.later hb9) (row_reads hO9 rfl)
      clear hb9 hB8 hE8 hO9
      go_wp2_with fail
      refine hS.mono ?_
      rintro e w10 ⟨rfl, hb10⟩
      have hB10 := hB9.trans (hb10.mono hB9.size)
      clear hS hb10 hB9
      go_wp2_with fail
      refine (hcut _).mono ?_
      rintro e w11 ⟨rfl, hb11⟩
      have hB11 := hB10.trans (hb11.mono hB10.size)
      clear hb11 hB10
      go_wp2_with fail
      refine (hG _).mono ?_
      rintro e w12 ⟨rfl, hb12⟩
      have hB12 := hB11.trans (hb12.mono hB11.size)
      clear hb12 hB11
      go_wp2_with fail
      go_ret
      exact ⟨rfl, hB12⟩
    · cases h
  · have hB7 := hB6.trans (hb7.mono hB6.size)
    clear hb7 hB6
    go_wp2_with fail
    refine (hcut _).mono ?_
    rintro e w8 ⟨rfl, hb8⟩
    have hB8 := hB7.trans (hb8.mono hB7.size)
    clear hb8 hB7
    go_wp2_with fail
    refine (hR _).mono ?_
    rintro e w9 ⟨⟨v9, i9, rfl, (⟨h, _⟩ | ⟨_, rfl, rfl⟩)⟩, hb9⟩
    · cases h
    · have hB9 := hB8.trans (hb9.mono hB8.size)
      have hS := same_yes none none [] 0 0 0 rfl (by omega) w9 (els_none _) (els_none _)
      clear hb9 hB8
      go_wp2_with fail
      refine hS.mono ?_
      rintro e w10 ⟨rfl, hb10⟩
      have hB10 := hB9.trans (hb10.mono hB9.size)
      clear hS hb10 hB9
      go_wp2_with fail
      refine (hcut _).mono ?_
      rintro e w11 ⟨rfl, hb11⟩
      have hB11 := hB10.trans (hb11.mono hB10.size)
      clear hb11 hB10
      go_wp2_with fail
      refine (hG _).mono ?_
      rintro e w12 ⟨rfl, hb12⟩
      have hB12 := hB11.trans (hb12.mono hB11.size)
      clear hb12 hB11
      go_wp2_with fail
      go_ret
      exact ⟨rfl, hB12⟩

end Go.Proofs.Ytcjjeookfnmjcaa
