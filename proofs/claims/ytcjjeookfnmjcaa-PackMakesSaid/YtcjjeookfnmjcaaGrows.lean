import Derived.Test.YtcjjeookfnmjcaaFew
namespace Go.Proofs.Ytcjjeookfnmjcaa
open Go.RowKit Go.Proofs.YtcjjeookfnmjcaaW.PrintWords
set_option linter.unusedVariables false

def Rng (l : List Ent) : Prop := ∀ e, e ∈ l → -9223372036854775808 ≤ e.2 ∧ e.2 ≤ 9223372036854775807
theorem few_rng {l : List Ent} (h : Rng l) : Rng (few l) := by
  intro e he
  obtain ⟨x, hx, rfl⟩ := List.mem_map.1 he
  exact h x (List.mem_of_mem_take hx)
theorem few_length (l : List Ent) : (few l).length ≤ 210 := by simp [few]; omega
theorem packS_ok {l : List Ent} (hf : Fine l) : packS l = (strOfNums (packB l), 0) := by
  unfold packS
  rw [if_neg (by have := hf.1; omega), if_neg]
  intro h
  obtain ⟨e, he, h2⟩ := List.any_eq_true.1 h
  have := (hf.2 e he).1
  simp [bigE] at h2; omega
theorem packS_full {l : List Ent} (h : 200 < l.length) : packS l = (⟨#[]⟩, 51) := by unfold packS; rw [if_pos h]
theorem packS_big {l : List Ent} {e : Ent} (he : e ∈ l) (h : 64 < e.1.size) : (packS l).2 ≠ 0 := by
  unfold packS
  by_cases h1 : 200 < l.length
  · rw [if_pos h1]; decide
  · rw [if_neg h1, if_pos (List.any_eq_true.2 ⟨e, he, by simp [bigE]; omega⟩)]; decide
/-- The pack of a list is made just where the list is fine. -/
theorem packS_fine {l : List Ent} (hr : Rng l) (h : (packS l).2 = 0) : Fine l := by
  by_cases h1 : 200 < l.length
  · rw [packS_full h1] at h; cases h
  · refine ⟨by omega, fun e he => ⟨?_, hr e he⟩⟩
    rcases Nat.lt_or_ge 64 e.1.size with h2 | h2
    · exact absurd h (packS_big he h2)
    · exact h2
theorem pack_size {l : List Ent} (hf : Fine l) : (strOfNums (packB l)).size ≤ 20000 := by
  rw [strOf_size, packB_length]
  have := flat_small l (fun e he => (hf.2 e he).1)
  have := hf.1
  omega
theorem ins_end {l : List Ent} (hf : Fine l) (x : Ent) (h200 : l.length < 200) (hx : x.1.size ≤ 64) : insS (strOfNums (packB l)) l.length x = (strOfNums (packB (l ++ [x])), 0) := by
  obtain ⟨h1, h2⟩ := ok_str hf
  unfold insS
  rw [h1, h2, if_neg (by simp), if_neg (by omega), if_neg (by omega), Int.toNat_natCast]
  simp [insAt]
theorem ins_full {l : List Ent} (hf : Fine l) (x : Ent) (i : Int) (h200 : l.length = 200) : insS (strOfNums (packB l)) i x = (⟨#[]⟩, 51) := by
  obtain ⟨h1, h2⟩ := ok_str hf
  unfold insS
  rw [h1, h2, if_neg (by simp), if_pos h200]
theorem ins_big {l : List Ent} (hf : Fine l) (x : Ent) (i : Int) (h200 : l.length ≠ 200) (hx : 64 < x.1.size) : insS (strOfNums (packB l)) i x = (⟨#[]⟩, 2) := by
  obtain ⟨h1, h2⟩ := ok_str hf
  unfold insS
  rw [h1, h2, if_neg (by simp), if_neg h200, if_pos (.inr (.inr hx))]

set_option maxHeartbeats 2000000 in
theorem grows_any (A : Option Addr) (l0 : List Ent) (len c : Nat) (hlen : l0.length = len) (hm : len ≤ 9223372036854775807) (hrg : Rng l0) (w : World) (hr : Els w A l0) :
    Calls Try.prog 6 #[.slice A len c] w fun e w' => e = .returned (.bool true) ∧ Below w.heap.size w w' := by
  have hF := fun w' (hb : Below w.heap.size w w') => few_any A l0 len c hlen hm w' (hr.later hb)
  obtain ⟨l, hl⟩ : ∃ l, few l0 = l := ⟨_, rfl⟩
  have hl210 := few_length l0
  have hrl := few_rng hrg
  rw [hl] at hl210 hrl
  simp only [hl] at hF
  have HRL := Lib.hid hrl
  clear hr hrg hl hrl
  go_enter Try.func6, Try.ntmps6
  go_wp2_with fail
  refine (shown_any _).mono ?_
  rintro e w1 ⟨rfl, hb1⟩
  go_wp2_with fail
  refine (hF _ hb1).mono ?_
  rintro e w2 ⟨v2, rfl, hO2, hb2⟩
  obtain ⟨A2, c2, rfl⟩ := own_slice hO2
  have hE2 := row_reads hO2 rfl
  have hB2 := hb1.trans (hb2.mono hb1.size)
  have HE2 := Lib.hid hE2
  clear hF hO2 hb2 hb1 hE2
  obtain ⟨pk, hpk⟩ : ∃ pk, packS l = pk := ⟨_, rfl⟩
  have hP := pack_any A2 l l.length c2 rfl w2 HE2.out
  rw [hpk] at hP
  have HPK := Lib.hid hpk
  clear hpk
  go_wp2_with fail
  refine hP.mono ?_
  rintro e w3 ⟨rfl, hb3⟩
  have hB3 := hB2.trans (hb3.mono hB2.size)
  have hE3 := Lib.hid (HE2.out.later hb3)
  clear hb3 hP
  go_wp2_with fail
  refine (new_any _).mono ?_
  rintro e w4 ⟨rfl, hb4⟩
  have hB4 := hB3.trans (hb4.mono hB3.size)
  have hE4 := Lib.hid (hE3.out.later hb4)
  obtain ⟨p0, hp0⟩ : ∃ p0, strOfNums (packB []) = p0 := ⟨_, rfl⟩
  rw [hp0]
  have HP0 := Lib.hid hp0
  clear hb4 hB3 hp0
  go_wp2_with fail
  go_loopw [6, 7] (fun p i wr => ∃ k : Nat, ∃ q : ByteArray, k ≤ l.length ∧ i = .int .i64 k ∧ p = .string q ∧ q = strOfNums (packB (l.take k)) ∧ Fine (l.take k) ∧ Below w4.heap.size w4 wr) (fun _ i _ => l.length - (intOf i).toNat)
  case atStart => exact ⟨0, p0, by omega, rfl, rfl, HP0.out.symm, ⟨by simp, by simp⟩, Below.refl _ _⟩
  case round =>
    obtain ⟨k, q, hk, rfl, rfl, hq, hfk, hB⟩ := hrel
    have HQ := Lib.hid hq
    have HFK := Lib.hid hfk
    have hq1 : q.size ≤ 20000 := by rw [hq]; exact pack_size hfk
    have hB5 := hB4.trans (hB.mono hB4.size)
    have hk200 : k ≤ 200 := by have := hfk.1; rw [List.length_take] at this; omega
    clear hq hfk
    by_cases hlt : k < l.length
    · obtain ⟨b, o, rfl, hc0, hc1⟩ := (hE4.out.later hB) k hlt
      obtain ⟨x, hx⟩ : ∃ x, l[k]'hlt = x := ⟨_, rfl⟩
      rw [hx] at hc0 hc1
      have HM := Lib.hid (show x ∈ l from hx ▸ List.getElem_mem hlt)
      have HT := Lib.hid (show l.take (k + 1) = l.take k ++ [x] by rw [List.take_succ_eq_append_getElem hlt, hx])
      obtain ⟨m, sc⟩ := x
      dsimp only at hc0 hc1
      have hkl : (l.take k).length = k := by rw [List.length_take]; omega
      have hI := insert_any q (by omega) k m sc
      clear hx
      by_cases h200 : k = 200
      · rw [show insS q k (m, sc) = (⟨#[]⟩, 51) by rw [HQ.out]; exact ins_full HFK.out _ _ (by omega)] at hI
        have hpe : pk.2 = 51 := by rw [← HPK.out, packS_full (by omega)]
        subst h200
        go_wp2_with fail
        refine (hI _).mono ?_
        rintro e w6 ⟨rfl, hb6⟩
        have hB6 := hB5.trans (hb6.mono hB5.size)
        go_wp2_with fail
        go_ret
        exact ⟨rfl, hB6⟩
      · by_cases hbig : 64 < m.size
        · rw [show insS q k (m, sc) = (⟨#[]⟩, 2) by rw [HQ.out]; exact ins_big HFK.out _ _ (by omega) hbig] at hI
          have hpe : (pk.2 != 0) = true := bne_iff_ne.2 (by rw [← HPK.out]; exact packS_big HM.out hbig)
          go_wp2_with fail
          refine (hI _).mono ?_
          rintro e w6 ⟨rfl, hb6⟩
          have hB6 := hB5.trans (hb6.mono hB5.size)
          go_wp2_with fail
          go_ret
          exact ⟨rfl, hB6⟩
        · obtain ⟨q2, hq2⟩ : ∃ q2, strOfNums (packB (l.take (k + 1))) = q2 := ⟨_, rfl⟩
          rw [show insS q k (m, sc) = (q2, 0) by rw [HQ.out, ← hq2, HT.out]; have := ins_end HFK.out (m, sc) (by omega) (by dsimp only; omega); rw [hkl] at this; exact this] at hI
          have HQ2 := Lib.hid hq2
          clear hq2
          go_wp2_with fail
          refine (hI _).mono ?_
          rintro e w6 ⟨rfl, hb6⟩
          have hB6 := hB.trans (hb6.mono hB.size)
          go_wp2_with fail
          go_roundw
          case rel =>
            refine ⟨k + 1, q2, by omega, by go_num, rfl, HQ2.out.symm, ?_, hB6⟩
            rw [HT.out]
            refine ⟨by rw [List.length_append, hkl]; simp; omega, fun e he => ?_⟩
            rcases List.mem_append.1 he with h | h
            · exact HFK.out.2 e h
            · rw [List.mem_singleton.1 h]; exact ⟨by dsimp only; omega, HRL.out _ HM.out⟩
          case measure => simp [intOf]; omega
    · obtain rfl : k = l.length := by omega
      have hpk2 : pk = (q, 0) := by
        rw [← HPK.out, HQ.out]
        have := HFK.out
        rw [List.take_of_length_le (Nat.le_refl _)] at this ⊢
        exact packS_ok this
      subst hpk2
      go_wp2_with fail
      go_ret
      exact ⟨rfl, hB5⟩

end Go.Proofs.Ytcjjeookfnmjcaa
