import Derived.Test.YtbfffjppdmpbhaaLeastLaw
namespace Go.Proofs.Ytbfffjppdmpbhaa
open Go.RowKit
set_option linter.unusedVariables false

theorem count_at (a b now m e : Int) (hn : now ≤ 9223372036854775807) (h : ev now (a, b) = (m, e)) (w : World) :
    Calls Try.prog 11 #[.agg #[.int .i64 a, .int .i64 b], .int .i64 now] w fun r w' => r = .returned (.tuple #[.int .i64 m, .int .i64 e]) ∧ Below w.heap.size w w' := by
  have := count_ev (a, b) now hn w
  rwa [h] at this

theorem mst_least (l : List (Int × Int)) (h : ∀ x, x ∈ l → x.1 < 256) (k : Nat) : k + 1 ≤ l.length →
    ∃ a : Nat, (mst (l.take (k + 1))).1 = a ∧ a < k + 1 ∧ (mst (l.take (k + 1))).2.1 = (l[a]?.getD (0, 0)).1 ∧ (∀ i, i < k + 1 → (mst (l.take (k + 1))).2.1 ≤ (l[i]?.getD (0, 0)).1) ∧ (∀ i, i < a → (mst (l.take (k + 1))).2.1 < (l[i]?.getD (0, 0)).1) := by
  induction k with
  | zero =>
    intro hl
    have e : l.take 1 = [l[0]'(by omega)] := by
      rw [List.take_succ_eq_append_getElem (by omega)]; simp
    have hx := h (l[0]'(by omega)) (List.getElem_mem _)
    have e0 : l[0]?.getD (0, 0) = l[0]'(by omega) := by simp [List.getElem?_eq_getElem (show 0 < l.length by omega)]
    refine ⟨0, ?_, by omega, ?_, ?_, fun i hi => absurd hi (by omega)⟩
    · rw [e]; simp [mst, mstep]
    · rw [e, e0]; simp [mst, mstep, hx]
    · intro i hi
      obtain rfl : i = 0 := by omega
      rw [e, e0]; simp [mst, mstep, hx]
  | succ k ih =>
    intro hl
    obtain ⟨a, h1, h2, h3, h4, h5⟩ := ih (by omega)
    have e : l.take (k + 1 + 1) = l.take (k + 1) ++ [l[k + 1]'(by omega)] := List.take_succ_eq_append_getElem (by omega)
    have e0 : l[k + 1]?.getD (0, 0) = l[k + 1]'(by omega) := by simp [List.getElem?_eq_getElem (show k + 1 < l.length by omega)]
    have ht := mst_third (l.take (k + 1))
    have hlen : ((l.take (k + 1)).length : Int) = (k : Int) + 1 := by rw [List.length_take]; omega
    rw [e, mst_snoc]
    generalize l[k + 1]'(by omega) = x at *
    generalize mst (l.take (k + 1)) = s at *
    by_cases hx : x.1 < s.2.1
    · refine ⟨k + 1, ?_, by omega, ?_, ?_, ?_⟩
      · simp only [mstep, if_pos hx, ht, hlen]; omega
      · simp only [mstep, if_pos hx, e0]
      · intro i hi
        simp only [mstep, if_pos hx]
        by_cases hik : i < k + 1
        · have := h4 i hik; omega
        · obtain rfl : i = k + 1 := by omega
          rw [e0]; omega
      · intro i hi
        simp only [mstep, if_pos hx]
        have := h4 i hi; omega
    · refine ⟨a, ?_, by omega, ?_, ?_, ?_⟩
      · simp only [mstep, if_neg hx, h1]
      · simp only [mstep, if_neg hx]; exact h3
      · intro i hi
        simp only [mstep, if_neg hx]
        by_cases hik : i < k + 1
        · exact h4 i hik
        · obtain rfl : i = k + 1 := by omega
          rw [e0]; omega
      · intro i hi
        simp only [mstep, if_neg hx]
        exact h5 i hi

/-- What is told of uses that are all right: the first least one. -/
theorem least_law (now : Int) (us : List (Int × Int)) (h0 : 0 < us.length) (hok : okAll now us = true) :
    ∃ (a : Nat) (low : Int), least now us = ((a : Int), 0) ∧ a < us.length ∧ ev now (us[a]?.getD (0, 0)) = (low, 0) ∧
      ∀ i, i < us.length → ∃ m, ev now (us[i]?.getD (0, 0)) = (m, 0) ∧ low ≤ m ∧ (m = low → a ≤ i) := by
  have hev : ∀ i, i < us.length → ((us.map (ev now))[i]?.getD (0, 0)) = ev now (us[i]?.getD (0, 0)) ∧ (ev now (us[i]?.getD (0, 0))).2 = 0 := fun i hi => by
    have hu := List.all_eq_true.1 hok (us[i]'hi) (List.getElem_mem _)
    have e : us[i]?.getD (0, 0) = us[i]'hi := by simp [List.getElem?_eq_getElem hi]
    refine ⟨by simp [List.getElem?_eq_getElem hi], ?_⟩
    rw [e]; simp [ev, hu]
  obtain ⟨a, h1, h2, h3, h4, h5⟩ := mst_least (us.map (ev now)) (ev_small now us) (us.length - 1) (by simp; omega)
  have hn : us.length - 1 + 1 = us.length := by omega
  rw [hn] at h1 h2 h3 h4 h5
  have ht : (us.map (ev now)).take us.length = us.map (ev now) := List.take_of_length_le (by simp)
  rw [ht] at h1 h3 h4 h5
  have hne : us ≠ [] := fun e => by simp [e] at h0
  refine ⟨a, (mst (us.map (ev now))).2.1, by simp [least, hne, hok, h1], h2, ?_, ?_⟩
  · rw [h3, (hev a h2).1]
    exact Prod.ext rfl (hev a h2).2
  · intro i hi
    refine ⟨(ev now (us[i]?.getD (0, 0))).1, Prod.ext rfl (hev i hi).2, ?_, ?_⟩
    · have := h4 i hi; rwa [(hev i hi).1] at this
    · intro he
      by_cases hia : i < a
      · have := h5 i hia; rw [(hev i hi).1] at this; omega
      · omega

set_option maxHeartbeats 400000 in
theorem first_none (now : Int) (hnow : now ≤ 9223372036854775807) (w : World) :
    Calls Try.prog 9 #[.slice none 0 0, .int .i64 now] w fun e w' => e = .returned (.bool true) ∧ Below w.heap.size w w' := by
  have hC : Cut w none 0 0 [] := ⟨rfl, by omega, .inl ⟨rfl, none, 0, rfl⟩⟩
  have HM := Lib.hid (show least now [] = (0, 130) by simp [least])
  go_enter Try.func9, Try.ntmps9
  go_wp2_with fail
  refine (shown_any _).mono ?_
  rintro r w1 ⟨rfl, hb1⟩
  have HC1 := Lib.hid (hC.later hb1)
  clear hC
  go_wp2_with fail
  refine (least_cut now hnow none 0 0 [] 0 130 HM.out _ HC1.out).mono ?_
  rintro r w2 ⟨rfl, hb2⟩
  have z1 := hb1.size
  go_wp2
  go_ret
  exact ⟨by simp, hb1.trans (hb2.mono z1)⟩

set_option maxHeartbeats 400000 in
theorem first_zero (a : Addr) (cap : Nat) (hcap : cap ≤ 9223372036854775807) (now : Int) (hnow : now ≤ 9223372036854775807) (w : World) :
    Calls Try.prog 9 #[.slice (some a) 0 cap, .int .i64 now] w fun e w' => e = .returned (.bool true) ∧ Below w.heap.size w w' := by
  have hC : Cut w (some a) 0 cap [] := ⟨rfl, by omega, .inl ⟨rfl, some a, cap, rfl⟩⟩
  have HM := Lib.hid (show least now [] = (0, 130) by simp [least])
  go_enter Try.func9, Try.ntmps9
  go_wp2_with fail
  refine (shown_any _).mono ?_
  rintro r w1 ⟨rfl, hb1⟩
  have HC1 := Lib.hid (hC.later hb1)
  clear hC
  go_wp2_with fail
  refine (least_cut now hnow (some a) 0 cap [] 0 130 HM.out _ HC1.out).mono ?_
  rintro r w2 ⟨rfl, hb2⟩
  have z1 := hb1.size
  go_wp2
  go_ret
  exact ⟨by simp, hb1.trans (hb2.mono z1)⟩

set_option maxHeartbeats 400000 in
theorem first_no_short (now : Int) (hnow : now ≤ 9223372036854775807) (b off len cap : Nat) (us : List (Int × Int)) (h50 : len ≤ 50) (hlc : len ≤ cap) (hcap : cap ≤ 9223372036854775807) (w : World) (hC : Cut w (some ⟨b, off, none⟩) len cap us) (hm : least now us = (0, 130)) :
    Calls Try.prog 9 #[.slice (some ⟨b, off, none⟩) len cap, .int .i64 now] w fun e w' => e = .returned (.bool true) ∧ Below w.heap.size w w' := by
  have HM := Lib.hid hm
  clear hm
  go_enter Try.func9, Try.ntmps9
  go_wp2_with fail
  refine (shown_any _).mono ?_
  rintro r w1 ⟨rfl, hb1⟩
  have HC1 := Lib.hid (hC.later hb1)
  clear hC
  go_wp2_with fail
  refine (least_cut now hnow _ _ _ us 0 130 HM.out _ HC1.out).mono ?_
  rintro r w2 ⟨rfl, hb2⟩
  have z1 := hb1.size
  go_wp2
  go_ret
  exact ⟨by simp, hb1.trans (hb2.mono z1)⟩

set_option maxHeartbeats 400000 in
theorem first_no_long (now : Int) (hnow : now ≤ 9223372036854775807) (b off len cap : Nat) (us : List (Int × Int)) (h50 : 50 < len) (hlc : len ≤ cap) (hcap : cap ≤ 9223372036854775807) (w : World) (hC : Cut w (some ⟨b, off, none⟩) 50 cap us) (hm : least now us = (0, 130)) :
    Calls Try.prog 9 #[.slice (some ⟨b, off, none⟩) len cap, .int .i64 now] w fun e w' => e = .returned (.bool true) ∧ Below w.heap.size w w' := by
  have HM := Lib.hid hm
  clear hm
  go_enter Try.func9, Try.ntmps9
  go_wp2_with fail
  refine (shown_any _).mono ?_
  rintro r w1 ⟨rfl, hb1⟩
  have HC1 := Lib.hid (hC.later hb1)
  clear hC
  go_wp2_with fail
  refine (least_cut now hnow _ _ _ us 0 130 HM.out _ HC1.out).mono ?_
  rintro r w2 ⟨rfl, hb2⟩
  have z1 := hb1.size
  go_wp2
  go_ret
  exact ⟨by simp, hb1.trans (hb2.mono z1)⟩

set_option maxHeartbeats 2000000 in
theorem first_yes_short (now : Int) (hnow : now ≤ 9223372036854775807) (b off len cap : Nat) (us : List (Int × Int)) (h50 : len ≤ 50) (hlc : len ≤ cap) (hcap : cap ≤ 9223372036854775807) (w : World) (hC : Cut w (some ⟨b, off, none⟩) len cap us) (hb : b < w.heap.size) (hc : UsesAt w b off us)
    (a : Nat) (low : Int) (hm : least now us = ((a : Int), 0)) (ha : a < len) (hal : ev now (us[a]?.getD (0, 0)) = (low, 0)) (hall : ∀ i, i < len → ∃ m, ev now (us[i]?.getD (0, 0)) = (m, 0) ∧ low ≤ m ∧ (m = low → a ≤ i)) :
    Calls Try.prog 9 #[.slice (some ⟨b, off, none⟩) len cap, .int .i64 now] w fun e w' => e = .returned (.bool true) ∧ Below w.heap.size w w' := by
  have HM := Lib.hid hm
  have HE := Lib.hid hal
  have HA := Lib.hid hall
  have HL := Lib.hid hC.1
  clear hm hal hall
  go_enter Try.func9, Try.ntmps9
  go_wp2_with fail
  refine (shown_any _).mono ?_
  rintro r w1 ⟨rfl, hb1⟩
  have HC1 := Lib.hid (hC.later hb1)
  clear hC
  go_wp2_with fail
  refine (least_cut now hnow _ _ _ us a 0 HM.out _ HC1.out).mono ?_
  rintro r w2 ⟨rfl, hb2⟩
  have z1 := hb1.size
  have z2 := hb2.size
  have hB2 := hb1.trans (hb2.mono z1)
  clear hb1 hb2
  obtain ⟨hcu, hcv⟩ := hc a (by rw [HL.out]; exact ha)
  replace hcu := (hB2.cell (p := ⟨b, off + a * 2, none⟩) hb).trans hcu
  replace hcv := (hB2.cell (p := ⟨b, off + a * 2 + 1, none⟩) hb).trans hcv
  obtain ⟨u, hu⟩ : ∃ u, us[a]?.getD (0, 0) = u := ⟨_, rfl⟩
  rw [hu] at hcu hcv HE
  obtain ⟨x, y⟩ := u
  clear hu
  dsimp only at hcu hcv
  go_wp2_with fail
  refine (count_at x y now low 0 hnow HE.out _).mono ?_
  rintro r w3 ⟨rfl, hb3⟩
  have z3 := hb3.size
  have hB3 := hB2.trans (hb3.mono (by omega))
  clear hcu hcv hb3 HE
  go_wp2_with fail
  go_loopw [10] (fun i wr => ∃ k : Nat, k ≤ len ∧ i = .int .i64 k ∧ Below w.heap.size w wr) (fun i _ => len - (intOf i).toNat)
  case atStart => exact ⟨0, by omega, rfl, hB3⟩
  case round =>
    obtain ⟨k, hk, rfl, hB⟩ := hrel
    have zr := hB.size
    by_cases hlt : k < len
    · obtain ⟨hcu, hcv⟩ := hc k (by rw [HL.out]; exact hlt)
      replace hcu := (hB.cell (p := ⟨b, off + k * 2, none⟩) hb).trans hcu
      replace hcv := (hB.cell (p := ⟨b, off + k * 2 + 1, none⟩) hb).trans hcv
      obtain ⟨m, he, hlm, hmk⟩ := HA.out k hlt
      obtain ⟨u, hu⟩ : ∃ u, us[k]?.getD (0, 0) = u := ⟨_, rfl⟩
      rw [hu] at hcu hcv he
      obtain ⟨x', y'⟩ := u
      clear hu
      have HE := Lib.hid he
      clear he
      dsimp only at hcu hcv
      by_cases heq : m = low
      · have hak := hmk heq
        clear hmk
        subst heq
        go_wp2_with fail
        refine (count_at x' y' now m 0 hnow HE.out _).mono ?_
        rintro r w4 ⟨rfl, hb4⟩
        go_wp2
        go_roundw
        case rel => exact ⟨k + 1, by omega, by go_num, hB.trans (hb4.mono (by omega))⟩
        case measure => simp [intOf]; omega
      · clear hmk
        have hne : (m == low) = false := beq_eq_false_iff_ne.2 heq
        clear heq
        go_wp2_with fail
        refine (count_at x' y' now m 0 hnow HE.out _).mono ?_
        rintro r w4 ⟨rfl, hb4⟩
        go_wp2
        go_roundw
        case rel => exact ⟨k + 1, by omega, by go_num, hB.trans (hb4.mono (by omega))⟩
        case measure => simp [intOf]; omega
    · obtain rfl : k = len := by omega
      go_wp2
      go_ret
      exact ⟨by first | rfl | (simp; done), hB⟩

set_option maxHeartbeats 2000000 in
theorem first_yes_long (now : Int) (hnow : now ≤ 9223372036854775807) (b off len cap : Nat) (us : List (Int × Int)) (h50 : 50 < len) (hlc : len ≤ cap) (hcap : cap ≤ 9223372036854775807) (w : World) (hC : Cut w (some ⟨b, off, none⟩) 50 cap us) (hb : b < w.heap.size) (hc : UsesAt w b off us)
    (a : Nat) (low : Int) (hm : least now us = ((a : Int), 0)) (ha : a < 50) (hal : ev now (us[a]?.getD (0, 0)) = (low, 0)) (hall : ∀ i, i < 50 → ∃ m, ev now (us[i]?.getD (0, 0)) = (m, 0) ∧ low ≤ m ∧ (m = low → a ≤ i)) :
    Calls Try.prog 9 #[.slice (some ⟨b, off, none⟩) len cap, .int .i64 now] w fun e w' => e = .returned (.bool true) ∧ Below w.heap.size w w' := by
  have HM := Lib.hid hm
  have HE := Lib.hid hal
  have HA := Lib.hid hall
  have HL := Lib.hid hC.1
  clear hm hal hall
  go_enter Try.func9, Try.ntmps9
  go_wp2_with fail
  refine (shown_any _).mono ?_
  rintro r w1 ⟨rfl, hb1⟩
  have HC1 := Lib.hid (hC.later hb1)
  clear hC
  go_wp2_with fail
  refine (least_cut now hnow _ _ _ us a 0 HM.out _ HC1.out).mono ?_
  rintro r w2 ⟨rfl, hb2⟩
  have z1 := hb1.size
  have z2 := hb2.size
  have hB2 := hb1.trans (hb2.mono z1)
  clear hb1 hb2
  obtain ⟨hcu, hcv⟩ := hc a (by rw [HL.out]; exact ha)
  replace hcu := (hB2.cell (p := ⟨b, off + a * 2, none⟩) hb).trans hcu
  replace hcv := (hB2.cell (p := ⟨b, off + a * 2 + 1, none⟩) hb).trans hcv
  obtain ⟨u, hu⟩ : ∃ u, us[a]?.getD (0, 0) = u := ⟨_, rfl⟩
  rw [hu] at hcu hcv HE
  obtain ⟨x, y⟩ := u
  clear hu
  dsimp only at hcu hcv
  go_wp2_with fail
  refine (count_at x y now low 0 hnow HE.out _).mono ?_
  rintro r w3 ⟨rfl, hb3⟩
  have z3 := hb3.size
  have hB3 := hB2.trans (hb3.mono (by omega))
  clear hcu hcv hb3 HE
  go_wp2_with fail
  go_loopw [10] (fun i wr => ∃ k : Nat, k ≤ 50 ∧ i = .int .i64 k ∧ Below w.heap.size w wr) (fun i _ => 50 - (intOf i).toNat)
  case atStart => exact ⟨0, by omega, rfl, hB3⟩
  case round =>
    obtain ⟨k, hk, rfl, hB⟩ := hrel
    have zr := hB.size
    by_cases hlt : k < 50
    · obtain ⟨hcu, hcv⟩ := hc k (by rw [HL.out]; exact hlt)
      replace hcu := (hB.cell (p := ⟨b, off + k * 2, none⟩) hb).trans hcu
      replace hcv := (hB.cell (p := ⟨b, off + k * 2 + 1, none⟩) hb).trans hcv
      obtain ⟨m, he, hlm, hmk⟩ := HA.out k hlt
      obtain ⟨u, hu⟩ : ∃ u, us[k]?.getD (0, 0) = u := ⟨_, rfl⟩
      rw [hu] at hcu hcv he
      obtain ⟨x', y'⟩ := u
      clear hu
      have HE := Lib.hid he
      clear he
      dsimp only at hcu hcv
      by_cases heq : m = low
      · have hak := hmk heq
        clear hmk
        subst heq
        go_wp2_with fail
        refine (count_at x' y' now m 0 hnow HE.out _).mono ?_
        rintro r w4 ⟨rfl, hb4⟩
        go_wp2
        go_roundw
        case rel => exact ⟨k + 1, by omega, by go_num, hB.trans (hb4.mono (by omega))⟩
        case measure => simp [intOf]; omega
      · clear hmk
        have hne : (m == low) = false := beq_eq_false_iff_ne.2 heq
        clear heq
        go_wp2_with fail
        refine (count_at x' y' now m 0 hnow HE.out _).mono ?_
        rintro r w4 ⟨rfl, hb4⟩
        go_wp2
        go_roundw
        case rel => exact ⟨k + 1, by omega, by go_num, hB.trans (hb4.mono (by omega))⟩
        case measure => simp [intOf]; omega
    · obtain rfl : k = 50 := by omega
      go_wp2
      go_ret
      exact ⟨by first | rfl | (simp; done), hB⟩

theorem first_cut_short (now : Int) (hnow : now ≤ 9223372036854775807) (b off len cap : Nat) (us : List (Int × Int)) (hlen : us.length = len) (h0 : 0 < len) (h50 : len ≤ 50) (hlc : len ≤ cap) (hcap : cap ≤ 9223372036854775807) (w : World) (hb : b < w.heap.size) (hc : UsesAt w b off us) :
    Calls Try.prog 9 #[.slice (some ⟨b, off, none⟩) len cap, .int .i64 now] w fun e w' => e = .returned (.bool true) ∧ Below w.heap.size w w' := by
  have hC : Cut w (some ⟨b, off, none⟩) len cap us := ⟨hlen, h50, .inr ⟨b, off, cap, by rw [hlen], hb, hc⟩⟩
  by_cases hok : okAll now us = true
  · obtain ⟨a, low, hm, ha, hal, hall⟩ := least_law now us (by omega) hok
    rw [hlen] at ha hall
    exact first_yes_short now hnow b off len cap us h50 hlc hcap w hC hb hc a low hm ha hal hall
  · exact first_no_short now hnow b off len cap us h50 hlc hcap w hC (by simp [least, hok])

theorem first_cut_long (now : Int) (hnow : now ≤ 9223372036854775807) (b off len cap : Nat) (us : List (Int × Int)) (hlen : us.length = len) (h50 : 50 < len) (hlc : len ≤ cap) (hcap : cap ≤ 9223372036854775807) (w : World) (hb : b < w.heap.size) (hc : UsesAt w b off us) :
    Calls Try.prog 9 #[.slice (some ⟨b, off, none⟩) len cap, .int .i64 now] w fun e w' => e = .returned (.bool true) ∧ Below w.heap.size w w' := by
  have ht : (us.take 50).length = 50 := by rw [List.length_take]; omega
  have hC : Cut w (some ⟨b, off, none⟩) 50 cap (us.take 50) := ⟨ht, Nat.le_refl _, .inr ⟨b, off, cap, by rw [ht], hb, hc.take 50⟩⟩
  by_cases hok : okAll now (us.take 50) = true
  · obtain ⟨a, low, hm, ha, hal, hall⟩ := least_law now (us.take 50) (by omega) hok
    rw [ht] at ha hall
    exact first_yes_long now hnow b off len cap (us.take 50) h50 hlc hcap w hC hb (hc.take 50) a low hm ha hal hall
  · exact first_no_long now hnow b off len cap (us.take 50) h50 hlc hcap w hC (by simp [least, hok])

end Go.Proofs.Ytbfffjppdmpbhaa
