import Derived.Test.YtcjjeookfnmjcaaSame
namespace Go.Proofs.Ytcjjeookfnmjcaa
open Go.RowKit Go.Proofs.YtcjjeookfnmjcaaW.PrintWords
set_option linter.unusedVariables false

/-- What the second half of PackBack meets: a text's entries d (h: an error's number), their pack (i, j), the backs' error k. -/
structure Half (s : ByteArray) (p : ByteArray) (h j k : Int) (i : ByteArray) : Prop where
  cut : cutS s = p
  fine : h = k ∧ (h ≠ 0 ∨ (j = 0 ∧ i = p))

theorem cutS_small (s : ByteArray) : (cutS s).size ≤ 1000000 := by have := cutS_size s; omega

theorem back_none {l : List Ent} (h : l = []) : l.reverse = [] := by rw [h]; rfl

set_option maxHeartbeats 4000000 in
theorem backs_yes (A : Option Addr) (l0 l : List Ent) (len c : Nat) (hlen : l0.length = len) (hm : len ≤ 9223372036854775807) (hl : few l0 = l) (hrl : Rng l) (hf : Fine l) (s : ByteArray) (w : World) (hr : Els w A l0) :
    Calls Try.prog 4 #[.slice A len c, .string s] w fun e w' => e = .returned (.bool true) ∧ Below w.heap.size w w' := by
  have hF := fun w' (hb : Below w.heap.size w w') => few_any A l0 len c hlen hm w' (hr.later hb)
  have hl210 := few_length l0
  rw [hl] at hl210
  simp only [hl] at hF
  obtain ⟨a, ha⟩ : ∃ a, strOfNums (packB l) = a := ⟨_, rfl⟩
  have hpk := packS_ok hf
  have hps := pack_size hf
  have hos := ok_str hf
  rw [ha] at hpk hps hos
  have hEn := entries_any a (by omega)
  have hBk := back_any a (by omega)
  have hkk : okB (bytesOf a) = true := hos.1
  have hee : (spots (bytesOf a)).map (·.1) = l := hos.2
  rw [hkk, hee] at hEn
  rw [hos.1, hos.2] at hBk
  have HRL := Lib.hid hrl
  have HPK := Lib.hid hpk
  clear hr hl hrl ha hpk hps hos hkk hee hf
  obtain ⟨p, hp⟩ : ∃ p, cutS s = p := ⟨_, rfl⟩
  have hcut := cut_any s
  have hpz := cutS_small s
  rw [hp] at hcut hpz
  have hE2 := entries_any p hpz
  have hB2 := back_any p hpz
  clear hp
  go_enter Try.func4, Try.ntmps4
  go_wp2_with fail
  refine (shown_any _).mono ?_
  rintro e w1 ⟨rfl, hb1⟩
  go_wp2_with fail
  refine (hF _ hb1).mono ?_
  rintro e w2 ⟨v2, rfl, hO2, hb2⟩
  obtain ⟨A2, c2, rfl⟩ := own_slice hO2
  have hEl := row_reads hO2 rfl
  have hBB := hb1.trans (hb2.mono hb1.size)
  have hP := pack_any A2 l l.length c2 rfl w2 hEl
  rw [HPK.out] at hP
  have HEl := Lib.hid hEl
  clear hF hO2 hb2 hb1 hEl
  go_wp2_with fail
  refine hP.mono ?_
  rintro e w3 ⟨rfl, hb3⟩
  have hB3 := hBB.trans (hb3.mono hBB.size)
  have HE3 := Lib.hid (HEl.out.later hb3)
  clear hb3 hP hBB HEl
  go_wp2_with fail
  refine (hEn _).mono ?_
  rintro e w4 ⟨⟨v4, i4, rfl, (⟨_, rfl, hO4⟩ | ⟨h, _⟩)⟩, hb4⟩
  rotate_left
  · cases h
  obtain ⟨A4, c4, rfl⟩ := own_slice hO4
  have HL4 := Lib.hid (row_reads hO4 rfl)
  have hB4 := hB3.trans (hb4.mono hB3.size)
  have HE4 := Lib.hid (HE3.out.later hb4)
  clear hb4 hB3 HE3 hO4
  go_wp2_with fail
  refine (hBk _).mono ?_
  rintro e w5 ⟨⟨v5, i5, rfl, (⟨_, rfl, hO5⟩ | ⟨h, _⟩)⟩, hb5⟩
  rotate_left
  · cases h
  rw [List.length_reverse] at hO5
  obtain ⟨A5, c5, rfl⟩ := own_slice hO5
  have HL5 := Lib.hid (row_reads hO5 (by rw [List.length_reverse]))
  have hB5 := hB4.trans (hb5.mono hB4.size)
  have HE5 := Lib.hid (HE4.out.later hb5)
  have HL45 := Lib.hid (HL4.out.later hb5)
  clear hb5 hB4 HE4 hO5 HL4
  go_wp2_with fail
  refine (same_yes A4 A2 l l.length c4 c2 rfl (by omega) w5 HL45.out HE5.out).mono ?_
  rintro e w6 ⟨rfl, hb6⟩
  have hB6 := hB5.trans (hb6.mono hB5.size)
  have HE6 := Lib.hid (HE5.out.later hb6)
  have HL6 := Lib.hid (HL5.out.later hb6)
  clear hb6 hB5 HE5 HL5 HL45
  go_wp2_with fail
  go_loopw [12] (fun i wr => ∃ k : Nat, k ≤ l.length ∧ i = .int .i64 k ∧ Below w.heap.size w wr ∧ Below w6.heap.size w6 wr) (fun i _ => l.length - (intOf i).toNat)
  case atStart => exact ⟨0, by omega, rfl, hB6, Below.refl _ _⟩
  case round =>
    obtain ⟨k, hk, rfl, hBw, hB⟩ := hrel
    by_cases hlt : k < l.length
    · obtain ⟨b, o, rfl, hc0, hc1⟩ := (HL6.out.later hB) k (by rw [List.length_reverse]; exact hlt)
      obtain ⟨b2, o2, rfl, hd0, hd1⟩ := (HE6.out.later hB) (l.length - 1 - k) (by omega)
      rw [List.getElem_reverse] at hc0 hc1
      obtain ⟨x, hx⟩ : ∃ x, l[l.length - 1 - k]'(by omega) = x := ⟨_, rfl⟩
      rw [hx] at hc0 hc1 hd0 hd1
      obtain ⟨ms, sc⟩ := x
      dsimp only at hc0 hc1 hd0 hd1
      have hw1 : IntKind.i64.wrap ((l.length : Int) - 1) = (l.length : Int) - 1 := by simp [IntKind.wrap, IntKind.signed, IntKind.bits]; omega
      have hw2 : IntKind.i64.wrap ((l.length : Int) - 1 - k) = (l.length : Int) - 1 - k := by simp [IntKind.wrap, IntKind.signed, IntKind.bits]; omega
      have hw3 : wrap64 ((l.length : Int) - 1) = (l.length : Int) - 1 := by unfold wrap64; omega
      have hw4 : wrap64 ((l.length : Int) - 1 - k) = (l.length : Int) - 1 - k := by unfold wrap64; omega
      have h00 : 0 ≤ (l.length : Int) - 1 - k := by omega
      have h01 : (l.length : Int) - 1 - k < l.length := by omega
      have htn : ((l.length : Int) - 1 - k).toNat = l.length - 1 - k := by omega
      clear hx
      go_wp2_with fail
      go_quiet (fail)
      go_wp2_with fail
      go_roundw
      case rel => exact ⟨k + 1, by omega, by go_num, below_drewN hBw _, below_drewN hB _⟩
      case measure => simp [intOf]; omega
    · obtain rfl : k = l.length := by omega
      go_wp2_with fail
      refine (hcut _).mono ?_
      rintro e w7 ⟨rfl, hb7⟩
      have hB7 := hBw.trans (hb7.mono hBw.size)
      clear hb7
      go_wp2_with fail
      by_cases hok : ok p = true
      · obtain ⟨hf2, hbp, _⟩ := ok_spec hok
        have hkk2 : okB (bytesOf p) = true := hok
        have hee2 : (spots (bytesOf p)).map (·.1) = ents p := rfl
        have hpk2 := packS_ok hf2
        rw [← hbp, strOf_bytesOf] at hpk2
        obtain ⟨d, hd⟩ : ∃ d, ents p = d := ⟨_, rfl⟩
        rw [hkk2, hee2, hd] at hE2
        rw [hok, hd] at hB2
        rw [hd] at hpk2 hf2
        have hdl := hf2.1
        have HPK2 := Lib.hid hpk2
        clear hok hkk2 hee2 hpk2 hd hf2 hbp
        refine (hE2 _).mono ?_
        rintro e w8 ⟨⟨v8, i8, rfl, (⟨_, rfl, hO8⟩ | ⟨h, _⟩)⟩, hb8⟩
        rotate_left
        · cases h
        obtain ⟨A8, c8, rfl⟩ := own_slice hO8
        have hP8 := pack_any A8 d d.length c8 rfl w8 (row_reads hO8 rfl)
        rw [HPK2.out] at hP8
        have hB8 := hB7.trans (hb8.mono hB7.size)
        clear hb8 hO8
        go_wp2_with fail
        refine hP8.mono ?_
        rintro e w9 ⟨rfl, hb9⟩
        have hB9 := hB8.trans (hb9.mono hB8.size)
        clear hb9
        go_wp2_with fail
        refine (hcut _).mono ?_
        rintro e w10 ⟨rfl, hb10⟩
        have hB10 := hB9.trans (hb10.mono hB9.size)
        clear hb10
        go_wp2_with fail
        refine (hB2 _).mono ?_
        rintro e w11 ⟨⟨v11, i11, rfl, (⟨_, rfl, hO11⟩ | ⟨h, _⟩)⟩, hb11⟩
        rotate_left
        · cases h
        obtain ⟨A11, c11, rfl⟩ := own_slice hO11
        have hB11 := hB10.trans (hb11.mono hB10.size)
        clear hb11 hO11
        go_wp2_with fail
        refine (hcut _).mono ?_
        rintro e w12 ⟨rfl, hb12⟩
        have hB12 := hB11.trans (hb12.mono hB11.size)
        clear hb12
        go_wp2_with fail
        go_ret
        exact ⟨rfl, hB12⟩
      · replace hok : ok p = false := by simpa using hok
        have hkk2 : okB (bytesOf p) = false := hok
        rw [hkk2] at hE2
        rw [hok] at hB2
        clear hok hkk2
        refine (hE2 _).mono ?_
        rintro e w8 ⟨⟨v8, i8, rfl, (⟨h, _⟩ | ⟨_, rfl, rfl⟩)⟩, hb8⟩
        · cases h
        have hP8 := pack_any none [] 0 0 rfl w8 (by intro i hi; simp at hi)
        obtain ⟨i9, j9, hij⟩ : ∃ i9 j9, packS [] = (i9, j9) := ⟨_, _, rfl⟩
        rw [hij] at hP8
        have hB8 := hB7.trans (hb8.mono hB7.size)
        clear hb8 hij
        go_wp2_with fail
        refine hP8.mono ?_
        rintro e w9 ⟨rfl, hb9⟩
        have hB9 := hB8.trans (hb9.mono hB8.size)
        clear hb9
        go_wp2_with fail
        refine (hcut _).mono ?_
        rintro e w10 ⟨rfl, hb10⟩
        have hB10 := hB9.trans (hb10.mono hB9.size)
        clear hb10
        go_wp2_with fail
        refine (hB2 _).mono ?_
        rintro e w11 ⟨⟨v11, i11, rfl, (⟨h, _⟩ | ⟨_, rfl, rfl⟩)⟩, hb11⟩
        · cases h
        have hB11 := hB10.trans (hb11.mono hB10.size)
        clear hb11
        go_wp2_with fail
        go_ret
        exact ⟨rfl, hB11⟩

set_option maxHeartbeats 4000000 in
theorem backs_no (A : Option Addr) (l0 l : List Ent) (len c : Nat) (hlen : l0.length = len) (hm : len ≤ 9223372036854775807) (hl : few l0 = l) (er : Int) (hpk : packS l = (⟨#[]⟩, er)) (her : (er == 0) = false) (s : ByteArray) (w : World) (hr : Els w A l0) :
    Calls Try.prog 4 #[.slice A len c, .string s] w fun e w' => e = .returned (.bool true) ∧ Below w.heap.size w w' := by
  have hF := fun w' (hb : Below w.heap.size w w') => few_any A l0 len c hlen hm w' (hr.later hb)
  simp only [hl] at hF
  have hEn := entries_any ⟨#[]⟩ (by show 0 ≤ 1000000; omega)
  have hBk := back_any ⟨#[]⟩ (by show 0 ≤ 1000000; omega)
  have hkk : okB (bytesOf ⟨#[]⟩) = false := ok_empty
  rw [hkk] at hEn
  rw [ok_empty] at hBk
  have HPK := Lib.hid hpk
  clear hr hl hpk hkk
  obtain ⟨p, hp⟩ : ∃ p, cutS s = p := ⟨_, rfl⟩
  have hcut := cut_any s
  have hpz := cutS_small s
  rw [hp] at hcut hpz
  have hE2 := entries_any p hpz
  have hB2 := back_any p hpz
  clear hp
  go_enter Try.func4, Try.ntmps4
  go_wp2_with fail
  refine (shown_any _).mono ?_
  rintro e w1 ⟨rfl, hb1⟩
  go_wp2_with fail
  refine (hF _ hb1).mono ?_
  rintro e w2 ⟨v2, rfl, hO2, hb2⟩
  obtain ⟨A2, c2, rfl⟩ := own_slice hO2
  have hBB := hb1.trans (hb2.mono hb1.size)
  have hP := pack_any A2 l l.length c2 rfl w2 (row_reads hO2 rfl)
  rw [HPK.out] at hP
  clear hF hO2 hb2 hb1
  go_wp2_with fail
  refine hP.mono ?_
  rintro e w3 ⟨rfl, hb3⟩
  have hB3 := hBB.trans (hb3.mono hBB.size)
  clear hb3 hP hBB
  go_wp2_with fail
  refine (hEn _).mono ?_
  rintro e w4 ⟨⟨v4, i4, rfl, (⟨h, _⟩ | ⟨_, rfl, rfl⟩)⟩, hb4⟩
  · cases h
  have hB4 := hB3.trans (hb4.mono hB3.size)
  clear hb4 hB3
  go_wp2_with fail
  refine (hBk _).mono ?_
  rintro e w5 ⟨⟨v5, i5, rfl, (⟨h, _⟩ | ⟨_, rfl, rfl⟩)⟩, hb5⟩
  · cases h
  have hB5 := hB4.trans (hb5.mono hB4.size)
  clear hb5 hB4
  go_wp2_with fail
  go_loopw [12] (fun i wr => i = .int .i64 0 ∧ Below w.heap.size w wr) (fun _ _ => 0)
  case atStart => exact ⟨rfl, hB5⟩
  case round =>
    obtain ⟨rfl, hBw⟩ := hrel
    go_wp2_with fail
    refine (hcut _).mono ?_
    rintro e w7 ⟨rfl, hb7⟩
    have hB7 := hBw.trans (hb7.mono hBw.size)
    clear hb7
    go_wp2_with fail
    by_cases hok : ok p = true
    · obtain ⟨hf2, hbp, _⟩ := ok_spec hok
      have hkk2 : okB (bytesOf p) = true := hok
      have hee2 : (spots (bytesOf p)).map (·.1) = ents p := rfl
      have hpk2 := packS_ok hf2
      rw [← hbp, strOf_bytesOf] at hpk2
      obtain ⟨d, hd⟩ : ∃ d, ents p = d := ⟨_, rfl⟩
      rw [hkk2, hee2, hd] at hE2
      rw [hok, hd] at hB2
      rw [hd] at hpk2 hf2
      have hdl := hf2.1
      have HPK2 := Lib.hid hpk2
      clear hok hkk2 hee2 hpk2 hd hf2 hbp
      refine (hE2 _).mono ?_
      rintro e w8 ⟨⟨v8, i8, rfl, (⟨_, rfl, hO8⟩ | ⟨h, _⟩)⟩, hb8⟩
      rotate_left
      · cases h
      obtain ⟨A8, c8, rfl⟩ := own_slice hO8
      have hP8 := pack_any A8 d d.length c8 rfl w8 (row_reads hO8 rfl)
      rw [HPK2.out] at hP8
      have hB8 := hB7.trans (hb8.mono hB7.size)
      clear hb8 hO8
      go_wp2_with fail
      refine hP8.mono ?_
      rintro e w9 ⟨rfl, hb9⟩
      have hB9 := hB8.trans (hb9.mono hB8.size)
      clear hb9
      go_wp2_with fail
      refine (hcut _).mono ?_
      rintro e w10 ⟨rfl, hb10⟩
      have hB10 := hB9.trans (hb10.mono hB9.size)
      clear hb10
      go_wp2_with fail
      refine (hB2 _).mono ?_
      rintro e w11 ⟨⟨v11, i11, rfl, (⟨_, rfl, hO11⟩ | ⟨h, _⟩)⟩, hb11⟩
      rotate_left
      · cases h
      obtain ⟨A11, c11, rfl⟩ := own_slice hO11
      have hB11 := hB10.trans (hb11.mono hB10.size)
      clear hb11 hO11
      go_wp2_with fail
      refine (hcut _).mono ?_
      rintro e w12 ⟨rfl, hb12⟩
      have hB12 := hB11.trans (hb12.mono hB11.size)
      clear hb12
      go_wp2_with fail
      go_ret
      exact ⟨rfl, hB12⟩
    · replace hok : ok p = false := by simpa using hok
      have hkk2 : okB (bytesOf p) = false := hok
      rw [hkk2] at hE2
      rw [hok] at hB2
      clear hok hkk2
      refine (hE2 _).mono ?_
      rintro e w8 ⟨⟨v8, i8, rfl, (⟨h, _⟩ | ⟨_, rfl, rfl⟩)⟩, hb8⟩
      · cases h
      have hP8 := pack_any none [] 0 0 rfl w8 (by intro i hi; simp at hi)
      obtain ⟨i9, j9, hij⟩ : ∃ i9 j9, packS [] = (i9, j9) := ⟨_, _, rfl⟩
      rw [hij] at hP8
      have hB8 := hB7.trans (hb8.mono hB7.size)
      clear hb8 hij
      go_wp2_with fail
      refine hP8.mono ?_
      rintro e w9 ⟨rfl, hb9⟩
      have hB9 := hB8.trans (hb9.mono hB8.size)
      clear hb9
      go_wp2_with fail
      refine (hcut _).mono ?_
      rintro e w10 ⟨rfl, hb10⟩
      have hB10 := hB9.trans (hb10.mono hB9.size)
      clear hb10
      go_wp2_with fail
      refine (hB2 _).mono ?_
      rintro e w11 ⟨⟨v11, i11, rfl, (⟨h, _⟩ | ⟨_, rfl, rfl⟩)⟩, hb11⟩
      · cases h
      have hB11 := hB10.trans (hb11.mono hB10.size)
      clear hb11
      go_wp2_with fail
      go_ret
      exact ⟨rfl, hB11⟩

theorem backs_any (A : Option Addr) (l0 : List Ent) (len c : Nat) (hlen : l0.length = len) (hm : len ≤ 9223372036854775807) (hrg : Rng l0) (s : ByteArray) (w : World) (hr : Els w A l0) :
    Calls Try.prog 4 #[.slice A len c, .string s] w fun e w' => e = .returned (.bool true) ∧ Below w.heap.size w w' := by
  have hrl := few_rng hrg
  by_cases he : (packS (few l0)).2 = 0
  · exact backs_yes A l0 _ len c hlen hm rfl hrl (packS_fine hrl he) s w hr
  · have hpk : packS (few l0) = (⟨#[]⟩, (packS (few l0)).2) := by
      have := packS_fail he
      rw [← this]
    exact backs_no A l0 _ len c hlen hm rfl _ hpk (beq_eq_false_iff_ne.2 he) s w hr

end Go.Proofs.Ytcjjeookfnmjcaa
