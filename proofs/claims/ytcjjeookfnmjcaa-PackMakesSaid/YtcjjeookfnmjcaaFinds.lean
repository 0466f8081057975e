import Derived.Test.YtcjjeookfnmjcaaGrows
namespace Go.Proofs.Ytcjjeookfnmjcaa
open Go.RowKit Go.Proofs.YtcjjeookfnmjcaaW.PrintWords
set_option linter.unusedVariables false

theorem toList_ne {a b : ByteArray} (h : a ≠ b) : ¬ a.toList = b.toList := fun e => h (by rw [ByteArray.toList_eq, ByteArray.toList_eq] at e; exact Go.WideShapes.bytes_inj e)
theorem packS_fail {l : List Ent} (h : (packS l).2 ≠ 0) : (packS l).1 = ⟨#[]⟩ := by
  unfold packS at h ⊢
  split
  · rfl
  · split
    · rfl
    · rename_i h1 h2
      rw [if_neg h1, if_neg h2] at h
      exact absurd rfl h
theorem ok_empty : ok ⟨#[]⟩ = false := by kernel_rfl

set_option maxHeartbeats 1000000 in
theorem refFind_any (A : Option Addr) (l : List Ent) (len c : Nat) (hlen : l.length = len) (hm : len ≤ 9223372036854775807) (m : ByteArray) (w : World) (hr : Els w A l) :
    Calls Try.prog 21 #[.slice A len c, .string m] w fun e w' => e = .returned (.int .i64 (findL l m)) ∧ Below w.heap.size w w' := by
  have HR := Lib.hid hr
  have HL := Lib.hid hlen
  clear hr hlen
  obtain ⟨r, hrr⟩ : ∃ r, findL l m = r := ⟨_, rfl⟩
  rw [hrr]
  have HRR := Lib.hid hrr
  clear hrr
  go_enter Try.func21, Try.ntmps21
  go_wp2_with fail
  go_loopw [5] (fun i wr => ∃ k : Nat, k ≤ len ∧ i = .int .i64 k ∧ findFrom (l.drop k) m k = r ∧ w = wr) (fun i _ => len - (intOf i).toNat)
  case atStart => exact ⟨0, by omega, rfl, HRR.out, rfl⟩
  case round =>
    obtain ⟨k, hk, rfl, hfk, rfl⟩ := hrel
    by_cases hlt : k < len
    · have hkl : k < l.length := by rw [HL.out]; exact hlt
      obtain ⟨b, o, rfl, hc0, hc1⟩ := HR.out k hkl
      rw [List.drop_eq_getElem_cons hkl, findFrom] at hfk
      obtain ⟨x, hx⟩ : ∃ x, l[k]'hkl = x := ⟨_, rfl⟩
      rw [hx] at hc0 hc1 hfk
      obtain ⟨ms, sc⟩ := x
      dsimp only at hc0 hc1 hfk
      clear hx
      by_cases hmm : ms = m
      · subst hmm
        rw [if_pos rfl] at hfk
        subst hfk
        go_wp2_with fail
        go_ret
        exact ⟨rfl, Below.refl _ _⟩
      · rw [if_neg hmm] at hfk
        have HFK := Lib.hid hfk
        have hne : (ms.toList == m.toList) = false := beq_eq_false_iff_ne.2 (toList_ne hmm)
        clear hfk
        go_wp2_with fail
        refine ⟨⟨k + 1, by omega, by go_num, by have := HFK.out; simpa using this, trivial⟩, by simp [intOf]; omega⟩
    · obtain rfl : k = len := by omega
      rw [List.drop_eq_nil_of_le (by rw [HL.out]; exact Nat.le_refl _)] at hfk
      have hr1 : r = -1 := hfk.symm
      subst hr1
      go_wp2_with fail
      go_ret
      exact ⟨rfl, Below.refl _ _⟩

set_option maxHeartbeats 2000000 in
theorem finds_any (A : Option Addr) (l0 : List Ent) (len c : Nat) (hlen : l0.length = len) (hm : len ≤ 9223372036854775807) (hrg : Rng l0) (m : ByteArray) (w : World) (hr : Els w A l0) :
    Calls Try.prog 5 #[.slice A len c, .string m] w fun e w' => e = .returned (.bool true) ∧ Below w.heap.size w w' := by
  have hF := fun w' (hb : Below w.heap.size w w') => few_any A l0 len c hlen hm w' (hr.later hb)
  obtain ⟨l, hl⟩ : ∃ l, few l0 = l := ⟨_, rfl⟩
  have hl210 := few_length l0
  have hrl := few_rng hrg
  rw [hl] at hl210 hrl
  simp only [hl] at hF
  have HRL := Lib.hid hrl
  clear hr hrg hl hrl
  go_enter Try.func5, Try.ntmps5
  go_wp2_with fail
  refine (shown_any _).mono ?_
  rintro e w1 ⟨rfl, hb1⟩
  go_wp2_with fail
  refine (hF _ hb1).mono ?_
  rintro e w2 ⟨v2, rfl, hO2, hb2⟩
  obtain ⟨A2, c2, rfl⟩ := own_slice hO2
  have hE2 := row_reads hO2 rfl
  have hB2 := hb1.trans (hb2.mono hb1.size)
  have hP := pack_any A2 l l.length c2 rfl w2 hE2
  have HE2 := Lib.hid hE2
  clear hF hO2 hb2 hb1 hE2
  by_cases he : (packS l).2 = 0
  · have hf := packS_fine HRL.out he
    rw [packS_ok hf] at hP
    obtain ⟨p, hp⟩ : ∃ p, strOfNums (packB l) = p := ⟨_, rfl⟩
    have hps := pack_size hf
    have hos := ok_str hf
    rw [hp] at hP hps hos
    have hFd := find_any p (by omega) m
    rw [show findS p m = findL l m by unfold findS; rw [hos.1, hos.2, if_neg (by simp)]] at hFd
    obtain ⟨r, hrr⟩ : ∃ r, findL l m = r := ⟨_, rfl⟩
    have HRR := Lib.hid hrr
    rw [hrr] at hFd
    clear hos hf he hp hrr
    go_wp2_with fail
    refine hP.mono ?_
    rintro e w3 ⟨rfl, hb3⟩
    have hB3 := hB2.trans (hb3.mono hB2.size)
    have hE3 := Lib.hid (HE2.out.later hb3)
    clear hb3
    go_wp2_with fail
    refine (hFd _).mono ?_
    rintro e w4 ⟨rfl, hb4⟩
    have hB4 := hB3.trans (hb4.mono hB3.size)
    have hRF := refFind_any A2 l l.length c2 rfl (by omega) m w4 (hE3.out.later hb4)
    rw [HRR.out] at hRF
    clear hb4
    go_wp2_with fail
    refine hRF.mono ?_
    rintro e w5 ⟨rfl, hb5⟩
    have hB5 := hB4.trans (hb5.mono hB4.size)
    clear hb5 hRF
    go_wp2_with fail
    go_ret
    exact ⟨rfl, hB5⟩
  · have hne : ((packS l).2 != 0) = true := bne_iff_ne.2 he
    rw [packS_fail he] at hP
    obtain ⟨er, her⟩ : ∃ er, (packS l).2 = er := ⟨_, rfl⟩
    rw [her] at hP hne
    have hFd := find_any ⟨#[]⟩ (by show 0 ≤ 1000000; omega) m
    rw [show findS ⟨#[]⟩ m = -1 by unfold findS; rw [if_pos ok_empty]] at hFd
    clear he her
    go_wp2_with fail
    refine hP.mono ?_
    rintro e w3 ⟨rfl, hb3⟩
    have hB3 := hB2.trans (hb3.mono hB2.size)
    clear hb3
    go_wp2_with fail
    refine (hFd _).mono ?_
    rintro e w4 ⟨rfl, hb4⟩
    have hB4 := hB3.trans (hb4.mono hB3.size)
    clear hb4
    go_wp2_with fail
    go_ret
    exact ⟨rfl, hB4⟩

end Go.Proofs.Ytcjjeookfnmjcaa
