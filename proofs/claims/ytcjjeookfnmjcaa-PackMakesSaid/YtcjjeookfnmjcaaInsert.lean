import Derived.Test.YtcjjeookfnmjcaaDelete
namespace Go.Proofs.Ytcjjeookfnmjcaa
open Go.RowKit Go.Proofs.YtcjjeookfnmjcaaW.PrintWords
set_option linter.unusedVariables false

def insS (p : ByteArray) (i : Int) (x : Ent) : ByteArray × Int :=
  if ok p = false then (⟨#[]⟩, 50) else if (ents p).length = 200 then (⟨#[]⟩, 51) else if i < 0 ∨ ((ents p).length : Int) < i ∨ 64 < x.1.size then (⟨#[]⟩, 2) else (strOfNums (packB (insAt (ents p) i.toNat x)), 0)

theorem changed_is (p : ByteArray) (hp : p.size ≤ 1000000) (n : Nat) (hn : n ≤ 65535) (f t : Nat) (hf : 2 ≤ f) (hf2 : f ≤ p.size) (ht : t ≤ p.size) (l : Value) (zs : List Int) (hzs : zs.length ≤ 1000) (w : World) (hl : Rd w l zs) (res : ByteArray) (hres : changedS p n f t zs = res) :
    Calls Try.prog 34 #[.string p, .int .i64 n, .int .i64 f, .int .i64 t, l] w fun e w' => e = .returned (.string res) ∧ Below w.heap.size w w' := by
  rw [← hres]; exact changed_any p hp n hn f t hf hf2 ht l zs hzs w hl

set_option maxHeartbeats 1000000 in
theorem insert_any (p : ByteArray) (hp : p.size ≤ 1000000) (i : Int) (m : ByteArray) (sc : Int) (w : World) :
    Calls Try.prog 23 #[.string p, .int .i64 i, .agg #[.string m, .int .i64 sc]] w fun e w' => e = .returned (.tuple #[.string (insS p i (m, sc)).1, .int .i64 (insS p i (m, sc)).2]) ∧ Below w.heap.size w w' := by
  have hall := all_any p hp
  unfold AllPost at hall
  have hk : okB (bytesOf p) = ok p := rfl
  rw [hk] at hall
  obtain ⟨s, hs⟩ : ∃ s, insS p i (m, sc) = s := ⟨_, rfl⟩
  rw [hs]
  have HS := Lib.hid hs
  have HB := Lib.hid ((Below.refl w.heap.size w).alloc (Nat.le_refl _) (.cells #[.string m, .int .i64 sc] 35))
  clear hs hk
  go_enter Try.func23, Try.ntmps23
  go_wp2_with fail
  refine (hall _).mono ?_
  rintro e w1 ⟨⟨v, ie, rfl, h⟩, hb1⟩
  have hz1 := hb1.size
  rw [World.size_alloc] at hz1
  have hbx : Box4 w1 w.heap.size 35 [.string m, .int .i64 sc] := (hb1.block _ (by simp)).trans (Box4.new w 35 _)
  have hc0 := hbx.cell 0 (by simp)
  have hc1 := hbx.cell 1 (by simp)
  simp only [List.getElem_cons_zero, List.getElem_cons_succ] at hc0 hc1
  have HB1 := Lib.hid (HB.out.trans (hb1.mono (by simp)))
  clear hbx hb1
  rcases h with ⟨hok, rfl, hrow⟩ | ⟨hok, rfl, rfl⟩
  · have hlen := ents_spots p
    obtain ⟨hf, hb, hsp⟩ := ok_spec hok
    have hz := okLen hok
    have hg := fun k h => spotsOf_get (ents p) 2 k h
    have hu := upTo_le (ents p)
    have hip := ins_pack p (ents p) hb
    have hl200 := hf.1
    rw [hlen] at hrow
    unfold insS at HS
    obtain ⟨l, hl⟩ : ∃ l, ents p = l := ⟨_, rfl⟩
    obtain ⟨sp, hspn⟩ : ∃ sp, spots (bytesOf p) = sp := ⟨_, rfl⟩
    rw [hl] at hsp hlen hrow HS hg hu hip hz hl200
    rw [hspn] at hsp hlen hrow
    have hK := Lib.hid (show s = _ from HS.out.symm)
    rw [if_neg (by rw [hok]; simp)] at hK
    obtain ⟨A, c, rfl⟩ := own_slice hrow
    have HR := Lib.hid hrow
    have HG := Lib.hid hg
    have HU := Lib.hid hu
    have HIP := Lib.hid hip
    have HZ := Lib.hid hz
    have HSP := Lib.hid hsp
    have HLN := Lib.hid hlen
    clear hall HS hok hf hb hsp hz hg hu hip hlen hl hspn hrow
    by_cases h200 : l.length = 200
    · rw [if_pos h200] at hK
      have hq : ((l.length : Int) == 200) = true := beq_iff_eq.2 (by omega)
      go_wp2_with fail
      go_ret2
      exact ⟨by rw [hK.out]; rfl, HB1.out⟩
    · rw [if_neg h200] at hK
      have hq : ((l.length : Int) == 200) = false := beq_eq_false_iff_ne.2 (by omega)
      by_cases hbad : i < 0 ∨ (l.length : Int) < i ∨ 64 < m.size
      · rw [if_pos hbad] at hK
        by_cases h0 : i < 0
        · go_wp2_with fail
          go_ret2
          exact ⟨by rw [hK.out]; rfl, HB1.out⟩
        · by_cases h1 : (l.length : Int) < i
          · go_wp2_with fail
            go_ret2
            exact ⟨by rw [hK.out]; rfl, HB1.out⟩
          · have h2 : 64 < m.size := by omega
            go_wp2_with fail
            go_ret2
            exact ⟨by rw [hK.out]; rfl, HB1.out⟩
      · rw [if_neg hbad] at hK
        obtain ⟨k, rfl⟩ : ∃ k : Nat, i = k := ⟨i.toNat, by omega⟩
        rw [Int.toNat_natCast] at hK
        have hk : k ≤ l.length := by omega
        have hm : m.size ≤ 64 := by omega
        have hpl : 2 + upTo l k ≤ p.size := by rw [HZ.out]; have := HU.out k; omega
        clear hbad
        by_cases hlt : k < l.length
        · have hkl : k < sp.length := by rw [HLN.out]; exact hlt
          obtain ⟨g, cap, hvv⟩ := own_at HR.out (by omega)
          cases hvv
          obtain ⟨x, hx, d0, d1, d2, d3⟩ := spot_at HR.out k hkl (Below.refl w1.heap.size w1) (HR.out.lt g rfl).2
          have hxf : x.2.1 = 2 + upTo l k := by
            have := HG.out k hlt
            rw [← HSP.out, List.getElem?_eq_getElem hkl, hx] at this
            cases this; rfl
          rw [hxf] at d2
          clear hx d3 hxf
          go_wp2_with fail
          refine (entry_any m sc hm _).mono ?_
          rintro e w5 ⟨g5, rfl, hr5, hg5, hb5⟩
          have hrd := rd_row hr5 (m.size + 10) (by rw [entB_length])
          have hB5 := HB1.out.trans (hb5.mono (by omega))
          clear hr5
          go_wp2_with fail
          rw [show (l.length : Int) + 1 = ((l.length + 1 : Nat) : Int) by omega]
          obtain ⟨res, hres⟩ : ∃ res, changedS p (l.length + 1) (2 + upTo l k) (2 + upTo l k) (entB (m, sc)) = res := ⟨_, rfl⟩
          have hRES := Lib.hid ((HIP.out k hk (m, sc)).symm.trans hres)
          refine (changed_is p hp (l.length + 1) (by omega) (2 + upTo l k) (2 + upTo l k) (by omega) (by omega) (by omega) _ (entB (m, sc)) (by rw [entB_length]; dsimp only; omega) _ hrd res hres).mono ?_
          clear hres
          rintro e w6 ⟨rfl, hb6⟩
          go_wp2_with fail
          go_ret2
          exact ⟨by rw [hK.out, hRES.out]; rfl, hB5.trans (hb6.mono hB5.size)⟩
        · obtain rfl : k = l.length := by omega
          have hps : Hid ((p.size : Int) = ((2 + upTo l l.length : Nat) : Int)) := Lib.hid (by rw [HZ.out, upTo, List.take_of_length_le (Nat.le_refl _)])
          go_wp2_with fail
          refine (entry_any m sc hm _).mono ?_
          rintro e w5 ⟨g5, rfl, hr5, hg5, hb5⟩
          have hrd := rd_row hr5 (m.size + 10) (by rw [entB_length])
          have hB5 := HB1.out.trans (hb5.mono (by omega))
          clear hr5
          go_wp2_with fail
          rw [show (l.length : Int) + 1 = ((l.length + 1 : Nat) : Int) by omega]
          rw [hps.out]
          obtain ⟨res, hres⟩ : ∃ res, changedS p (l.length + 1) (2 + upTo l l.length) (2 + upTo l l.length) (entB (m, sc)) = res := ⟨_, rfl⟩
          have hRES := Lib.hid ((HIP.out l.length hk (m, sc)).symm.trans hres)
          refine (changed_is p hp (l.length + 1) (by omega) (2 + upTo l l.length) (2 + upTo l l.length) (by omega) (by omega) (by omega) _ (entB (m, sc)) (by rw [entB_length]; dsimp only; omega) _ hrd res hres).mono ?_
          clear hres
          rintro e w6 ⟨rfl, hb6⟩
          go_wp2_with fail
          go_ret2
          exact ⟨by rw [hK.out, hRES.out]; rfl, hB5.trans (hb6.mono hB5.size)⟩
  · have hK := Lib.hid (show s = (⟨#[]⟩, 50) by rw [← HS.out]; unfold insS; rw [if_pos hok])
    clear HS hok hall
    go_wp2_with fail
    go_ret2
    exact ⟨by rw [hK.out]; rfl, HB1.out⟩

end Go.Proofs.Ytcjjeookfnmjcaa
