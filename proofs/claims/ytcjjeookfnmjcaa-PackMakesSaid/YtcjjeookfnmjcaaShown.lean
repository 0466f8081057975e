import Derived.Test.YtcjjeookfnmjcaaFind
namespace Go.Proofs.Ytcjjeookfnmjcaa
open Go.RowKit Go.Proofs.YtcjjeookfnmjcaaW.PrintWords
set_option linter.unusedVariables false

def findS (p m : ByteArray) : Int := if ok p = false then -1 else findL (ents p) m
set_option maxHeartbeats 1000000 in
theorem find_any (p : ByteArray) (hp : p.size ≤ 1000000) (m : ByteArray) (w : World) :
    Calls Try.prog 20 #[.string p, .string m] w fun e w' => e = .returned (.int .i64 (findS p m)) ∧ Below w.heap.size w w' := by
  unfold findS
  by_cases hok : ok p = true
  · rw [if_neg (by rw [hok]; simp)]; exact find_ok p hp m hok w
  · replace hok : ok p = false := by simpa using hok
    rw [if_pos hok]
    have hrb := right_any p hp
    rw [hok] at hrb
    go_enter Try.func20, Try.ntmps20
    go_wp2_with fail
    go_step3
    go_wp2_with fail
    refine (hrb _).mono ?_
    rintro e w1 ⟨rfl, hb1⟩
    go_wp2_with fail
    rw [Exit.noGoto_ret]
    go_ret
    exact ⟨rfl, ((Below.refl w.heap.size w).alloc (Nat.le_refl _) _).trans (hb1.mono (by simp))⟩

def cutS (s : ByteArray) : ByteArray := s.extract 0 (min s.size 3000)
theorem cutS_size (s : ByteArray) : (cutS s).size ≤ 3000 := by unfold cutS; rw [ByteArray.size_extract]; omega
set_option maxHeartbeats 400000 in
theorem cut_any (s : ByteArray) (w : World) :
    Calls Try.prog 15 #[.string s] w fun e w' => e = .returned (.string (cutS s)) ∧ Below w.heap.size w w' := by
  obtain ⟨r, hr⟩ : ∃ r, cutS s = r := ⟨_, rfl⟩
  rw [hr]
  by_cases h : s.size ≤ 3000
  · have hm : min s.size 3000 = s.size := by omega
    unfold cutS at hr
    rw [hm] at hr
    have hmi : min (s.size : Int) 3000 = s.size := by omega
    go_enter Try.func15, Try.ntmps15
    go_wp2_with fail
    go_ret
    exact ⟨rfl, Below.refl _ _⟩
  · have hm : min s.size 3000 = 3000 := by omega
    unfold cutS at hr
    rw [hm] at hr
    have hmi : min (s.size : Int) 3000 = 3000 := by omega
    go_enter Try.func15, Try.ntmps15
    go_wp2_with fail
    go_ret
    exact ⟨rfl, Below.refl _ _⟩

def shP : ByteArray := ⟨#[0, 1, 1, 97, 0, 0, 0, 0, 0, 0, 1, 2, 10]⟩
theorem shown_pack : packS [(⟨#[97]⟩, 258)] = (shP, 0) := by kernel_rfl
theorem shown_bad : ok ⟨#[0, 1]⟩ = false := by kernel_rfl
theorem new_is : strOfNums (packB []) = ⟨#[0, 0]⟩ := by kernel_rfl

set_option maxHeartbeats 1000000 in
theorem shown_any (w : World) : Calls Try.prog 10 #[] w fun e w' => e = .returned (.bool true) ∧ Below w.heap.size w w' := by
  have hE := entries_any ⟨#[0, 1]⟩ (by show 2 ≤ 1000000; omega)
  have hk : okB (bytesOf ⟨#[0, 1]⟩) = false := shown_bad
  rw [hk] at hE
  have hN := new_any
  rw [new_is] at hN
  have HB := Lib.hid ((Below.refl w.heap.size w).alloc (Nat.le_refl _) (.cells #[.string ⟨#[97]⟩, .int .i64 258] 35))
  have hels : Els (w.alloc (.cells #[.string ⟨#[97]⟩, .int .i64 258] 35)) (some ⟨w.heap.size, 0, none⟩) [(⟨#[97]⟩, 258)] := by
    intro i hi
    obtain rfl : i = 0 := by simpa using hi
    have hb := Box4.new w 35 [.string ⟨#[97]⟩, .int .i64 258]
    exact ⟨_, _, rfl, hb.cell 0 (by simp), hb.cell 1 (by simp)⟩
  have hP := pack_any (some ⟨w.heap.size, 0, none⟩) [(⟨#[97]⟩, 258)] 1 1 rfl _ hels
  rw [shown_pack] at hP
  unfold shP at hP
  clear hels
  go_enter Try.func10, Try.ntmps10
  go_wp2_with fail
  refine hP.mono ?_
  rintro e w1 ⟨rfl, hb1⟩
  have hB1 := HB.out.trans (hb1.mono (by simp))
  go_wp2_with fail
  refine (hE _).mono ?_
  rintro e w2 ⟨⟨v, i, rfl, (⟨h, _⟩ | ⟨_, rfl, rfl⟩)⟩, hb2⟩
  · cases h
  · have hB2 := hB1.trans (hb2.mono hB1.size)
    go_wp2_with fail
    refine (hN _).mono ?_
    rintro e w3 ⟨rfl, hb3⟩
    go_wp2_with fail
    go_ret
    exact ⟨rfl, hB2.trans (hb3.mono hB2.size)⟩

end Go.Proofs.Ytcjjeookfnmjcaa
