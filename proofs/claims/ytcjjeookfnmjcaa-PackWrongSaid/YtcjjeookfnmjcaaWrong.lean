import Derived.Test.YtcjjeookfnmjcaaShown
namespace Go.Proofs.Ytcjjeookfnmjcaa
open Go.RowKit Go.Proofs.YtcjjeookfnmjcaaW.PrintWords
set_option linter.unusedVariables false

set_option maxHeartbeats 2000000 in
theorem wrong_any (s : ByteArray) (i : Int) (m : ByteArray) (sc : Int) (w : World) :
    Calls Try.prog 9 #[.string s, .int .i64 i, .agg #[.string m, .int .i64 sc]] w fun e w' => e = .returned (.bool true) ∧ Below w.heap.size w w' := by
  obtain ⟨p, hp⟩ : ∃ p, cutS s = p := ⟨_, rfl⟩
  have hcs := cutS_size s
  have hcut := cut_any s
  rw [hp] at hcs hcut
  have hR := right_any p (by omega)
  have HB := Lib.hid ((Below.refl w.heap.size w).alloc (Nat.le_refl _) (.cells #[.string m, .int .i64 sc] 35))
  by_cases hok : ok p = true
  · have hsz : 2 ≤ p.size := by have := okLen hok; omega
    rw [hok] at hR
    clear hp hok
    go_enter Try.func9, Try.ntmps9
    go_wp2_with fail
    refine (shown_any _).mono ?_
    rintro e w1 ⟨rfl, hb1⟩
    have hB1 := HB.out.trans (hb1.mono (by simp))
    clear hb1
    go_wp2_with fail
    refine (hcut _).mono ?_
    rintro e w2 ⟨rfl, hb2⟩
    have hB2 := hB1.trans (hb2.mono hB1.size)
    clear hb2 hB1
    go_wp2_with fail
    refine (hR _).mono ?_
    rintro e w3 ⟨rfl, hb3⟩
    have hB3 := hB2.trans (hb3.mono hB2.size)
    clear hb3 hB2
    go_wp2_with fail
    go_ret
    exact ⟨by rw [← decide_eq_true (show (2 : Int) ≤ (p.size : Int) by omega)]; rfl, hB3⟩
  · replace hok : ok p = false := by simpa using hok
    have hG := get_any p (by omega) i
    have hI := insert_any p (by omega) i m sc
    have hD := delete_any p (by omega) i
    have hE := entries_any p (by omega)
    have hK := back_any p (by omega)
    have hF := find_any p (by omega) m
    have hkk : okB (bytesOf p) = false := hok
    rw [show getS p i = (zE, 50) by unfold getS spotAtS; rw [if_pos hok]; rfl] at hG
    rw [show insS p i (m, sc) = (⟨#[]⟩, 50) by unfold insS; rw [if_pos hok]] at hI
    rw [show delS p i = (⟨#[]⟩, 50) by unfold delS; rw [if_pos hok]] at hD
    rw [show findS p m = -1 by unfold findS; rw [if_pos hok]] at hF
    rw [hkk] at hE
    rw [hok] at hK hR
    dsimp only [zE] at hG
    clear hp hok hkk
    go_enter Try.func9, Try.ntmps9
    go_wp2_with fail
    refine (shown_any _).mono ?_
    rintro e w1 ⟨rfl, hb1⟩
    have hB1 := HB.out.trans (hb1.mono (by simp))
    have hx1 : Box4 w1 w.heap.size 35 [.string m, .int .i64 sc] := (hb1.block _ (by simp)).trans (Box4.new w 35 _)
    clear hb1
    go_wp2_with fail
    refine (hcut _).mono ?_
    rintro e w2 ⟨rfl, hb2⟩
    have hB2 := hB1.trans (hb2.mono hB1.size)
    have hx2 : Box4 w2 w.heap.size 35 [.string m, .int .i64 sc] := (hb2.block _ hx1.lt).trans hx1
    clear hb2 hB1 hx1
    go_wp2_with fail
    refine (hR _).mono ?_
    rintro e w3 ⟨rfl, hb3⟩
    have hB3 := hB2.trans (hb3.mono hB2.size)
    have hx3 : Box4 w3 w.heap.size 35 [.string m, .int .i64 sc] := (hb3.block _ hx2.lt).trans hx2
    clear hb3 hB2 hx2
    go_wp2_with fail
    refine (hG _).mono ?_
    rintro e w4 ⟨rfl, hb4⟩
    have hB4 := (hB3.trans (hb4.mono hB3.size)).alloc (Nat.le_trans hB3.size hb4.size) (.cells #[.string ⟨#[]⟩, .int .i64 0] 35)
    have hx4 : Box4 (w4.alloc (.cells #[.string ⟨#[]⟩, .int .i64 0] 35)) w.heap.size 35 [.string m, .int .i64 sc] := Box4.alloc ((hb4.block _ hx3.lt).trans hx3) _
    have c0 := hx4.cell 0 (by simp)
    have c1 := hx4.cell 1 (by simp)
    simp only [List.getElem_cons_zero, List.getElem_cons_succ] at c0 c1
    have hlt4 : w.heap.size < w4.heap.size := Nat.lt_of_lt_of_le hx3.lt hb4.size
    have c0' := World.cell?_of_block (a := ⟨w.heap.size, 0, none⟩) (Below.heap_alloc w4 (.cells #[.string ⟨#[]⟩, .int .i64 0] 35) w.heap.size hlt4)
    have c1' := World.cell?_of_block (a := ⟨w.heap.size, 1, none⟩) (Below.heap_alloc w4 (.cells #[.string ⟨#[]⟩, .int .i64 0] 35) w.heap.size hlt4)
    rw [c0] at c0'
    rw [c1] at c1'
    replace c0' := c0'.symm
    replace c1' := c1'.symm
    clear hb4 hB3 hx3
    go_wp2_with fail
    refine (hI _).mono ?_
    rintro e w5 ⟨rfl, hb5⟩
    have hB5 := hB4.trans (hb5.mono hB4.size)
    have hx5 : Box4 w5 w.heap.size 35 [.string m, .int .i64 sc] := (hb5.block _ hx4.lt).trans hx4
    clear hb5 hB4 hx4 c0 c1 c0' c1'
    go_wp2_with fail
    refine (hD _).mono ?_
    rintro e w6 ⟨rfl, hb6⟩
    have hB6 := hB5.trans (hb6.mono hB5.size)
    have hx6 : Box4 w6 w.heap.size 35 [.string m, .int .i64 sc] := (hb6.block _ hx5.lt).trans hx5
    clear hb6 hB5 hx5
    go_wp2_with fail
    refine (hE _).mono ?_
    rintro e w7 ⟨⟨v, ie, rfl, (⟨h, _⟩ | ⟨_, rfl, rfl⟩)⟩, hb7⟩
    · cases h
    have hB7 := hB6.trans (hb7.mono hB6.size)
    have hx7 : Box4 w7 w.heap.size 35 [.string m, .int .i64 sc] := (hb7.block _ hx6.lt).trans hx6
    clear hb7 hB6 hx6
    go_wp2_with fail
    refine (hK _).mono ?_
    rintro e w8 ⟨⟨v, ie, rfl, (⟨h, _⟩ | ⟨_, rfl, rfl⟩)⟩, hb8⟩
    · cases h
    have hB8 := hB7.trans (hb8.mono hB7.size)
    have hx8 : Box4 w8 w.heap.size 35 [.string m, .int .i64 sc] := (hb8.block _ hx7.lt).trans hx7
    have c0 := hx8.cell 0 (by simp)
    have c1 := hx8.cell 1 (by simp)
    simp only [List.getElem_cons_zero, List.getElem_cons_succ] at c0 c1
    clear hb8 hB7 hx7
    go_wp2_with fail
    refine (hF _).mono ?_
    rintro e w9 ⟨rfl, hb9⟩
    have hB9 := hB8.trans (hb9.mono hB8.size)
    clear hb9 hB8 hx8 c0 c1
    go_wp2_with fail
    go_ret
    exact ⟨rfl, hB9⟩

end Go.Proofs.Ytcjjeookfnmjcaa
