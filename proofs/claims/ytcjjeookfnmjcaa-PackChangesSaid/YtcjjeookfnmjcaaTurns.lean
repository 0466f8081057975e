import Derived.Test.YtcjjeookfnmjcaaFinds
namespace Go.Proofs.Ytcjjeookfnmjcaa
open Go.RowKit Go.Proofs.YtcjjeookfnmjcaaW.PrintWords
set_option linter.unusedVariables false

theorem box2 {w w' : World} {m : ByteArray} {sc : Int} {B : Nat} (h : Box4 w B 35 [.string m, .int .i64 sc]) : w.cell? ⟨B, 0, none⟩ = some (.string m) ∧ w.cell? ⟨B, 1, none⟩ = some (.int .i64 sc) := ⟨h.cell 0 (by simp), h.cell 1 (by simp)⟩

set_option maxHeartbeats 2000000 in
theorem turns_A1 (A : Option Addr) (l0 l : List Ent) (len c0 : Nat) (hlen : l0.length = len) (hm : len ≤ 9223372036854775807) (hl : few l0 = l) (i : Int) (m : ByteArray) (sc : Int) (p a c ym : ByteArray) (ys : Int)
    (hP : packS l = (p, 0)) (hI1 : ∀ w, Calls Try.prog 23 #[.string p, .int .i64 i, .agg #[.string m, .int .i64 sc]] w fun e' w' => e' = .returned (.tuple #[.string a, .int .i64 0]) ∧ Below w.heap.size w w')
    (hD1 : ∀ w, Calls Try.prog 24 #[.string a, .int .i64 i] w fun e' w' => e' = .returned (.tuple #[.string p, .int .i64 0]) ∧ Below w.heap.size w w')
    (hG : ∀ w, Calls Try.prog 25 #[.string p, .int .i64 i] w fun e' w' => e' = .returned (.tuple #[.agg #[.string ym, .int .i64 ys], .int .i64 0]) ∧ Below w.heap.size w w')
    (hD2 : ∀ w, Calls Try.prog 24 #[.string p, .int .i64 i] w fun e' w' => e' = .returned (.tuple #[.string c, .int .i64 0]) ∧ Below w.heap.size w w')
    (hI2 : ∀ w, Calls Try.prog 23 #[.string c, .int .i64 i, .agg #[.string ym, .int .i64 ys]] w fun e' w' => e' = .returned (.tuple #[.string p, .int .i64 0]) ∧ Below w.heap.size w w')
    (w : World) (hr : Els w A l0) :
    Calls Try.prog 8 #[.slice A len c0, .int .i64 i, .agg #[.string m, .int .i64 sc]] w fun e w' => e = .returned (.bool true) ∧ Below w.heap.size w w' := by
  have HB := Lib.hid ((Below.refl w.heap.size w).alloc (Nat.le_refl _) (.cells #[.string m, .int .i64 sc] 35))
  have hF := fun w' (hb : Below w.heap.size w w') => few_any A l0 len c0 hlen hm w' (hr.later hb)
  simp only [hl] at hF
  clear hr hl hlen
  go_enter Try.func8, Try.ntmps8
  go_wp2_with fail
  refine (shown_any _).mono ?_
  rintro e w1 ⟨rfl, hb1⟩
  have hB1 := HB.out.trans (hb1.mono (by simp))
  have hx1 : Box4 w1 w.heap.size 35 [.string m, .int .i64 sc] := (hb1.block _ (by simp)).trans (Box4.new w 35 _)
  clear hb1
  go_wp2_with fail
  refine (hF _ hB1).mono ?_
  rintro e w2 ⟨v2, rfl, hO2, hb2⟩
  obtain ⟨A2, c2, rfl⟩ := own_slice hO2
  have hE2 := row_reads hO2 rfl
  have hB2 := hB1.trans (hb2.mono hB1.size)
  have hx2 : Box4 w2 w.heap.size 35 [.string m, .int .i64 sc] := (hb2.block _ hx1.lt).trans hx1
  have hPk := pack_any A2 l l.length c2 rfl w2 hE2
  rw [hP] at hPk
  clear hF hO2 hb2 hB1 hE2 hx1 hP
  go_wp2_with fail
  refine hPk.mono ?_
  rintro e w3 ⟨rfl, hb3⟩
  have hB3 := hB2.trans (hb3.mono hB2.size)
  have hx3 : Box4 w3 w.heap.size 35 [.string m, .int .i64 sc] := (hb3.block _ hx2.lt).trans hx2
  obtain ⟨k0, k1⟩ := box2 (w' := w3) hx3
  clear hb3 hB2 hx2 hPk
  go_wp2_with fail
  refine (hI1 _).mono ?_
  rintro e w4 ⟨rfl, hb4⟩
  have hB4 := hB3.trans (hb4.mono hB3.size)
  clear hb4 hB3 hx3 k0 k1
  go_wp2_with fail
  refine (hD1 _).mono ?_
  rintro e w5 ⟨rfl, hb5⟩
  have hB5 := hB4.trans (hb5.mono hB4.size)
  clear hb5 hB4
  go_wp2_with fail
  refine (hG _).mono ?_
  rintro e w6 ⟨rfl, hb6⟩
  have hB6 := hB5.trans (hb6.mono hB5.size)
  have hB6' := Lib.hid (hB6.alloc hB6.size (.cells #[.string ym, .int .i64 ys] 35))
  have hx6 := Box4.new w6 35 [.string ym, .int .i64 ys]
  clear hb6 hB5 hB6
  go_wp2_with fail
  refine (hD2 _).mono ?_
  rintro e w7 ⟨rfl, hb7⟩
  have hB7 := hB6'.out.trans (hb7.mono hB6'.out.size)
  have hx7 : Box4 w7 w6.heap.size 35 [.string ym, .int .i64 ys] := (hb7.block _ hx6.lt).trans hx6
  obtain ⟨k0, k1⟩ := box2 (w' := w7) hx7
  clear hb7 hB6' hx6 hx7
  go_wp2_with fail
  refine (hI2 _).mono ?_
  rintro e w8 ⟨rfl, hb8⟩
  have hB8 := hB7.trans (hb8.mono hB7.size)
  clear hb8 hB7 k0 k1
  go_wp2_with fail
  go_ret
  exact ⟨rfl, hB8⟩

set_option maxHeartbeats 2000000 in
theorem turns_A2 (A : Option Addr) (l0 l : List Ent) (len c0 : Nat) (hlen : l0.length = len) (hm : len ≤ 9223372036854775807) (hl : few l0 = l) (i : Int) (m : ByteArray) (sc : Int) (p a c ym : ByteArray) (ys : Int) (h : Int) (hh : (h == 0) = false) (hh2 : (h != 0) = true) (d : ByteArray) (j : Int)
    (hP : packS l = (p, 0)) (hI1 : ∀ w, Calls Try.prog 23 #[.string p, .int .i64 i, .agg #[.string m, .int .i64 sc]] w fun e' w' => e' = .returned (.tuple #[.string a, .int .i64 0]) ∧ Below w.heap.size w w')
    (hD1 : ∀ w, Calls Try.prog 24 #[.string a, .int .i64 i] w fun e' w' => e' = .returned (.tuple #[.string p, .int .i64 0]) ∧ Below w.heap.size w w')
    (hG : ∀ w, Calls Try.prog 25 #[.string p, .int .i64 i] w fun e' w' => e' = .returned (.tuple #[.agg #[.string ym, .int .i64 ys], .int .i64 h]) ∧ Below w.heap.size w w')
    (hD2 : ∀ w, Calls Try.prog 24 #[.string p, .int .i64 i] w fun e' w' => e' = .returned (.tuple #[.string c, .int .i64 h]) ∧ Below w.heap.size w w')
    (hI2 : ∀ w, Calls Try.prog 23 #[.string c, .int .i64 i, .agg #[.string ym, .int .i64 ys]] w fun e' w' => e' = .returned (.tuple #[.string d, .int .i64 j]) ∧ Below w.heap.size w w')
    (w : World) (hr : Els w A l0) :
    Calls Try.prog 8 #[.slice A len c0, .int .i64 i, .agg #[.string m, .int .i64 sc]] w fun e w' => e = .returned (.bool true) ∧ Below w.heap.size w w' := by
  have HB := Lib.hid ((Below.refl w.heap.size w).alloc (Nat.le_refl _) (.cells #[.string m, .int .i64 sc] 35))
  have hF := fun w' (hb : Below w.heap.size w w') => few_any A l0 len c0 hlen hm w' (hr.later hb)
  simp only [hl] at hF
  clear hr hl hlen
  go_enter Try.func8, Try.ntmps8
  go_wp2_with fail
  refine (shown_any _).mono ?_
  rintro e w1 ⟨rfl, hb1⟩
  have hB1 := HB.out.trans (hb1.mono (by simp))
  have hx1 : Box4 w1 w.heap.size 35 [.string m, .int .i64 sc] := (hb1.block _ (by simp)).trans (Box4.new w 35 _)
  clear hb1
  go_wp2_with fail
  refine (hF _ hB1).mono ?_
  rintro e w2 ⟨v2, rfl, hO2, hb2⟩
  obtain ⟨A2, c2, rfl⟩ := own_slice hO2
  have hE2 := row_reads hO2 rfl
  have hB2 := hB1.trans (hb2.mono hB1.size)
  have hx2 : Box4 w2 w.heap.size 35 [.string m, .int .i64 sc] := (hb2.block _ hx1.lt).trans hx1
  have hPk := pack_any A2 l l.length c2 rfl w2 hE2
  rw [hP] at hPk
  clear hF hO2 hb2 hB1 hE2 hx1 hP
  go_wp2_with fail
  refine hPk.mono ?_
  rintro e w3 ⟨rfl, hb3⟩
  have hB3 := hB2.trans (hb3.mono hB2.size)
  have hx3 : Box4 w3 w.heap.size 35 [.string m, .int .i64 sc] := (hb3.block _ hx2.lt).trans hx2
  obtain ⟨k0, k1⟩ := box2 (w' := w3) hx3
  clear hb3 hB2 hx2 hPk
  go_wp2_with fail
  refine (hI1 _).mono ?_
  rintro e w4 ⟨rfl, hb4⟩
  have hB4 := hB3.trans (hb4.mono hB3.size)
  clear hb4 hB3 hx3 k0 k1
  go_wp2_with fail
  refine (hD1 _).mono ?_
  rintro e w5 ⟨rfl, hb5⟩
  have hB5 := hB4.trans (hb5.mono hB4.size)
  clear hb5 hB4
  go_wp2_with fail
  refine (hG _).mono ?_
  rintro e w6 ⟨rfl, hb6⟩
  have hB6 := hB5.trans (hb6.mono hB5.size)
  have hB6' := Lib.hid (hB6.alloc hB6.size (.cells #[.string ym, .int .i64 ys] 35))
  have hx6 := Box4.new w6 35 [.string ym, .int .i64 ys]
  clear hb6 hB5 hB6
  go_wp2_with fail
  refine (hD2 _).mono ?_
  rintro e w7 ⟨rfl, hb7⟩
  have hB7 := hB6'.out.trans (hb7.mono hB6'.out.size)
  have hx7 : Box4 w7 w6.heap.size 35 [.string ym, .int .i64 ys] := (hb7.block _ hx6.lt).trans hx6
  obtain ⟨k0, k1⟩ := box2 (w' := w7) hx7
  clear hb7 hB6' hx6 hx7
  go_wp2_with fail
  refine (hI2 _).mono ?_
  rintro e w8 ⟨rfl, hb8⟩
  have hB8 := hB7.trans (hb8.mono hB7.size)
  clear hb8 hB7 k0 k1
  go_wp2_with fail
  go_ret
  exact ⟨rfl, hB8⟩

set_option maxHeartbeats 2000000 in
theorem turns_B1 (A : Option Addr) (l0 l : List Ent) (len c0 : Nat) (hlen : l0.length = len) (hm : len ≤ 9223372036854775807) (hl : few l0 = l) (i : Int) (m : ByteArray) (sc : Int) (p a c ym : ByteArray) (ys : Int) (f : Int) (hf : (f == 0) = false) (b : ByteArray) (g : Int)
    (hP : packS l = (p, 0)) (hI1 : ∀ w, Calls Try.prog 23 #[.string p, .int .i64 i, .agg #[.string m, .int .i64 sc]] w fun e' w' => e' = .returned (.tuple #[.string a, .int .i64 f]) ∧ Below w.heap.size w w')
    (hD1 : ∀ w, Calls Try.prog 24 #[.string a, .int .i64 i] w fun e' w' => e' = .returned (.tuple #[.string b, .int .i64 g]) ∧ Below w.heap.size w w')
    (hG : ∀ w, Calls Try.prog 25 #[.string p, .int .i64 i] w fun e' w' => e' = .returned (.tuple #[.agg #[.string ym, .int .i64 ys], .int .i64 0]) ∧ Below w.heap.size w w')
    (hD2 : ∀ w, Calls Try.prog 24 #[.string p, .int .i64 i] w fun e' w' => e' = .returned (.tuple #[.string c, .int .i64 0]) ∧ Below w.heap.size w w')
    (hI2 : ∀ w, Calls Try.prog 23 #[.string c, .int .i64 i, .agg #[.string ym, .int .i64 ys]] w fun e' w' => e' = .returned (.tuple #[.string p, .int .i64 0]) ∧ Below w.heap.size w w')
    (w : World) (hr : Els w A l0) :
    Calls Try.prog 8 #[.slice A len c0, .int .i64 i, .agg #[.string m, .int .i64 sc]] w fun e w' => e = .returned (.bool true) ∧ Below w.heap.size w w' := by
  have HB := Lib.hid ((Below.refl w.heap.size w).alloc (Nat.le_refl _) (.cells #[.string m, .int .i64 sc] 35))
  have hF := fun w' (hb : Below w.heap.size w w') => few_any A l0 len c0 hlen hm w' (hr.later hb)
  simp only [hl] at hF
  clear hr hl hlen
  go_enter Try.func8, Try.ntmps8
  go_wp2_with fail
  refine (shown_any _).mono ?_
  rintro e w1 ⟨rfl, hb1⟩
  have hB1 := HB.out.trans (hb1.mono (by simp))
  have hx1 : Box4 w1 w.heap.size 35 [.string m, .int .i64 sc] := (hb1.block _ (by simp)).trans (Box4.new w 35 _)
  clear hb1
  go_wp2_with fail
  refine (hF _ hB1).mono ?_
  rintro e w2 ⟨v2, rfl, hO2, hb2⟩
  obtain ⟨A2, c2, rfl⟩ := own_slice hO2
  have hE2 := row_reads hO2 rfl
  have hB2 := hB1.trans (hb2.mono hB1.size)
  have hx2 : Box4 w2 w.heap.size 35 [.string m, .int .i64 sc] := (hb2.block _ hx1.lt).trans hx1
  have hPk := pack_any A2 l l.length c2 rfl w2 hE2
  rw [hP] at hPk
  clear hF hO2 hb2 hB1 hE2 hx1 hP
  go_wp2_with fail
  refine hPk.mono ?_
  rintro e w3 ⟨rfl, hb3⟩
  have hB3 := hB2.trans (hb3.mono hB2.size)
  have hx3 : Box4 w3 w.heap.size 35 [.string m, .int .i64 sc] := (hb3.block _ hx2.lt).trans hx2
  obtain ⟨k0, k1⟩ := box2 (w' := w3) hx3
  clear hb3 hB2 hx2 hPk
  go_wp2_with fail
  refine (hI1 _).mono ?_
  rintro e w4 ⟨rfl, hb4⟩
  have hB4 := hB3.trans (hb4.mono hB3.size)
  clear hb4 hB3 hx3 k0 k1
  go_wp2_with fail
  refine (hD1 _).mono ?_
  rintro e w5 ⟨rfl, hb5⟩
  have hB5 := hB4.trans (hb5.mono hB4.size)
  clear hb5 hB4
  go_wp2_with fail
  refine (hG _).mono ?_
  rintro e w6 ⟨rfl, hb6⟩
  have hB6 := hB5.trans (hb6.mono hB5.size)
  have hB6' := Lib.hid (hB6.alloc hB6.size (.cells #[.string ym, .int .i64 ys] 35))
  have hx6 := Box4.new w6 35 [.string ym, .int .i64 ys]
  clear hb6 hB5 hB6
  go_wp2_with fail
  refine (hD2 _).mono ?_
  rintro e w7 ⟨rfl, hb7⟩
  have hB7 := hB6'.out.trans (hb7.mono hB6'.out.size)
  have hx7 : Box4 w7 w6.heap.size 35 [.string ym, .int .i64 ys] := (hb7.block _ hx6.lt).trans hx6
  obtain ⟨k0, k1⟩ := box2 (w' := w7) hx7
  clear hb7 hB6' hx6 hx7
  go_wp2_with fail
  refine (hI2 _).mono ?_
  rintro e w8 ⟨rfl, hb8⟩
  have hB8 := hB7.trans (hb8.mono hB7.size)
  clear hb8 hB7 k0 k1
  go_wp2_with fail
  go_ret
  exact ⟨rfl, hB8⟩

set_option maxHeartbeats 2000000 in
theorem turns_B2 (A : Option Addr) (l0 l : List Ent) (len c0 : Nat) (hlen : l0.length = len) (hm : len ≤ 9223372036854775807) (hl : few l0 = l) (i : Int) (m : ByteArray) (sc : Int) (p a c ym : ByteArray) (ys : Int) (f : Int) (hf : (f == 0) = false) (b : ByteArray) (g : Int) (h : Int) (hh : (h == 0) = false) (hh2 : (h != 0) = true) (d : ByteArray) (j : Int)
    (hP : packS l = (p, 0)) (hI1 : ∀ w, Calls Try.prog 23 #[.string p, .int .i64 i, .agg #[.string m, .int .i64 sc]] w fun e' w' => e' = .returned (.tuple #[.string a, .int .i64 f]) ∧ Below w.heap.size w w')
    (hD1 : ∀ w, Calls Try.prog 24 #[.string a, .int .i64 i] w fun e' w' => e' = .returned (.tuple #[.string b, .int .i64 g]) ∧ Below w.heap.size w w')
    (hG : ∀ w, Calls Try.prog 25 #[.string p, .int .i64 i] w fun e' w' => e' = .returned (.tuple #[.agg #[.string ym, .int .i64 ys], .int .i64 h]) ∧ Below w.heap.size w w')
    (hD2 : ∀ w, Calls Try.prog 24 #[.string p, .int .i64 i] w fun e' w' => e' = .returned (.tuple #[.string c, .int .i64 h]) ∧ Below w.heap.size w w')
    (hI2 : ∀ w, Calls Try.prog 23 #[.string c, .int .i64 i, .agg #[.string ym, .int .i64 ys]] w fun e' w' => e' = .returned (.tuple #[.string d, .int .i64 j]) ∧ Below w.heap.size w w')
    (w : World) (hr : Els w A l0) :
    Calls Try.prog 8 #[.slice A len c0, .int .i64 i, .agg #[.string m, .int .i64 sc]] w fun e w' => e = .returned (.bool true) ∧ Below w.heap.size w w' := by
  have HB := Lib.hid ((Below.refl w.heap.size w).alloc (Nat.le_refl _) (.cells #[.string m, .int .i64 sc] 35))
  have hF := fun w' (hb : Below w.heap.size w w') => few_any A l0 len c0 hlen hm w' (hr.later hb)
  simp only [hl] at hF
  clear hr hl hlen
  go_enter Try.func8, Try.ntmps8
  go_wp2_with fail
  refine (shown_any _).mono ?_
  rintro e w1 ⟨rfl, hb1⟩
  have hB1 := HB.out.trans (hb1.mono (by simp))
  have hx1 : Box4 w1 w.heap.size 35 [.string m, .int .i64 sc] := (hb1.block _ (by simp)).trans (Box4.new w 35 _)
  clear hb1
  go_wp2_with fail
  refine (hF _ hB1).mono ?_
  rintro e w2 ⟨v2, rfl, hO2, hb2⟩
  obtain ⟨A2, c2, rfl⟩ := own_slice hO2
  have hE2 := row_reads hO2 rfl
  have hB2 := hB1.trans (hb2.mono hB1.size)
  have hx2 : Box4 w2 w.heap.size 35 [.string m, .int .i64 sc] := (hb2.block _ hx1.lt).trans hx1
  have hPk := pack_any A2 l l.length c2 rfl w2 hE2
  rw [hP] at hPk
  clear hF hO2 hb2 hB1 hE2 hx1 hP
  go_wp2_with fail
  refine hPk.mono ?_
  rintro e w3 ⟨rfl, hb3⟩
  have hB3 := hB2.trans (hb3.mono hB2.size)
  have hx3 : Box4 w3 w.heap.size 35 [.string m, .int .i64 sc] := (hb3.block _ hx2.lt).trans hx2
  obtain ⟨k0, k1⟩ := box2 (w' := w3) hx3
  clear hb3 hB2 hx2 hPk
  go_wp2_with fail
  refine (hI1 _).mono ?_
  rintro e w4 ⟨rfl, hb4⟩
  have hB4 := hB3.trans (hb4.mono hB3.size)
  clear hb4 hB3 hx3 k0 k1
  go_wp2_with fail
  refine (hD1 _).mono ?_
  rintro e w5 ⟨rfl, hb5⟩
  have hB5 := hB4.trans (hb5.mono hB4.size)
  clear hb5 hB4
  go_wp2_with fail
  refine (hG _).mono ?_
  rintro e w6 ⟨rfl, hb6⟩
  have hB6 := hB5.trans (hb6.mono hB5.size)
  have hB6' := Lib.hid (hB6.alloc hB6.size (.cells #[.string ym, .int .i64 ys] 35))
  have hx6 := Box4.new w6 35 [.string ym, .int .i64 ys]
  clear hb6 hB5 hB6
  go_wp2_with fail
  refine (hD2 _).mono ?_
  rintro e w7 ⟨rfl, hb7⟩
  have hB7 := hB6'.out.trans (hb7.mono hB6'.out.size)
  have hx7 : Box4 w7 w6.heap.size 35 [.string ym, .int .i64 ys] := (hb7.block _ hx6.lt).trans hx6
  obtain ⟨k0, k1⟩ := box2 (w' := w7) hx7
  clear hb7 hB6' hx6 hx7
  go_wp2_with fail
  refine (hI2 _).mono ?_
  rintro e w8 ⟨rfl, hb8⟩
  have hB8 := hB7.trans (hb8.mono hB7.size)
  clear hb8 hB7 k0 k1
  go_wp2_with fail
  go_ret
  exact ⟨rfl, hB8⟩

set_option maxHeartbeats 2000000 in
theorem turns_C (A : Option Addr) (l0 l : List Ent) (len c0 : Nat) (hlen : l0.length = len) (hm : len ≤ 9223372036854775807) (hl : few l0 = l) (i : Int) (m : ByteArray) (sc : Int) (p a c ym : ByteArray) (ys : Int) (e : Int) (he : (e == 0) = false) (he2 : (e != 0) = true) (f : Int) (b : ByteArray) (g : Int) (h : Int) (d : ByteArray) (j : Int)
    (hP : packS l = (p, e)) (hI1 : ∀ w, Calls Try.prog 23 #[.string p, .int .i64 i, .agg #[.string m, .int .i64 sc]] w fun e' w' => e' = .returned (.tuple #[.string a, .int .i64 f]) ∧ Below w.heap.size w w')
    (hD1 : ∀ w, Calls Try.prog 24 #[.string a, .int .i64 i] w fun e' w' => e' = .returned (.tuple #[.string b, .int .i64 g]) ∧ Below w.heap.size w w')
    (hG : ∀ w, Calls Try.prog 25 #[.string p, .int .i64 i] w fun e' w' => e' = .returned (.tuple #[.agg #[.string ym, .int .i64 ys], .int .i64 h]) ∧ Below w.heap.size w w')
    (hD2 : ∀ w, Calls Try.prog 24 #[.string p, .int .i64 i] w fun e' w' => e' = .returned (.tuple #[.string c, .int .i64 h]) ∧ Below w.heap.size w w')
    (hI2 : ∀ w, Calls Try.prog 23 #[.string c, .int .i64 i, .agg #[.string ym, .int .i64 ys]] w fun e' w' => e' = .returned (.tuple #[.string d, .int .i64 j]) ∧ Below w.heap.size w w')
    (w : World) (hr : Els w A l0) :
    Calls Try.prog 8 #[.slice A len c0, .int .i64 i, .agg #[.string m, .int .i64 sc]] w fun e w' => e = .returned (.bool true) ∧ Below w.heap.size w w' := by
  have HB := Lib.hid ((Below.refl w.heap.size w).alloc (Nat.le_refl _) (.cells #[.string m, .int .i64 sc] 35))
  have hF := fun w' (hb : Below w.heap.size w w') => few_any A l0 len c0 hlen hm w' (hr.later hb)
  simp only [hl] at hF
  clear hr hl hlen
  go_enter Try.func8, Try.ntmps8
  go_wp2_with fail
  refine (shown_any _).mono ?_
  rintro e w1 ⟨rfl, hb1⟩
  have hB1 := HB.out.trans (hb1.mono (by simp))
  have hx1 : Box4 w1 w.heap.size 35 [.string m, .int .i64 sc] := (hb1.block _ (by simp)).trans (Box4.new w 35 _)
  clear hb1
  go_wp2_with fail
  refine (hF _ hB1).mono ?_
  rintro e w2 ⟨v2, rfl, hO2, hb2⟩
  obtain ⟨A2, c2, rfl⟩ := own_slice hO2
  have hE2 := row_reads hO2 rfl
  have hB2 := hB1.trans (hb2.mono hB1.size)
  have hx2 : Box4 w2 w.heap.size 35 [.string m, .int .i64 sc] := (hb2.block _ hx1.lt).trans hx1
  have hPk := pack_any A2 l l.length c2 rfl w2 hE2
  rw [hP] at hPk
  clear hF hO2 hb2 hB1 hE2 hx1 hP
  go_wp2_with fail
  refine hPk.mono ?_
  rintro e w3 ⟨rfl, hb3⟩
  have hB3 := hB2.trans (hb3.mono hB2.size)
  have hx3 : Box4 w3 w.heap.size 35 [.string m, .int .i64 sc] := (hb3.block _ hx2.lt).trans hx2
  obtain ⟨k0, k1⟩ := box2 (w' := w3) hx3
  clear hb3 hB2 hx2 hPk
  go_wp2_with fail
  refine (hI1 _).mono ?_
  rintro e w4 ⟨rfl, hb4⟩
  have hB4 := hB3.trans (hb4.mono hB3.size)
  clear hb4 hB3 hx3 k0 k1
  go_wp2_with fail
  refine (hD1 _).mono ?_
  rintro e w5 ⟨rfl, hb5⟩
  have hB5 := hB4.trans (hb5.mono hB4.size)
  clear hb5 hB4
  go_wp2_with fail
  refine (hG _).mono ?_
  rintro e w6 ⟨rfl, hb6⟩
  have hB6 := hB5.trans (hb6.mono hB5.size)
  have hB6' := Lib.hid (hB6.alloc hB6.size (.cells #[.string ym, .int .i64 ys] 35))
  have hx6 := Box4.new w6 35 [.string ym, .int .i64 ys]
  clear hb6 hB5 hB6
  go_wp2_with fail
  refine (hD2 _).mono ?_
  rintro e w7 ⟨rfl, hb7⟩
  have hB7 := hB6'.out.trans (hb7.mono hB6'.out.size)
  have hx7 : Box4 w7 w6.heap.size 35 [.string ym, .int .i64 ys] := (hb7.block _ hx6.lt).trans hx6
  obtain ⟨k0, k1⟩ := box2 (w' := w7) hx7
  clear hb7 hB6' hx6 hx7
  go_wp2_with fail
  refine (hI2 _).mono ?_
  rintro e w8 ⟨rfl, hb8⟩
  have hB8 := hB7.trans (hb8.mono hB7.size)
  clear hb8 hB7 k0 k1
  go_wp2_with fail
  go_ret
  exact ⟨rfl, hB8⟩

theorem fine_delAt {l : List Ent} (h : Fine l) (k : Nat) : Fine (delAt l k) := by
  refine ⟨?_, fun e he => h.2 e ?_⟩
  · have := h.1
    unfold delAt
    rw [List.length_append, List.length_take, List.length_drop]; omega
  · rcases List.mem_append.1 he with h1 | h1
    · exact List.mem_of_mem_take h1
    · exact List.mem_of_mem_drop h1
theorem fine_insAt {l : List Ent} (h : Fine l) (h200 : l.length < 200) {k : Nat} (hk : k ≤ l.length) {x : Ent} (hx : FineE x) : Fine (insAt l k x) := by
  refine ⟨by rw [insAt_length hk]; omega, fun e he => ?_⟩
  rcases List.mem_append.1 he with h1 | h1
  · exact h.2 e (List.mem_of_mem_take h1)
  · rcases List.mem_cons.1 h1 with rfl | h2
    · exact hx
    · exact h.2 e (List.mem_of_mem_drop h2)
theorem del_ins {l : List Ent} {k : Nat} (hk : k ≤ l.length) (x : Ent) : delAt (insAt l k x) k = l := by
  have h1 : (l.take k).length = k := by rw [List.length_take]; omega
  unfold delAt insAt
  have e1 : (l.take k ++ x :: l.drop k).take k = l.take k := by
    have := List.take_left (l₁ := l.take k) (l₂ := x :: l.drop k)
    rw [h1] at this; exact this
  have e2 : (l.take k ++ x :: l.drop k).drop (k + 1) = l.drop k := by
    have := List.drop_left (l₁ := l.take k) (l₂ := x :: l.drop k)
    rw [h1] at this
    rw [← List.drop_drop, this]; rfl
  rw [e1, e2, List.take_append_drop]
theorem ins_del {l : List Ent} {k : Nat} (hk : k < l.length) : insAt (delAt l k) k (l[k]'hk) = l := by
  have h1 : (l.take k).length = k := by rw [List.length_take]; omega
  unfold delAt insAt
  have e1 : (l.take k ++ l.drop (k + 1)).take k = l.take k := by
    have := List.take_left (l₁ := l.take k) (l₂ := l.drop (k + 1))
    rw [h1] at this; exact this
  have e2 : (l.take k ++ l.drop (k + 1)).drop k = l.drop (k + 1) := by
    have := List.drop_left (l₁ := l.take k) (l₂ := l.drop (k + 1))
    rw [h1] at this; exact this
  rw [e1, e2, ← List.drop_eq_getElem_cons hk, List.take_append_drop]

theorem ins_empty (i : Int) (x : Ent) : insS ⟨#[]⟩ i x = (⟨#[]⟩, 50) := by unfold insS; rw [if_pos ok_empty]
theorem del_empty (i : Int) : delS ⟨#[]⟩ i = (⟨#[]⟩, 50) := by unfold delS; rw [if_pos ok_empty]
theorem get_empty (i : Int) : getS ⟨#[]⟩ i = (zE, 50) := by unfold getS spotAtS; rw [if_pos ok_empty]; rfl
theorem get_in {l : List Ent} (hf : Fine l) (k : Nat) (hk : k < l.length) : getS (strOfNums (packB l)) k = (l[k]'hk, 0) := by
  obtain ⟨h1, h2⟩ := ok_str hf
  obtain ⟨_, _, h3⟩ := ok_spec h1
  rw [h2] at h3
  unfold getS spotAtS
  rw [h1, h2, if_neg (by simp), if_neg (by omega), h3, Int.toNat_natCast, spotsOf_get l 2 k hk]
  rfl
theorem get_out {l : List Ent} (hf : Fine l) (i : Int) (hi : i < 0 ∨ (l.length : Int) ≤ i) : getS (strOfNums (packB l)) i = (zE, 2) := by
  obtain ⟨h1, h2⟩ := ok_str hf
  unfold getS spotAtS
  rw [h1, h2, if_neg (by simp), if_pos hi]
  rfl
theorem del_in {l : List Ent} (hf : Fine l) (k : Nat) (hk : k < l.length) : delS (strOfNums (packB l)) k = (strOfNums (packB (delAt l k)), 0) := by
  obtain ⟨h1, h2⟩ := ok_str hf
  unfold delS
  rw [h1, h2, if_neg (by simp), if_neg (by omega), Int.toNat_natCast]
theorem del_out {l : List Ent} (hf : Fine l) (i : Int) (hi : i < 0 ∨ (l.length : Int) ≤ i) : delS (strOfNums (packB l)) i = (⟨#[]⟩, 2) := by
  obtain ⟨h1, h2⟩ := ok_str hf
  unfold delS
  rw [h1, h2, if_neg (by simp), if_pos hi]
theorem ins_in {l : List Ent} (hf : Fine l) (k : Nat) (hk : k ≤ l.length) (x : Ent) (h200 : l.length ≠ 200) (hx : x.1.size ≤ 64) : insS (strOfNums (packB l)) k x = (strOfNums (packB (insAt l k x)), 0) := by
  obtain ⟨h1, h2⟩ := ok_str hf
  unfold insS
  rw [h1, h2, if_neg (by simp), if_neg h200, if_neg (by omega), Int.toNat_natCast]
theorem ins_out {l : List Ent} (hf : Fine l) (i : Int) (x : Ent) (h200 : l.length ≠ 200) (hi : i < 0 ∨ (l.length : Int) < i ∨ 64 < x.1.size) : insS (strOfNums (packB l)) i x = (⟨#[]⟩, 2) := by
  obtain ⟨h1, h2⟩ := ok_str hf
  unfold insS
  rw [h1, h2, if_neg (by simp), if_neg h200, if_pos hi]

theorem turns_any (A : Option Addr) (l0 : List Ent) (len c : Nat) (hlen : l0.length = len) (hm : len ≤ 9223372036854775807) (hrg : Rng l0) (i : Int) (m : ByteArray) (sc : Int) (hsc : -9223372036854775808 ≤ sc ∧ sc ≤ 9223372036854775807) (w : World) (hr : Els w A l0) :
    Calls Try.prog 8 #[.slice A len c, .int .i64 i, .agg #[.string m, .int .i64 sc]] w fun e w' => e = .returned (.bool true) ∧ Below w.heap.size w w' := by
  obtain ⟨l, hl⟩ : ∃ l, few l0 = l := ⟨_, rfl⟩
  have hrl := few_rng hrg
  rw [hl] at hrl
  have sz0 : (⟨#[]⟩ : ByteArray).size ≤ 1000000 := by show 0 ≤ 1000000; omega
  by_cases he : (packS l).2 = 0
  · have hf := packS_fine hrl he
    have hps := pack_size hf
    have hpk := packS_ok hf
    have hI1 := insert_any (strOfNums (packB l)) (by omega) i m sc
    have hD2 := delete_any (strOfNums (packB l)) (by omega) i
    have hG := get_any (strOfNums (packB l)) (by omega) i
    by_cases hin : 0 ≤ i ∧ i < (l.length : Int)
    · obtain ⟨k, rfl⟩ : ∃ k : Nat, i = k := ⟨i.toNat, by omega⟩
      have hk : k < l.length := by omega
      have hfd := fine_delAt hf k
      have hpd := pack_size hfd
      have hI2 := insert_any (strOfNums (packB (delAt l k))) (by omega) k (l[k]'hk).1 (l[k]'hk).2
      have hdl := delAt_length hk
      rw [show insS (strOfNums (packB (delAt l k))) k ((l[k]'hk).1, (l[k]'hk).2) = (strOfNums (packB l), 0) by
        rw [ins_in hfd k (by omega) _ (by have := hf.1; omega) (hf.2 _ (List.getElem_mem hk)).1, ins_del hk]] at hI2
      rw [del_in hf k hk] at hD2
      rw [get_in hf k hk] at hG
      by_cases hfo : l.length ≠ 200 ∧ m.size ≤ 64
      · have hfi := fine_insAt hf (by have := hf.1; omega) (k := k) (by omega) (x := (m, sc)) ⟨hfo.2, hsc⟩
        rw [ins_in hf k (by omega) (m, sc) hfo.1 hfo.2] at hI1
        have hD1 := delete_any (strOfNums (packB (insAt l k (m, sc)))) (by have := pack_size hfi; omega) k
        rw [del_in hfi k (by rw [insAt_length (by omega)]; omega), del_ins (by omega)] at hD1
        exact turns_A1 A l0 l len c hlen hm hl k m sc _ _ _ _ _ hpk hI1 hD1 hG hD2 hI2 w hr
      · have hD1 := delete_any ⟨#[]⟩ sz0 k
        rw [del_empty] at hD1
        by_cases h200 : l.length = 200
        · rw [ins_full hf _ _ h200] at hI1
          exact turns_B1 A l0 l len c hlen hm hl k m sc _ _ _ _ _ 51 rfl _ _ hpk hI1 hD1 hG hD2 hI2 w hr
        · rw [ins_out hf k (m, sc) h200 (.inr (.inr (by show 64 < m.size; omega)))] at hI1
          exact turns_B1 A l0 l len c hlen hm hl k m sc _ _ _ _ _ 2 rfl _ _ hpk hI1 hD1 hG hD2 hI2 w hr
    · have hio : i < 0 ∨ (l.length : Int) ≤ i := by omega
      have hI2 := insert_any ⟨#[]⟩ sz0 i zE.1 zE.2
      rw [ins_empty] at hI2
      rw [del_out hf i hio] at hD2
      rw [get_out hf i hio] at hG
      by_cases hfo : l.length ≠ 200 ∧ m.size ≤ 64 ∧ i = (l.length : Int)
      · obtain ⟨g1, g2, rfl⟩ := hfo
        have hfi := fine_insAt hf (by have := hf.1; omega) (k := l.length) (by omega) (x := (m, sc)) ⟨g2, hsc⟩
        rw [ins_in hf l.length (by omega) (m, sc) g1 g2] at hI1
        have hD1 := delete_any (strOfNums (packB (insAt l l.length (m, sc)))) (by have := pack_size hfi; omega) l.length
        rw [del_in hfi l.length (by rw [insAt_length (by omega)]; omega), del_ins (by omega)] at hD1
        exact turns_A2 A l0 l len c hlen hm hl _ m sc _ _ _ _ _ 2 rfl rfl _ _ hpk hI1 hD1 hG hD2 hI2 w hr
      · have hD1 := delete_any ⟨#[]⟩ sz0 i
        rw [del_empty] at hD1
        by_cases h200 : l.length = 200
        · rw [ins_full hf _ _ h200] at hI1
          exact turns_B2 A l0 l len c hlen hm hl i m sc _ _ _ _ _ 51 rfl _ _ 2 rfl rfl _ _ hpk hI1 hD1 hG hD2 hI2 w hr
        · rw [ins_out hf i (m, sc) h200 (by show i < 0 ∨ (l.length : Int) < i ∨ 64 < m.size; omega)] at hI1
          exact turns_B2 A l0 l len c hlen hm hl i m sc _ _ _ _ _ 2 rfl _ _ 2 rfl rfl _ _ hpk hI1 hD1 hG hD2 hI2 w hr
  · have hpk : packS l = (⟨#[]⟩, (packS l).2) := by
      have := packS_fail he
      rw [← this]
    have hI1 := insert_any ⟨#[]⟩ sz0 i m sc
    have hD1 := delete_any ⟨#[]⟩ sz0 i
    have hG := get_any ⟨#[]⟩ sz0 i
    have hI2 := insert_any ⟨#[]⟩ sz0 i zE.1 zE.2
    rw [ins_empty] at hI1 hI2
    rw [del_empty] at hD1
    rw [get_empty] at hG
    exact turns_C A l0 l len c hlen hm hl i m sc _ _ _ _ _ _ (beq_eq_false_iff_ne.2 he) (bne_iff_ne.2 he) _ _ _ _ _ _ hpk hI1 hD1 hG hD1 hI2 w hr

end Go.Proofs.Ytcjjeookfnmjcaa
