import Derived.Test.YtbfffjppdmpbhaaRef
import Derived.Deep.RegionHeld3
namespace Go.Proofs.Ytbfffjppdmpbhaa
open Go.RowKit
set_option linter.unusedVariables false

def Both (f g : Nat) (args : Array Value) (v : Value) : Prop :=
  (∀ w, Calls Try.prog f args w fun e w' => e = .returned v ∧ Below w.heap.size w w') ∧ (∀ w, Calls Try.prog g args w fun e w' => e = .returned v ∧ Below w.heap.size w w')

structure Grow (a b : World) : Prop where
  out : Below a.heap.size a b
theorem Grow.refl (a : World) : Grow a a := ⟨Below.refl _ _⟩
theorem Grow.drew {a b : World} (h : Grow a b) : Grow a b.drew := ⟨h.out.drew⟩
theorem Grow.step {a b c : World} (h : Grow a b) (k : Below b.heap.size b c) : Grow a c := ⟨h.out.trans (k.mono h.out.size)⟩

set_option maxHeartbeats 2000000 in
theorem does_walk (c a n d x0 y0 e0 m ce t tn te : Int) (r : Bool) (w : World)
    (hNew : Both 14 15 #[.int .i64 n] (.tuple #[.agg #[.int .i64 x0, .int .i64 y0], .int .i64 e0]))
    (hCount : Both 11 16 #[.agg #[.int .i64 c, .int .i64 a], .int .i64 n] (.tuple #[.int .i64 m, .int .i64 ce]))
    (hTouch : Both 12 17 #[.agg #[.int .i64 c, .int .i64 a], .int .i64 n, .int .u32 d] (.tuple #[.agg #[.int .i64 t, .int .i64 tn], .int .i64 te]))
    (hRight : Both 13 18 #[.agg #[.int .i64 c, .int .i64 a]] (.bool r)) :
    Calls Try.prog 7 #[.agg #[.int .i64 c, .int .i64 a], .int .i64 n, .int .u32 d] w fun e w' => e = .returned (.bool true) ∧ Below w.heap.size w w' := by
  have HN := Lib.hid hNew
  have HC := Lib.hid hCount
  have HT := Lib.hid hTouch
  have HR := Lib.hid hRight
  clear hNew hCount hTouch hRight
  go_enter Try.func7, Try.ntmps7
  go_wp2_with fail
  refine (shown_any _).mono ?_
  rintro e w1 ⟨rfl, hb1⟩
  have u1 : w1.cell? ⟨w.heap.size, 0, none⟩ = some (.int .i64 c) := cell_later hb1 (by simp)
  have v1 : w1.cell? ⟨w.heap.size, 1, none⟩ = some (.int .i64 a) := cell_later hb1 (by simp)
  have z1 : w.heap.size < w1.heap.size := by have := hb1.size; simp at this; omega
  replace hb1 := one_below hb1
  go_wp2_with fail
  refine (HN.out.1 _).mono ?_
  rintro e w2 ⟨rfl, hb2⟩
  have u2 := cell_later hb2 u1
  have v2 := cell_later hb2 v1
  have z2 := hb2.size
  replace hb2 := hb1.trans (hb2.mono (by omega))
  clear u1 v1 hb1
  go_wp2_with fail
  refine (HN.out.2 _).mono ?_
  rintro e w3 ⟨rfl, hb3⟩
  have z3 : w2.heap.size < w3.heap.size := by have := hb3.size; simp at this; omega
  have u3 := cell_later hb3 (t_cell_past _ u2)
  have v3 := cell_later hb3 (t_cell_past _ v2)
  have x3 : w3.cell? ⟨w2.heap.size, 0, none⟩ = some (.int .i64 x0) := cell_later hb3 (by simp)
  have y3 : w3.cell? ⟨w2.heap.size, 1, none⟩ = some (.int .i64 y0) := cell_later hb3 (by simp)
  replace hb3 := (hb2.alloc (by omega) _).trans (hb3.mono (by simp; omega))
  clear u2 v2 hb2
  have q3 : w.heap.size < w3.heap.size := by omega
  go_wp2_with fail
  refine (HC.out.1 _).mono ?_
  rintro e w4 ⟨rfl, hb4⟩
  have z4 : w3.heap.size < w4.heap.size := by have := hb4.size; simp at this; omega
  have u4 := cell_later hb4 (t_cell_past _ u3)
  have v4 := cell_later hb4 (t_cell_past _ v3)
  have x4 := cell_later hb4 (t_cell_past _ x3)
  have y4 := cell_later hb4 (t_cell_past _ y3)
  have i4 : w4.cell? ⟨w3.heap.size, 0, none⟩ = some (.int .i64 x0) := cell_later hb4 (by simp)
  have j4 : w4.cell? ⟨w3.heap.size, 1, none⟩ = some (.int .i64 y0) := cell_later hb4 (by simp)
  replace hb4 := (hb3.alloc (by omega) _).trans (hb4.mono (by simp; omega))
  clear u3 v3 x3 y3 q3 hb3
  go_wp2_with fail
  refine (HC.out.2 _).mono ?_
  rintro e w5 ⟨rfl, hb5⟩
  have z5 := hb5.size
  have u5 := cell_later hb5 u4
  have v5 := cell_later hb5 v4
  have x5 := cell_later hb5 x4
  have y5 := cell_later hb5 y4
  have i5 := cell_later hb5 i4
  have j5 := cell_later hb5 j4
  replace hb5 := hb4.trans (hb5.mono (by omega))
  clear u4 v4 x4 y4 i4 j4 hb4
  go_wp2_with fail
  refine (HT.out.1 _).mono ?_
  rintro e w6 ⟨rfl, hb6⟩
  have z6 := hb6.size
  have u6 := cell_later hb6 u5
  have v6 := cell_later hb6 v5
  have x6 := cell_later hb6 x5
  have y6 := cell_later hb6 y5
  have i6 := cell_later hb6 i5
  have j6 := cell_later hb6 j5
  replace hb6 := hb5.trans (hb6.mono (by omega))
  clear u5 v5 x5 y5 i5 j5 hb5
  have q6 : w.heap.size < w6.heap.size := by omega
  go_wp2_with fail
  refine (HT.out.2 _).mono ?_
  rintro e w7 ⟨rfl, hb7⟩
  have z7 : w6.heap.size < w7.heap.size := by have := hb7.size; simp at this; omega
  have u7 := cell_later hb7 (t_cell_past _ u6)
  have v7 := cell_later hb7 (t_cell_past _ v6)
  have x7 := cell_later hb7 (t_cell_past _ x6)
  have y7 := cell_later hb7 (t_cell_past _ y6)
  have i7 := cell_later hb7 (t_cell_past _ i6)
  have j7 := cell_later hb7 (t_cell_past _ j6)
  have f7 : w7.cell? ⟨w6.heap.size, 0, none⟩ = some (.int .i64 t) := cell_later hb7 (by simp)
  have g7 : w7.cell? ⟨w6.heap.size, 1, none⟩ = some (.int .i64 tn) := cell_later hb7 (by simp)
  replace hb7 := (hb6.alloc (by omega) _).trans (hb7.mono (by simp; omega))
  clear u6 v6 x6 y6 i6 j6 q6 hb6
  go_wp2_with fail
  have z8 : w7.heap.size < (w7.alloc (.cells #[.int .i64 t, .int .i64 tn] 23)).heap.size := by simp
  have u8 := t_cell_past (.cells #[.int .i64 t, .int .i64 tn] 23) u7
  have v8 := t_cell_past (.cells #[.int .i64 t, .int .i64 tn] 23) v7
  have x8 := t_cell_past (.cells #[.int .i64 t, .int .i64 tn] 23) x7
  have y8 := t_cell_past (.cells #[.int .i64 t, .int .i64 tn] 23) y7
  have i8 := t_cell_past (.cells #[.int .i64 t, .int .i64 tn] 23) i7
  have j8 := t_cell_past (.cells #[.int .i64 t, .int .i64 tn] 23) j7
  have f8 := t_cell_past (.cells #[.int .i64 t, .int .i64 tn] 23) f7
  have g8 := t_cell_past (.cells #[.int .i64 t, .int .i64 tn] 23) g7
  have k8 : (w7.alloc (.cells #[.int .i64 t, .int .i64 tn] 23)).cell? ⟨w7.heap.size, 0, none⟩ = some (.int .i64 t) := by simp
  have l8 : (w7.alloc (.cells #[.int .i64 t, .int .i64 tn] 23)).cell? ⟨w7.heap.size, 1, none⟩ = some (.int .i64 tn) := by simp
  have hb8 : Below w.heap.size w (w7.alloc (.cells #[.int .i64 t, .int .i64 tn] 23)) := hb7.alloc (by omega) _
  clear u7 v7 x7 y7 i7 j7 f7 g7 hb7
  generalize w7.alloc (.cells #[.int .i64 t, .int .i64 tn] 23) = w8 at *
  have hg := Grow.refl w8
  go_region_held3 (fun w' => w'.cell? ⟨w.heap.size, 0, none⟩ = some (.int .i64 c) ∧ w'.cell? ⟨w.heap.size, 1, none⟩ = some (.int .i64 a) ∧
      w'.cell? ⟨w2.heap.size, 0, none⟩ = some (.int .i64 x0) ∧ w'.cell? ⟨w2.heap.size, 1, none⟩ = some (.int .i64 y0) ∧
      w'.cell? ⟨w3.heap.size, 0, none⟩ = some (.int .i64 x0) ∧ w'.cell? ⟨w3.heap.size, 1, none⟩ = some (.int .i64 y0) ∧
      w'.cell? ⟨w6.heap.size, 0, none⟩ = some (.int .i64 t) ∧ w'.cell? ⟨w6.heap.size, 1, none⟩ = some (.int .i64 tn) ∧
      w'.cell? ⟨w7.heap.size, 0, none⟩ = some (.int .i64 t) ∧ w'.cell? ⟨w7.heap.size, 1, none⟩ = some (.int .i64 tn) ∧ Grow w8 w')
    (first
      | (exact ⟨u8, v8, x8, y8, i8, j8, f8, g8, k8, l8, hg.drew⟩)
      | (go_split_ands
         exact ⟨cell_later hbz (by assumption), cell_later hbz (by assumption), cell_later hbz (by assumption), cell_later hbz (by assumption), cell_later hbz (by assumption), cell_later hbz (by assumption),
           cell_later hbz (by assumption), cell_later hbz (by assumption), cell_later hbz (by assumption), cell_later hbz (by assumption), Grow.step (by assumption) hbz⟩))
    (first
      | (go_at_call 13; refine (HR.out.1 _).mono ?_; rintro e wz ⟨rfl, hbz⟩)
      | (go_at_call 18; refine (HR.out.2 _).mono ?_; rintro e wz ⟨rfl, hbz⟩))
  all_goals
    go_wp2
    go_ret
    go_split_ands
    have q8 : w.heap.size ≤ w8.heap.size := by omega
    exact ⟨by simp, hb8.trans (Below.mono (Grow.out (a := w8) (by assumption)) q8)⟩

end Go.Proofs.Ytbfffjppdmpbhaa
