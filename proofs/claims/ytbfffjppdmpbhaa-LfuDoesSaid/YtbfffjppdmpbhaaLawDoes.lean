/- LfuDoes holds: for every use, minute and draw the law answers true and leaves its arguments as they were; no condition. -/
import Derived.Test.YtbfffjppdmpbhaaDoes
import Derived.ProofKit
import Derived.OpenShut
import Derived.Lib.SmallJoins
namespace Go.Proofs.Ytbfffjppdmpbhaa
open Go.ChangeShapes Go.WideShapes Go.ChangeAt Go.RowKit Go.Joins
set_option linter.unusedVariables false

theorem own : ownKnob Try.prog.godebug = none := by kernel_rfl
theorem laidOut : laidOutB Try.prog = true := by kernel_rfl
theorem cells23 : Try.prog.cellsOf 23 = 2 := by kernel_rfl

theorem does_any (c a n d : Int) (wc : (Lit.int .i64 c).wf = true) (wa : (Lit.int .i64 a).wf = true) (wn : (Lit.int .i64 n).wf = true) (wd : (Lit.int .u32 d).wf = true) (w : World) :
    Calls Try.prog 7 #[.agg #[.int .i64 c, .int .i64 a], .int .i64 n, .int .u32 d] w fun e w' => e = .returned (.bool true) ∧ Below w.heap.size w w' := by
  have hn := (bounds_i64 wn).2
  have hd := bounds_u32 wd
  have hR : Both 13 18 #[.agg #[.int .i64 c, .int .i64 a]] (.bool (rightB c a)) := ⟨fun w => right_any c a w, fun w => rright_any c a w⟩
  have hN : ∃ x0 y0 e0 : Int, Both 14 15 #[.int .i64 n] (.tuple #[.agg #[.int .i64 x0, .int .i64 y0], .int .i64 e0]) := by
    by_cases h0 : 0 ≤ n
    · exact ⟨5, n, 0, fun w => new_yes n w h0, fun w => rnew_yes n w h0⟩
    · exact ⟨0, 0, 130, fun w => new_no n w (by omega), fun w => rnew_no n w (by omega)⟩
  obtain ⟨x0, y0, e0, hN⟩ := hN
  by_cases hf : fineB c a n = true
  · exact does_walk c a n d x0 y0 e0 _ _ _ _ _ _ w hN ⟨fun w => count_yes c a n w hn hf, fun w => rcount_yes c a n w hn hf⟩
      ⟨fun w => touch_yes c a n d w hn hd.1 hd.2 hf, fun w => rtouch_yes c a n d w hn hd.1 hd.2 hf⟩ hR
  · have hf : fineB c a n = false := by simpa using hf
    exact does_walk c a n d x0 y0 e0 _ _ _ _ _ _ w hN ⟨fun w => count_no c a n w hf, fun w => rcount_no c a n w hf⟩ ⟨fun w => touch_no c a n d w hf, fun w => rtouch_no c a n d w hf⟩ hR

set_option maxRecDepth 100000 in
theorem does_lifted (os : Os) (started : os.Started) (H : Type) (enc : TypeId × Value → H) :
    ReturnsInHanded {} Try.checked os 7 .any (Rows.lfuDoesSpec.pre6 enc Try.prog Try.f7 Rows.lfuDoesRow.domain false) (Rows.lfuDoesSpec.post enc Try.prog Try.f7 false true false false) := by
  refine returnsInHanded_of_change (C := Try.checked) own started (by kernel_rfl) Try.func7
    (ChangeSpec.witness6 (enc := enc) (C := Try.checked) false ⟨#[], #[.agg #[.int .i64 0, .int .i64 0], .int .i64 0, .int .u32 0], []⟩ 8 (by kernel_rfl) (by kernel_rfl) (by kernel_rfl) (by kernel_rfl)) ?_
  intro W base args ds gs before hval0 hW hcnd _
  have hval : ∀ (j : Nat) t v, Try.f7.params[j]? = some t → args[j]? = some v → Value.okWide Try.prog W .any base t v := hval0
  have hW' := hW
  obtain ⟨p, q, hA0, hV, rfl, hfz, hnd⟩ := hW
  have hA : DataW.TrodAll enc Try.prog W 0 (fun _ => true) true Try.f7.params.toList args.toList ds p := hA0
  rw [Try.params7] at hA hval
  obtain ⟨v0, vs0, d0, ds0, p0, q0, hargs, rfl, rfl, h0, r0⟩ := trodAll_cons hA
  obtain ⟨v1, vs1, d1, ds1, p1, q1, rfl, rfl, rfl, h1, r1⟩ := trodAll_cons r0
  obtain ⟨v2, vs2, d2, ds2, p2, q2, rfl, rfl, rfl, h2, r2⟩ := trodAll_cons r1
  obtain ⟨rfl, rfl, rfl⟩ := trodAll_nil r2
  obtain rfl : args = #[v0, v1, v2] := by cases args; simp_all
  obtain ⟨rfl, rfl⟩ := trodVars_none hV
  have k0 := h0
  have l0 : ∀ x ∈ p0, x.block < W.heap.size := fun x hx => by simpa using hW'.lt x (by simp [hx])
  obtain ⟨b0, c0, y0, z0, m0, rfl, hd0, hp0, hy0, hz0⟩ := open_agg2 Try.underlying23 (by kernel_rfl) cells23 (hval 0 23 v0 rfl rfl) h0
  obtain ⟨a0, e0, _, w0⟩ := DataW.trod_int Try.underlying3 hy0
  obtain ⟨a0', e0', _, w0'⟩ := DataW.trod_int Try.underlying3 hz0
  simp at e0 e0'
  subst e0 e0'
  have k1 := h1
  have l1 : ∀ x ∈ p1, x.block < W.heap.size := fun x hx => by simpa using hW'.lt x (by simp [hx])
  obtain ⟨a1, rfl, rfl, rfl, w1⟩ := open_int Try.underlying3 (hval 1 3 v1 rfl rfl) h1
  have k2 := h2
  have l2 : ∀ x ∈ p2, x.block < W.heap.size := fun x hx => by simpa using hW'.lt x (by simp [hx])
  obtain ⟨a2, rfl, rfl, rfl, w2⟩ := open_int Try.underlying24 (hval 2 24 v2 rfl rfl) h2
  clear hA0 hval0
  refine (does_any a0 a0' a1 a2 w0 w0' w1 w2 W).mono fun e W' ⟨he, hb⟩ => ?_
  subst he
  exact ⟨_, rfl, _, _, _, [], _, [], hW', (trodAll_cons_mk (shut_bool Try.underlying4 _) trodAll_mk0), (trodAll_cons_mk (Below.trod laidOut (by kernel_rfl) (of_decide_eq_true (by kernel_rfl)) k0 hb l0) (trodAll_cons_mk (Below.trod laidOut (by kernel_rfl) (of_decide_eq_true (by kernel_rfl)) k1 hb l1) (trodAll_cons_mk (Below.trod laidOut (by kernel_rfl) (of_decide_eq_true (by kernel_rfl)) k2 hb l2) trodAll_mk0))), rfl, hb.frame _, fun h => by cases h⟩

/-- The statement: LfuDoes. -/
theorem does_holds : Rows.LfuDoesSaid :=
  OpenClaim.holds_of_wide 7 Try.f7 rfl rfl rfl rfl rfl rfl rfl ⟨rfl, rfl, rfl, rfl, rfl⟩ rfl rfl rfl rfl rfl (by kernel_rfl) Try.func7 (by kernel_rfl)
    (of_decide_eq_true (by kernel_rfl)) (by unfold Func.isWrapper; first | (rw [if_pos (by decide +kernel)]; kernel_rfl) | (rw [if_neg (by decide +kernel)]; exact ⟨rfl, rfl⟩))
    (fun os started H enc _ => does_lifted os started H enc)
#print axioms does_holds

end Go.Proofs.Ytbfffjppdmpbhaa
