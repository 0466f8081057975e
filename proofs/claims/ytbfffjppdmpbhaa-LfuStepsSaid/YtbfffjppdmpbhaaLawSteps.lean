/- LfuSteps holds: for every use, minute and draw the law answers true and leaves its arguments as they were; no condition. -/
import Derived.Test.YtbfffjppdmpbhaaSteps
import Derived.ProofKit
import Derived.OpenShut
import Derived.Lib.SmallJoins
namespace Go.Proofs.Ytbfffjppdmpbhaa
open Go.ChangeShapes Go.WideShapes Go.ChangeAt Go.RowKit Go.Joins
set_option linter.unusedVariables false

theorem own : ownKnob Try.prog.godebug = none := by kernel_rfl
theorem laidOut : laidOutB Try.prog = true := by kernel_rfl
theorem cells23 : Try.prog.cellsOf 23 = 2 := by kernel_rfl

theorem steps_any (c a n d : Int) (wc : (Lit.int .i64 c).wf = true) (wa : (Lit.int .i64 a).wf = true) (wn : (Lit.int .i64 n).wf = true) (wd : (Lit.int .u32 d).wf = true) (w : World) :
    Calls Try.prog 3 #[.agg #[.int .i64 c, .int .i64 a], .int .i64 n, .int .u32 d] w fun e w' => e = .returned (.bool true) ∧ Below w.heap.size w w' := by
  have hn := (bounds_i64 wn).2
  have hd := bounds_u32 wd
  by_cases h : fineB c a n = true
  · obtain ⟨⟨⟨h1, h2⟩, h3⟩, h4⟩ : ((0 ≤ c ∧ c ≤ 255) ∧ 0 ≤ a) ∧ a ≤ n := by simpa [fineB, rightB, and_assoc] using h
    obtain ⟨m, hm⟩ : ∃ m, left c a n = m := ⟨_, rfl⟩
    have hm0 : 0 ≤ m := by rw [← hm]; unfold left; omega
    have hmc : m ≤ c := by rw [← hm]; unfold left; omega
    have hm2 : m ≤ 255 := by omega
    have hr : ∀ t : Int, 0 ≤ t → t ≤ 255 → rightB t n = true := fun t a b => by simp [rightB]; omega
    by_cases hu : upB m d = true
    · have ht : touched (left c a n) d = m + 1 := by rw [hm]; simp [touched, hu]
      have hup : m < 255 := by simp [upB] at hu; omega
      by_cases he : a < n
      · by_cases hz : d = 0
        · subst hz; exact steps_yes3 c a m n w hn hm0 hm2 he hmc hup h (hr _ (by omega) (by omega)) hm ht
        · exact steps_yes4 c a m n d w hn hm0 hm2 hd.1 hd.2 hz he hmc hup h (hr _ (by omega) (by omega)) hm ht
      · obtain rfl : a = n := by omega
        obtain rfl : c = m := by rw [← hm]; unfold left; omega
        by_cases hz : d = 0
        · subst hz; exact steps_yes1 c a w hn hm0 hm2 hup h (hr _ (by omega) (by omega)) hm ht
        · exact steps_yes2 c a d w hn hm0 hm2 hd.1 hd.2 hz hup h (hr _ (by omega) (by omega)) hm ht
    · have ht : touched (left c a n) d = m := by rw [hm]; simp [touched, hu]
      have hup : d = 0 → ¬ m < 255 := fun hz hl => hu (by subst hz; simp [upB, hl])
      by_cases he : a < n
      · by_cases hz : d = 0
        · have hu2 := hup hz; clear hup; subst hz; exact steps_yes7 c a m n w hn hm0 hm2 he hmc hu2 h (hr _ (by omega) (by omega)) hm ht
        · exact steps_yes8 c a m n d w hn hm0 hm2 hd.1 hd.2 hz he hmc h (hr _ (by omega) (by omega)) hm ht
      · obtain rfl : a = n := by omega
        obtain rfl : c = m := by rw [← hm]; unfold left; omega
        by_cases hz : d = 0
        · have hu2 := hup hz; clear hup; subst hz; exact steps_yes5 c a w hn hm0 hm2 hu2 h (hr _ (by omega) (by omega)) hm ht
        · exact steps_yes6 c a d w hn hm0 hm2 hd.1 hd.2 hz h (hr _ (by omega) (by omega)) hm ht
  · exact steps_no c a n d w (by simpa using h)

set_option maxRecDepth 100000 in
theorem steps_lifted (os : Os) (started : os.Started) (H : Type) (enc : TypeId × Value → H) :
    ReturnsInHanded {} Try.checked os 3 .any (Rows.lfuStepsSpec.pre6 enc Try.prog Try.f3 Rows.lfuStepsRow.domain false) (Rows.lfuStepsSpec.post enc Try.prog Try.f3 false true false false) := by
  refine returnsInHanded_of_change (C := Try.checked) own started (by kernel_rfl) Try.func3
    (ChangeSpec.witness6 (enc := enc) (C := Try.checked) false ⟨#[], #[.agg #[.int .i64 0, .int .i64 0], .int .i64 0, .int .u32 0], []⟩ 8 (by kernel_rfl) (by kernel_rfl) (by kernel_rfl) (by kernel_rfl)) ?_
  intro W base args ds gs before hval0 hW hcnd _
  have hval : ∀ (j : Nat) t v, Try.f3.params[j]? = some t → args[j]? = some v → Value.okWide Try.prog W .any base t v := hval0
  have hW' := hW
  obtain ⟨p, q, hA0, hV, rfl, hfz, hnd⟩ := hW
  have hA : DataW.TrodAll enc Try.prog W 0 (fun _ => true) true Try.f3.params.toList args.toList ds p := hA0
  rw [Try.params3] at hA hval
  obtain ⟨v0, vs0, d0, ds0, p0, q0, hargs, rfl, rfl, h0, r0⟩ := trodAll_cons hA
  obtain ⟨v1, vs1, d1, ds1, p1, q1, rfl, rfl, rfl, h1, r1⟩ := trodAll_cons r0
  obtain ⟨v2, vs2, d2, ds2, p2, q2, rfl, rfl, rfl, h2, r2⟩ := trodAll_cons r1
  obtain ⟨rfl, rfl, rfl⟩ := trodAll_nil r2
  obtain rfl : args = #[v0, v1, v2] := by cases args; simp_all
  obtain ⟨rfl, rfl⟩ := trodVars_none hV
  have k0 := h0
  have l0 : ∀ x ∈ p0, x.block < W.heap.size := fun x hx => by simpa using hW'.lt x (by simp [hx])
  obtain ⟨b0, c0, y0, z0, m0, rfl, hd0, hp0, hy0, hz0⟩ := open_agg2 Try.underlying23 (by kernel_rfl) cells23 (hval 0 23 v0 rfl rfl) h0
  obtain ⟨a0, e0, _, w0⟩ := DataW.trod_int Try.underlying3 hy0
  obtain ⟨a0', e0', _, w0'⟩ := DataW.trod_int Try.underlying3 hz0
  simp at e0 e0'
  subst e0 e0'
  have k1 := h1
  have l1 : ∀ x ∈ p1, x.block < W.heap.size := fun x hx => by simpa using hW'.lt x (by simp [hx])
  obtain ⟨a1, rfl, rfl, rfl, w1⟩ := open_int Try.underlying3 (hval 1 3 v1 rfl rfl) h1
  have k2 := h2
  have l2 : ∀ x ∈ p2, x.block < W.heap.size := fun x hx => by simpa using hW'.lt x (by simp [hx])
  obtain ⟨a2, rfl, rfl, rfl, w2⟩ := open_int Try.underlying24 (hval 2 24 v2 rfl rfl) h2
  clear hA0 hval0
  refine (steps_any a0 a0' a1 a2 w0 w0' w1 w2 W).mono fun e W' ⟨he, hb⟩ => ?_
  subst he
  exact ⟨_, rfl, _, _, _, [], _, [], hW', (trodAll_cons_mk (shut_bool Try.underlying4 _) trodAll_mk0), (trodAll_cons_mk (Below.trod laidOut (by kernel_rfl) (of_decide_eq_true (by kernel_rfl)) k0 hb l0) (trodAll_cons_mk (Below.trod laidOut (by kernel_rfl) (of_decide_eq_true (by kernel_rfl)) k1 hb l1) (trodAll_cons_mk (Below.trod laidOut (by kernel_rfl) (of_decide_eq_true (by kernel_rfl)) k2 hb l2) trodAll_mk0))), rfl, hb.frame _, fun h => by cases h⟩

/-- The statement: LfuSteps. -/
theorem steps_holds : Rows.LfuStepsSaid :=
  OpenClaim.holds_of_wide 3 Try.f3 rfl rfl rfl rfl rfl rfl rfl ⟨rfl, rfl, rfl, rfl, rfl⟩ rfl rfl rfl rfl rfl (by kernel_rfl) Try.func3 (by kernel_rfl)
    (of_decide_eq_true (by kernel_rfl)) (by unfold Func.isWrapper; first | (rw [if_pos (by decide +kernel)]; kernel_rfl) | (rw [if_neg (by decide +kernel)]; exact ⟨rfl, rfl⟩))
    (fun os started H enc _ => steps_lifted os started H enc)
#print axioms steps_holds

end Go.Proofs.Ytbfffjppdmpbhaa
