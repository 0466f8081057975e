import Derived.Test.YtbfffjppdmpbhaaIter
namespace Go.Proofs.Ytbfffjppdmpbhaa
open Go.RowKit Go.Shelf
set_option linter.unusedVariables false
attribute [local go_sem] Oper.semAt_some

theorem okAll_of {now : Int} {us : List (Int × Int)} (h : ∀ x, x ∈ us.map (ev now) → x.2 = 0) : okAll now us = true := by
  unfold okAll
  rw [List.all_eq_true]
  intro u hu
  have := h _ (List.mem_map_of_mem hu)
  by_cases hf : fineB u.1 u.2 now = true
  · exact hf
  · simp [ev, hf] at this
theorem okAll_not {now : Int} {us : List (Int × Int)} {x : Int × Int} (hx : x ∈ us.map (ev now)) (h : x.2 ≠ 0) : x.2 = 130 ∧ okAll now us = false := by
  obtain ⟨u, hu, rfl⟩ := List.mem_map.1 hx
  have hf : ¬ fineB u.1 u.2 now = true := fun hf => h (by simp [ev, hf])
  refine ⟨by simp [ev, hf], ?_⟩
  by_cases ha : okAll now us = true
  · exact absurd (List.all_eq_true.1 ha u hu) hf
  · simpa using ha

/-- Between two rounds: all that came are right; the four boxes hold what the prefix comes to. -/
structure LeastI (w : World) (pre : List (Int × Int)) (W : World) : Prop where
  fine : ∀ x, x ∈ pre → x.2 = 0
  at_ : Boxed W w.heap.size 3 (.int .i64 (mst pre).1)
  low : Boxed W (w.heap.size + 1) 3 (.int .i64 (mst pre).2.1)
  num : Boxed W (w.heap.size + 2) 3 (.int .i64 (pre.length : Int))
  wrong : Boxed W (w.heap.size + 3) 26 (.int .i64 0)
  below : Below w.heap.size w W
theorem LeastI.own (w : World) (B : Nat) (hB : w.heap.size ≤ B) : OwnFrom B (fun pre W => LeastI w pre W) := fun s X Y row hs hg hr => by
  have ne : ∀ {b : Nat} {t : TypeId} {v : Value}, Boxed X b t v → some b ≠ row := fun {b t v} hb e => by
    obtain ⟨_, o, ho, hc⟩ := hr b e.symm
    rw [show X.heap[b]? = _ from hb] at ho; cases ho; cases hc
  exact ⟨hs.fine, hs.at_.kept hg (ne hs.at_), hs.low.kept hg (ne hs.low), hs.num.kept hg (ne hs.num), hs.wrong.kept hg (ne hs.wrong), ownFrom_below (β := Unit) (Nat.le_refl _) hB () X Y row hs.below hg hr⟩
/-- A round has left: the last that came is wrong. -/
structure LeastX (w : World) (c : Code) (pre : List (Int × Int)) (W : World) : Prop where
  code : c = .exit 0
  last : ∃ p x, pre = p ++ [x] ∧ x.2 ≠ 0 ∧ Boxed W (w.heap.size + 3) 26 (.int .i64 x.2)
  below : Below w.heap.size w W
theorem LeastX.own (w : World) (c : Code) (B : Nat) (hB : w.heap.size ≤ B) : OwnFrom B (fun pre W => LeastX w c pre W) := fun s X Y row hs hg hr => by
  obtain ⟨p, x, e1, e2, hb⟩ := hs.last
  refine ⟨hs.code, ⟨p, x, e1, e2, hb.kept hg (fun e => ?_)⟩, ownFrom_below (β := Unit) (Nat.le_refl _) hB () X Y row hs.below hg hr⟩
  obtain ⟨_, o, ho, hc⟩ := hr _ e.symm
  rw [show X.heap[_]? = _ from hb] at ho; cases ho; cases hc

set_option maxRecDepth 100000 in
set_option maxHeartbeats 2000000 in
theorem least_some (now : Int) (hnow : now ≤ 9223372036854775807) (b off cap : Nat) (us : List (Int × Int)) (h1 : 0 < us.length) (h50 : us.length ≤ 50) (w : World) (hb : b < w.heap.size) (hc : UsesAt w b off us) :
    Calls Try.prog 19 #[.slice (some ⟨b, off, none⟩) us.length cap, .int .i64 now] w fun e w' => (okAll now us = true ∧ e = .returned (.tuple #[.int .i64 (mst (us.map (ev now))).1, .int .i64 0]) ∨ okAll now us = false ∧ e = .returned (.tuple #[.int .i64 0, .int .i64 130])) ∧ Below w.heap.size w w' := by
  refine (callsIn_wide (n := 9)).1 ?_
  refine callsIn_of_wp_marks Try.func19 rfl trivial ?_ rfl
  simp only [Try.ntmps19, List.size_toArray, List.length_cons, List.length_nil, Nat.reduceAdd, Nat.reduceSub, Array.replicate_succ, Array.replicate_zero, List.push_toArray, List.append_toArray, List.nil_append, List.cons_append]
  refine wpIn_wide.2 ?_
  have hl0 : ((us.length : Int) == 0) = false := beq_eq_false_iff_ne.2 (by omega)
  go_wp2
  go_step3
  go_wp2
  go_step3
  go_wp2_with fail
  refine (counts_any _ _ _ _ _).mono ?_
  rintro e w6 ⟨rfl, rfl⟩
  go_wp2_with fail
  obtain ⟨W6, hW6⟩ : ∃ W6, (((((w.alloc (.cells #[.int .i64 0] 3)).alloc (.cells #[.int .i64 256] 3)).alloc (.cells #[.int .i64 0] 3)).alloc (.cells #[.int .i64 0] 26)).alloc (.cells #[.slice (some ⟨b, off, none⟩) us.length cap] 37)).alloc (.cells #[.int .i64 now] 3) = W6 := ⟨_, rfl⟩
  have hz6 : W6.heap.size = w.heap.size + 6 := by rw [← hW6]; simp
  have hB6 : Below w.heap.size w W6 := by
    rw [← hW6]
    exact ((((((Below.refl _ w).alloc (Nat.le_refl _) _).alloc (by simp) _).alloc (by simp; omega) _).alloc (by simp; omega) _).alloc (by simp; omega) _).alloc (by simp; omega) _
  have b0 : Boxed W6 w.heap.size 3 (.int .i64 0) := by
    rw [← hW6]
    exact (((((Boxed.new w 3 (.int .i64 0)).alloc _).alloc _).alloc _).alloc _).alloc _
  have b1 : Boxed W6 (w.heap.size + 1) 3 (.int .i64 256) := by
    rw [← hW6]
    have := Boxed.new (w.alloc (.cells #[.int .i64 0] 3)) 3 (.int .i64 256)
    simp only [World.size_alloc] at this
    exact (((this.alloc _).alloc _).alloc _).alloc _
  have b2 : Boxed W6 (w.heap.size + 2) 3 (.int .i64 0) := by
    rw [← hW6]
    have := Boxed.new ((w.alloc (.cells #[.int .i64 0] 3)).alloc (.cells #[.int .i64 256] 3)) 3 (.int .i64 0)
    simp only [World.size_alloc] at this
    exact ((this.alloc _).alloc _).alloc _
  have b3 : Boxed W6 (w.heap.size + 3) 26 (.int .i64 0) := by
    rw [← hW6]
    have := Boxed.new (((w.alloc (.cells #[.int .i64 0] 3)).alloc (.cells #[.int .i64 256] 3)).alloc (.cells #[.int .i64 0] 3)) 26 (.int .i64 0)
    simp only [World.size_alloc] at this
    exact (this.alloc _).alloc _
  have b4 : Boxed W6 (w.heap.size + 4) 37 (.slice (some ⟨b, off, none⟩) us.length cap) := by
    rw [← hW6]
    have := Boxed.new ((((w.alloc (.cells #[.int .i64 0] 3)).alloc (.cells #[.int .i64 256] 3)).alloc (.cells #[.int .i64 0] 3)).alloc (.cells #[.int .i64 0] 26)) 37 (.slice (some ⟨b, off, none⟩) us.length cap)
    simp only [World.size_alloc] at this
    exact this.alloc _
  have b5 : Boxed W6 (w.heap.size + 5) 3 (.int .i64 now) := by
    rw [← hW6]
    have := Boxed.new (((((w.alloc (.cells #[.int .i64 0] 3)).alloc (.cells #[.int .i64 256] 3)).alloc (.cells #[.int .i64 0] 3)).alloc (.cells #[.int .i64 0] 26)).alloc (.cells #[.slice (some ⟨b, off, none⟩) us.length cap] 37)) 3 (.int .i64 now)
    simp only [World.size_alloc] at this
    exact this
  rw [hW6]
  clear hW6
  refine (wpIn_wide (n := 9)).1 (wpIn_rangeFunc_ownG (F := Fence.wide) (α := Int × Int) rfl (by omega) (gf := 23) rfl trivial (enters_of Try.func23 (by kernel_rfl) rfl)
    (counts_stops 8 (by omega) (w.heap.size + 4) (w.heap.size + 5) w.heap.size now hnow _ us (by omega) W6 (by omega)
      (.inr ⟨b, off, cap, rfl, hb, fun j hj => ⟨(hB6.cell (p := ⟨b, off + j * 2, none⟩) hb).trans (hc j hj).1, (hB6.cell (p := ⟨b, off + j * 2 + 1, none⟩) hb).trans (hc j hj).2⟩⟩) b4.cell b5.cell) KeptN.trans (KeptN.putObj (by omega) (by omega)) (Below.refl _ _) (fun _ => rfl)
    (fun pre W => LeastI w pre W)
    (fun c pre W => LeastX w c pre W)
    (LeastI.own w _ (by omega))
    (fun c => LeastX.own w c _ (by omega))
    ⟨by simp, b0, b1, b2, b3, hB6⟩
    ?a1 ?assign ?body ?done ?stop)
  case assign =>
    intro l x W K hK
    have hK' := Lib.hid hK
    clear hK
    gi_wp2
    exact hK'.out
  case body =>
    rintro l pre x W hI hl
    have hlen : pre.length < 50 := by omega
    have hc0 := hI.at_.cell
    have hc1 := hI.low.cell
    have hc2 := hI.num.cell
    have hc3 := hI.wrong.cell
    have hf0 := hI.at_.frozen
    have hf1 := hI.low.frozen
    have hf2 := hI.num.frozen
    have hf3 := hI.wrong.frozen
    obtain ⟨x1, x2⟩ := x
    by_cases hx : x2 = 0
    · subst hx
      have hfine : ∀ y, y ∈ pre ++ [(x1, (0 : Int))] → y.2 = 0 := fun y hy => by
        rcases List.mem_append.1 hy with h | h
        · exact hI.fine y h
        · rw [List.mem_singleton.1 h]
      have hlen2 : ((pre ++ [(x1, (0 : Int))]).length : Int) = (pre.length : Int) + 1 := by simp
      have HL := Lib.hid hlen2
      clear hlen2
      by_cases hlow : x1 < (mst pre).2.1
      · have E1 := Lib.hid (show (mst (pre ++ [(x1, (0 : Int))])).1 = pre.length by rw [mst_snoc]; simp [mstep, hlow, mst_third])
        have E2 := Lib.hid (show (mst (pre ++ [(x1, (0 : Int))])).2.1 = x1 by rw [mst_snoc]; simp [mstep, hlow])
        gi_wp2
        refine ⟨((((KeepsOthers.setCell _ _ _).trans (KeepsOthers.setCell _ _ _)).trans (KeepsOthers.setCell _ _ _)).from _), ?_, hfine, ?_, ?_, ?_, ?_, ?_⟩
        · exact ⟨(((Below.refl _ W).setCell (p := ⟨w.heap.size, 0, none⟩) (Nat.le_refl _) _).setCell (p := ⟨w.heap.size + 1, 0, none⟩) (Nat.le_add_right _ _) _).setCell (p := ⟨w.heap.size + 1 + 1, 0, none⟩) (Nat.le_add_right _ 2) _,
            by rw [Below.heap_setCell _ _ _ _ (show w.heap.size + 5 ≠ w.heap.size + 1 + 1 by omega), Below.heap_setCell _ _ _ _ (show w.heap.size + 5 ≠ w.heap.size + 1 by omega), Below.heap_setCell _ _ _ _ (show w.heap.size + 5 ≠ w.heap.size by omega)]⟩
        · rw [E1.out]; exact ((hI.at_.set _).other (by omega) _).other (by omega) _
        · rw [E2.out]; exact ((hI.low.other (by omega) _).set _).other (by omega) _
        · rw [HL.out]; exact ((hI.num.other (by omega) _).other (by omega) _).set _
        · exact ((hI.wrong.other (by omega) _).other (by omega) _).other (by omega) _
        · exact ((hI.below.setCell (p := ⟨w.heap.size, 0, none⟩) (Nat.le_refl _) _).setCell (p := ⟨w.heap.size + 1, 0, none⟩) (Nat.le_add_right _ _) _).setCell (p := ⟨w.heap.size + 1 + 1, 0, none⟩) (Nat.le_add_right _ 2) _
      · have E1 := Lib.hid (show (mst (pre ++ [(x1, (0 : Int))])).1 = (mst pre).1 by rw [mst_snoc]; simp [mstep, hlow])
        have E2 := Lib.hid (show (mst (pre ++ [(x1, (0 : Int))])).2.1 = (mst pre).2.1 by rw [mst_snoc]; simp [mstep, hlow])
        gi_wp2
        refine ⟨((KeepsOthers.setCell _ _ _).from _), ?_, hfine, ?_, ?_, ?_, ?_, ?_⟩
        · exact ⟨(Below.refl _ W).setCell (p := ⟨w.heap.size + 1 + 1, 0, none⟩) (Nat.le_add_right _ 2) _, Below.heap_setCell _ _ _ _ (show w.heap.size + 5 ≠ w.heap.size + 1 + 1 by omega)⟩
        · rw [E1.out]; exact hI.at_.other (by omega) _
        · rw [E2.out]; exact hI.low.other (by omega) _
        · rw [HL.out]; exact hI.num.set _
        · exact hI.wrong.other (by omega) _
        · exact hI.below.setCell (p := ⟨w.heap.size + 1 + 1, 0, none⟩) (Nat.le_add_right _ 2) _
    · have hx' : (x2 != 0) = true := by simpa using hx
      gi_wp2
      exact ⟨(KeepsOthers.setCell _ _ _).from _, rfl, ⟨pre, _, rfl, hx, hI.wrong.set _⟩, hI.below.setCell (p := ⟨w.heap.size + 3, 0, none⟩) (Nat.le_add_right _ _) _⟩
  case done =>
    rintro D ys W hD rfl hI hK
    have hc0 := hI.at_.cell
    have hc3 := hI.wrong.cell
    have hB := hI.below
    go_wp2
    rw [Exit.noGoto_ret]
    refine ⟨by simp, .inl ⟨_, _, rfl, run_takeDeferred hK, ?_⟩⟩
    exact ⟨_, results_tmp2 rfl _ _ _, .inl ⟨okAll_of hI.fine, rfl⟩, hB.trans (belowK_b (w := w) (Nat.le_refl _) _ D _ _ (by omega) hK rfl rfl)⟩
  case stop =>
    rintro D c pre W hD ⟨k, hk, hpre⟩ hX hK
    obtain ⟨rfl, ⟨p, x, hp, hx, hbx⟩, hB⟩ := hX
    obtain ⟨hx2, hno⟩ := okAll_not (now := now) (us := us) (x := x) (List.mem_of_mem_take (i := k) (by rw [← hpre, hp]; simp)) hx
    rw [hx2] at hbx
    have hc3 := hbx.cell
    clear hbx hp hpre
    refine wpIn_wide.2 ?_
    go_wp2
    go_quiet (fail)
    go_wp2
    rw [Exit.noGoto_ret]
    have hK2 : (W.drewN nq).heap[D]? = some (.deferred (some [])) := hK
    have hB2 : Below w.heap.size w (W.drewN nq) := below_drewN hB nq
    refine ⟨by simp, .inl ⟨_, _, rfl, run_takeDeferred hK2, ?_⟩⟩
    exact ⟨_, results_tmp2 rfl _ _ _, .inr ⟨hno, rfl⟩, hB2.trans (belowK_b (w := w) (Nat.le_refl _) _ D _ _ (by omega) hK2 rfl rfl)⟩

theorem least_is (now : Int) (hnow : now ≤ 9223372036854775807) (A : Option Addr) (len cap : Nat) (us : List (Int × Int)) (hlen : us.length = len) (h50 : len ≤ 50) (w : World) (hsl : IsUses w w.heap.size (.slice A len cap) us) :
    Calls Try.prog 19 #[.slice A len cap, .int .i64 now] w fun e w' => e = .returned (.tuple #[.int .i64 (least now us).1, .int .i64 (least now us).2]) ∧ Below w.heap.size w w' := by
  subst hlen
  by_cases h0 : us = []
  · subst h0
    rw [show least now [] = (0, 130) by simp [least]]
    exact least_zero A cap now hnow w
  · rcases hsl with ⟨hu, _⟩ | ⟨b, off, cap', hs, hb, hc⟩
    · exact absurd hu h0
    · cases hs
      have hl : 0 < us.length := List.length_pos_iff.2 h0
      refine (least_some now hnow b off cap us hl h50 w hb hc).mono ?_
      rintro e w' ⟨h | h, hB⟩
      · exact ⟨by rw [show least now us = ((mst (us.map (ev now))).1, 0) by simp [least, h0, h.1]]; exact h.2, hB⟩
      · exact ⟨by rw [show least now us = (0, 130) by simp [least, h.1]]; exact h.2, hB⟩

end Go.Proofs.Ytbfffjppdmpbhaa
