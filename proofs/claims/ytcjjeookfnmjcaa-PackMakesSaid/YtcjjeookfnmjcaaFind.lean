import Derived.Test.YtcjjeookfnmjcaaBack
namespace Go.Proofs.Ytcjjeookfnmjcaa
open Go.RowKit Go.Shelf Go.Proofs.YtcjjeookfnmjcaaW.PrintWords
set_option linter.unusedVariables false
attribute [local go_sem] Oper.semAt_some

def findFrom : List Ent → ByteArray → Int → Int
  | [], _, _ => -1
  | e :: l, m, i => if e.1 = m then i else findFrom l m (i + 1)
def findL (l : List Ent) (m : ByteArray) : Int := findFrom l m 0
theorem findFrom_none (m : ByteArray) : ∀ (l : List Ent) (i : Int), (∀ e, e ∈ l → e.1 ≠ m) → findFrom l m i = -1
  | [], _, _ => rfl
  | e :: l, i, h => by rw [findFrom, if_neg (h e (by simp))]; exact findFrom_none m l (i + 1) (fun x hx => h x (by simp [hx]))
theorem findFrom_some (m : ByteArray) (x : Ent) (hx : x.1 = m) (r : List Ent) : ∀ (l : List Ent) (i : Int), (∀ e, e ∈ l → e.1 ≠ m) → findFrom (l ++ x :: r) m i = i + l.length
  | [], i, _ => by simp [findFrom, hx]
  | e :: l, i, h => by
    rw [List.cons_append, findFrom, if_neg (h e (by simp)), findFrom_some m x hx r l (i + 1) (fun y hy => h y (by simp [hy]))]
    simp; omega

structure FindI (w w1 : World) (p m : ByteArray) (pre : List Spot) (W : World) : Prop where
  at_ : Boxed W w1.heap.size 3 (.int .i64 (pre.length : Int))
  found : Boxed W (w1.heap.size + 1) 3 (.int .i64 (-1))
  text : Boxed W (w1.heap.size + 2) 9 (.string p)
  mem : Boxed W w.heap.size 9 (.string m)
  none_ : ∀ x, x ∈ pre → x.1.1 ≠ m
  below : Below w.heap.size w W
  below1 : Below w1.heap.size w1 W
theorem FindI.own (w w1 : World) (p m : ByteArray) (B : Nat) (hB : w1.heap.size ≤ B) (hw : w.heap.size ≤ w1.heap.size) : OwnFrom B (fun pre W => FindI w w1 p m pre W) := fun s X Y row hs hg hr => by
  have ne : ∀ {b : Nat} {t : TypeId} {v : Value}, Boxed X b t v → some b ≠ row := fun {b t v} hb e => by
    obtain ⟨_, o, ho, hc⟩ := hr b e.symm
    rw [show X.heap[b]? = _ from hb] at ho; cases ho; cases hc
  exact ⟨hs.at_.kept hg (ne hs.at_), hs.found.kept hg (ne hs.found), hs.text.kept hg (ne hs.text), hs.mem.kept hg (ne hs.mem), hs.none_, ownFrom_below (β := Unit) (Nat.le_refl _) (by omega) () X Y row hs.below hg hr, ownFrom_below (β := Unit) (Nat.le_refl _) hB () X Y row hs.below1 hg hr⟩
structure FindX (w w1 : World) (m : ByteArray) (c : Code) (pre : List Spot) (W : World) : Prop where
  code : c = .exit 0
  last : ∃ p x, pre = p ++ [x] ∧ x.1.1 = m ∧ (∀ y, y ∈ p → y.1.1 ≠ m) ∧ Boxed W (w1.heap.size + 1) 3 (.int .i64 (p.length : Int))
  below : Below w.heap.size w W
theorem FindX.own (w w1 : World) (m : ByteArray) (c : Code) (B : Nat) (hB : w.heap.size ≤ B) : OwnFrom B (fun pre W => FindX w w1 m c pre W) := fun s X Y row hs hg hr => by
  obtain ⟨p, x, e1, e2, e3, hb⟩ := hs.last
  refine ⟨hs.code, ⟨p, x, e1, e2, e3, hb.kept hg (fun e => ?_)⟩, ownFrom_below (β := Unit) (Nat.le_refl _) hB () X Y row hs.below hg hr⟩
  obtain ⟨_, o, ho, hc⟩ := hr _ e.symm
  rw [show X.heap[_]? = _ from hb] at ho; cases ho; cases hc
structure FindA (w w1 : World) (p m : ByteArray) (x : Spot) (a' : Act) (W : World) (Bx : Nat) : Prop where
  lt : w1.heap.size + 2 < Bx
  box : Box4 W Bx 56 (spotC x)
  act : a' = { tmps := #[.string p, .string m, undef, .pointer (some ⟨w.heap.size, 0, none⟩), .int .i64 0, .pointer (some ⟨w1.heap.size, 0, none⟩), .pointer (some ⟨w1.heap.size + 1, 0, none⟩), .pointer (some ⟨Bx, 0, none⟩), undef, .string p, .bool true, .bool false, .string p, .func (.func 38) #[] #[.pointer (some ⟨w1.heap.size + 1 + 1, 0, none⟩)], .agg #[.string x.1.1, .int .i64 x.1.2, .int .i64 x.2.1, .int .i64 x.2.2], undef, undef, undef, undef, undef, undef, undef, undef, undef, undef, undef, undef, undef], defers := [] }
theorem FindA.own (w w1 : World) (p m : ByteArray) (x : Spot) (a' : Act) (B : Nat) : OwnFrom B (fun (_ : Unit) W => ∃ Bx, FindA w w1 p m x a' W Bx) := fun s X Y row hs hg hr => by
  obtain ⟨Bx, h1, h2, h4⟩ := hs
  refine ⟨Bx, h1, h2.kept hg (fun e => ?_), h4⟩
  obtain ⟨_, o, ho, hc⟩ := hr _ e.symm
  rw [show X.heap[Bx]? = _ from h2] at ho; cases ho; cases hc

set_option maxRecDepth 100000 in
set_option maxHeartbeats 2000000 in
theorem find_ok (p : ByteArray) (hp : p.size ≤ 1000000) (m : ByteArray) (hok : ok p = true) (w : World) :
    Calls Try.prog 20 #[.string p, .string m] w fun e w' => e = .returned (.int .i64 (findL (ents p) m)) ∧ Below w.heap.size w w' := by
  have hrb := right_any p hp
  rw [hok] at hrb
  have hsmall := spots_small p hp
  refine (callsIn_wide (n := 9)).1 ?_
  refine callsIn_of_wp_marks Try.func20 rfl trivial ?_ rfl
  simp only [Try.ntmps20, List.size_toArray, List.length_cons, List.length_nil, Nat.reduceAdd, Nat.reduceSub, Array.replicate_succ, Array.replicate_zero, List.push_toArray, List.append_toArray, List.nil_append, List.cons_append]
  refine wpIn_wide.2 ?_
  go_wp2_with fail
  go_step3
  go_wp2_with fail
  refine (hrb _).mono ?_
  rintro e w1 ⟨rfl, hb1⟩
  go_wp2_with fail
  go_step3
  go_wp2_with fail
  refine (spots_any _ _).mono ?_
  rintro e w6 ⟨rfl, rfl⟩
  go_wp2_with fail
  have hzw := hb1.size
  rw [World.size_alloc] at hzw
  have hbm1 : Boxed w1 w.heap.size 9 (.string m) := (hb1.block _ (by simp)).trans (Boxed.new w 9 (.string m))
  obtain ⟨W6, hW6⟩ : ∃ W6, ((w1.alloc (.cells #[.int .i64 0] 3)).alloc (.cells #[.int .i64 (-1)] 3)).alloc (.cells #[.string p] 9) = W6 := ⟨_, rfl⟩
  have hz6 : W6.heap.size = w1.heap.size + 3 := by rw [← hW6]; simp
  have hB61 : Below w1.heap.size w1 W6 := by
    rw [← hW6]
    exact ((((Below.refl _ w1).alloc (Nat.le_refl _) _).alloc (by simp) _).alloc (by simp; omega) _)
  have hB6 : Below w.heap.size w W6 := (((Below.refl w.heap.size w).alloc (Nat.le_refl _) _).trans (hb1.mono (by simp))).trans (hB61.mono (by omega))
  have b0 : Boxed W6 w1.heap.size 3 (.int .i64 0) := by
    rw [← hW6]
    exact ((Boxed.new w1 3 (.int .i64 0)).alloc _).alloc _
  have b1 : Boxed W6 (w1.heap.size + 1) 3 (.int .i64 (-1)) := by
    rw [← hW6]
    have := Boxed.new (w1.alloc (.cells #[.int .i64 0] 3)) 3 (.int .i64 (-1))
    simp only [World.size_alloc] at this
    exact this.alloc _
  have b2 : Boxed W6 (w1.heap.size + 2) 9 (.string p) := by
    rw [← hW6]
    have := Boxed.new ((w1.alloc (.cells #[.int .i64 0] 3)).alloc (.cells #[.int .i64 (-1)] 3)) 9 (.string p)
    simp only [World.size_alloc] at this
    exact this
  have bm : Boxed W6 w.heap.size 9 (.string m) := (hB61.block _ hbm1.lt).trans hbm1
  rw [hW6]
  clear hW6
  refine (wpIn_wide (n := 9)).1 (wpIn_rangeFunc_ownH (F := Fence.wide) (α := Spot) rfl (by omega) (gf := 38) rfl trivial (enters_of Try.func38 (by kernel_rfl) rfl)
    (spots_stops 8 (by omega) (w1.heap.size + 2) w1.heap.size p hp W6 (by omega) b2.cell) KeptN.trans (KeptN.putObj (by omega) (by omega)) (Below.refl _ _) (fun _ => rfl)
    (fun pre W => FindI w w1 p m pre W)
    (fun c pre W => FindX w w1 m c pre W)
    (FindI.own w w1 p m _ (by omega) (by omega))
    (fun c => FindX.own w w1 m c _ (by omega))
    ⟨b0, b1, b2, bm, by simp, hB6, hB61⟩
    (fun x a' W => ∃ Bx, FindA w w1 p m x a' W Bx)
    (fun x a' => FindA.own w w1 p m x a' _)
    ?assign ?body ?done ?stop)
  case assign =>
    intro l pre x W K hI hK
    have hK' := Lib.hid hK
    clear hK
    have hsz2 := hI.text.lt
    have HI := Lib.hid hI
    clear hI
    gi_wp2
    exact hK'.out _ _ ((KeepsOthers.alloc _ _).from _) ⟨(Below.refl _ W).alloc HI.out.below1.size _, Below.heap_alloc _ _ _ hsz2⟩ ⟨HI.out.at_.alloc _, HI.out.found.alloc _, HI.out.text.alloc _, HI.out.mem.alloc _, HI.out.none_, HI.out.below.alloc HI.out.below.size _, HI.out.below1.alloc HI.out.below1.size _⟩ ⟨W.heap.size, hsz2, Box4.new W 56 (spotC x), rfl⟩
  case body =>
    rintro l pre x a' W hl ⟨r, hr⟩ hI ⟨Bx, hlt, hbx, rfl⟩ hlen
    have hx0 := hbx.cell 0 (by simp [spotC])
    have hx1 := hbx.cell 1 (by simp [spotC])
    simp only [spotC, List.getElem_cons_zero, List.getElem_cons_succ] at hx0 hx1
    have hBx := hbx.lt
    have hc0 := hI.at_.cell
    have hf0 := hI.at_.frozen
    have hl0 := hI.at_.lt
    have hc1 := hI.found.cell
    have hf1 := hI.found.frozen
    have hl1 := hI.found.lt
    have hcm := hI.mem.cell
    have hlm := hI.mem.lt
    have HI := Lib.hid hI
    clear hI
    by_cases hxm : x.1.1 = m
    · subst hxm
      gi_wp2_with fail
      refine ⟨((KeepsOthers.setCell _ _ _).trans (KeepsOthers.alloc _ _)).from _, rfl, ⟨pre, x, rfl, rfl, HI.out.none_, (HI.out.found.set _).alloc _⟩, (HI.out.below.setCell (p := ⟨w1.heap.size + 1, 0, none⟩) (by show w.heap.size ≤ w1.heap.size + 1; omega) _).alloc (by simp; exact HI.out.below.size) _⟩
    · have hq : ¬ x.1.1.toList = m.toList := fun h => hxm (by rw [ByteArray.toList_eq, ByteArray.toList_eq] at h; exact Go.WideShapes.bytes_inj h)
      gi_wp2_with fail
      have hps : ((pre ++ [x]).length : Int) = (pre.length : Int) + 1 := by simp
      refine ⟨((KeepsOthers.setCell _ _ _).trans (KeepsOthers.alloc _ _)).from _, ⟨((Below.refl _ W).setCell (p := ⟨w1.heap.size, 0, none⟩) (Nat.le_refl _) _).alloc (by simp; exact HI.out.below1.size) _, ?_⟩, ?_, ?_, ?_, ?_, ?_, ?_, ?_⟩
      · exact (((HI.out.text.other (by omega) _).alloc _) : Boxed _ _ _ _).trans HI.out.text.symm
      · rw [hps]; exact (HI.out.at_.set _).alloc _
      · exact (HI.out.found.other (by omega) _).alloc _
      · exact (HI.out.text.other (by omega) _).alloc _
      · exact (HI.out.mem.other (by omega) _).alloc _
      · intro y hy
        rcases List.mem_append.1 hy with h | h
        · exact HI.out.none_ y h
        · rw [List.mem_singleton.1 h]; exact hxm
      · exact (HI.out.below.setCell (p := ⟨w1.heap.size, 0, none⟩) (by show w.heap.size ≤ w1.heap.size; omega) _).alloc (by simp; exact HI.out.below.size) _
      · exact (HI.out.below1.setCell (p := ⟨w1.heap.size, 0, none⟩) (Nat.le_refl _) _).alloc (by simp; exact HI.out.below1.size) _
  case done =>
    rintro D ys W hD rfl hI hK
    have hc1 := hI.found.cell
    have hB := hI.below
    have hfl : findL (ents p) m = -1 := findFrom_none m _ 0 (fun e he => by
      obtain ⟨s, hs, rfl⟩ := List.mem_map.1 he
      exact hI.none_ s hs)
    have HF := Lib.hid hfl
    clear hfl hI
    go_wp2_with fail
    rw [Exit.noGoto_ret]
    refine ⟨by simp, .inl ⟨_, _, rfl, run_takeDeferred hK, ?_⟩⟩
    exact ⟨_, results_tmp rfl _ _ _, by rw [HF.out]; rfl, hB.trans (belowK_b (w := w) (Nat.le_refl _) _ D _ _ (by omega) hK rfl rfl)⟩
  case stop =>
    rintro D c pre W hD hpre hX hK
    obtain ⟨rfl, ⟨q, x, hq, hxm, hno, hbx⟩, hB⟩ := hX
    have hfl : findL (ents p) m = (q.length : Int) := by
      obtain ⟨r, hr⟩ := hpre
      have he : ents p = q.map (·.1) ++ x.1 :: r.map (·.1) := by unfold ents; rw [← hr, hq]; simp
      rw [he]
      have := findFrom_some m x.1 hxm (r.map (·.1)) (q.map (·.1)) 0 (fun e he => by
        obtain ⟨s, hs, rfl⟩ := List.mem_map.1 he
        exact hno s hs)
      unfold findL
      rw [this]; simp
    have HF := Lib.hid hfl
    have hc1 := hbx.cell
    clear hbx hfl hq hpre
    refine wpIn_wide.2 ?_
    go_wp2_with fail
    rw [Exit.noGoto_ret]
    refine ⟨by simp, .inl ⟨_, _, rfl, run_takeDeferred hK, ?_⟩⟩
    exact ⟨_, results_tmp rfl _ _ _, by rw [HF.out]; rfl, hB.trans (belowK_b (w := w) (Nat.le_refl _) _ D _ _ (by omega) hK rfl rfl)⟩

end Go.Proofs.Ytcjjeookfnmjcaa
