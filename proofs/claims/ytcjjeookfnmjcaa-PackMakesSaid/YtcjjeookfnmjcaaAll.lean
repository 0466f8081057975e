import Derived.Test.YtcjjeookfnmjcaaSpots
namespace Go.Proofs.Ytcjjeookfnmjcaa
open Go.RowKit Go.Shelf Go.Proofs.YtcjjeookfnmjcaaW.PrintWords
set_option linter.unusedVariables false
attribute [local go_sem] Oper.semAt_some

theorem spots_stops (n : Nat) (hn1 : 2 ≤ n) (Bp n₀ : Nat) (p : ByteArray) (hp : p.size ≤ 1000000) (w : World) (hw : n₀ ≤ w.heap.size) (hBp : w.cell? ⟨Bp, 0, none⟩ = some (.string p)) :
    SeqStopsK Fence.wide n Try.prog 38 #[.pointer (some ⟨Bp, 0, none⟩)] encS (KeptN n₀ Bp) (fun xs => xs = spots (bytesOf p)) (fun pre => pre <+: spots (bytesOf p)) (spots (bytesOf p)).length w := by
  intro l J Jx W hW hJ hJx hY h0
  have hlB := World.block_lt_of_cell? w _ hBp
  have hBp' := (hW.cell (p := ⟨Bp, 0, none⟩) hlB).trans hBp
  have hz := hW.size
  exact spots_round n hn1 l Bp n₀ p hp J Jx (fun pre W1 W2 _ hj hb2 => hJ pre W1 W2 none hj (grown_of_below hb2) (fun r e => by cases e)) hY W (by omega) hBp' h0

set_option maxHeartbeats 400000 in
theorem spots_any (p : ByteArray) (w : World) :
    Calls Try.prog 33 #[.string p] w fun e w' => e = .returned (.func (.func 38) #[] #[.pointer (some ⟨w.heap.size, 0, none⟩)]) ∧ w.alloc (.cells #[.string p] 9) = w' := by
  have hmf : ∀ (fn : Fn) (first cap : Array Value) (w : World), (Instr.makeFunc fn first cap).run Try.prog w = .ok (.func fn first cap) w := fun _ _ _ _ => rfl
  go_enter Try.func33, Try.ntmps33
  go_wp2
  go_ret
  exact ⟨rfl, rfl⟩

theorem countOf_short {p : ByteArray} (h : p.size < 2) : countOf (bytesOf p) = -1 := by unfold countOf; rw [if_pos (by rw [bytesOf_length]; exact h)]
theorem countOf_long {p : ByteArray} (h : ¬ p.size < 2) : countOf (bytesOf p) = if byteN p 0 * 256 + byteN p 1 ≤ 200 then byteN p 0 * 256 + byteN p 1 else -1 := by
  unfold countOf; rw [if_neg (by rw [bytesOf_length]; exact h)]; rfl
theorem or_bytes (a b : Int) (ha : 0 ≤ a ∧ a ≤ 255) (hb : 0 ≤ b ∧ b ≤ 255) : bits .or .i64 (a * 256) b = a * 256 + b := by
  obtain ⟨a, rfl⟩ : ∃ k : Nat, a = k := ⟨a.toNat, by omega⟩
  obtain ⟨b, rfl⟩ : ∃ k : Nat, b = k := ⟨b.toNat, by omega⟩
  have e : ((a : Int) * 256) = ((a * 256 : Nat) : Int) := by omega
  rw [e]
  have h1 : (BitVec.ofInt 64 ((a * 256 : Nat) : Int)).toNat = a * 256 := by
    rw [BitVec.ofInt_natCast, BitVec.toNat_ofNat]; exact Nat.mod_eq_of_lt (by omega)
  have h2 : (BitVec.ofInt 64 (b : Int)).toNat = b := by
    rw [BitVec.ofInt_natCast, BitVec.toNat_ofNat]; exact Nat.mod_eq_of_lt (by omega)
  show IntKind.i64.wrap ((BitVec.ofInt 64 ((a * 256 : Nat) : Int) ||| BitVec.ofInt 64 (b : Int)).toNat : Int) = _
  rw [BitVec.toNat_or, h1, h2, nat_join8 _ _ (by omega) (by omega)]
  simp [IntKind.wrap, IntKind.signed, IntKind.bits]
  omega

set_option maxHeartbeats 400000 in
theorem count_any (p : ByteArray) (hp : p.size ≤ 1000000) (w : World) :
    Calls Try.prog 36 #[.string p] w fun e w' => e = .returned (.int .i64 (countOf (bytesOf p))) ∧ Below w.heap.size w w' := by
  by_cases h : p.size < 2
  · rw [countOf_short h]
    go_enter Try.func36, Try.ntmps36
    go_wp2_with fail
    go_ret
    exact ⟨rfl, Below.refl _ _⟩
  · obtain ⟨a, ha⟩ : ∃ a, byteN p 0 = a := ⟨_, rfl⟩
    obtain ⟨b, hb⟩ : ∃ b, byteN p 1 = b := ⟨_, rfl⟩
    have hx0 := ix_nat p 0 a 0 rfl (by omega) ha
    have hx1 := ix_nat p 1 b 1 rfl (by omega) hb
    have ra := byteN_range p 0
    have rb := byteN_range p 1
    rw [countOf_long h, ha, hb]
    rw [ha] at ra
    rw [hb] at rb
    have hor := or_bytes a b ra rb
    clear ha hb
    by_cases h200 : a * 256 + b ≤ 200
    · rw [if_pos h200]
      go_enter Try.func36, Try.ntmps36
      go_wp2_with fail
      go_quiet (fail)
      go_wp2
      go_ret
      exact ⟨rfl, below_drewN (Below.refl _ _) _⟩
    · rw [if_neg h200]
      go_enter Try.func36, Try.ntmps36
      go_wp2_with fail
      go_quiet (fail)
      go_wp2
      go_ret
      exact ⟨rfl, below_drewN (Below.refl _ _) _⟩

theorem info56 : (Try.prog.info? 56).map (fun i => (i.zero, i.size, i.bytes)) = some (some (.agg #[.string ⟨#[]⟩, .int .i64 0, .int .i64 0, .int .i64 0]), 4, 40) := by kernel_rfl

def lastTo (pre : List Spot) : Nat := endOf 2 pre
theorem lastTo_snoc (pre : List Spot) (x : Spot) : lastTo (pre ++ [x]) = x.2.2 := by simp [lastTo, endOf]

/-- What all tells of a text: its spots, or that it is no pack. -/
def AllPost (p : ByteArray) (w : World) (e : Ending) (w' : World) : Prop :=
  (∃ v i, e = .returned (.tuple #[v, .int .i64 i]) ∧ ((okB (bytesOf p) = true ∧ i = 0 ∧ w'.ownsRow w.heap.size 56 4 v (spots (bytesOf p)).length ((spots (bytesOf p)).flatMap spotC)) ∨ (okB (bytesOf p) = false ∧ i = 50 ∧ v = .slice none 0 0))) ∧ Below w.heap.size w w'

/-- A variable's box of several cells. -/
def Box4 (W : World) (B : Nat) (t : TypeId) (cs : List Value) : Prop := W.heap[B]? = some (.cells cs.toArray t (0, 0))
theorem Box4.cell {W : World} {B : Nat} {t : TypeId} {cs : List Value} (h : Box4 W B t cs) (j : Nat) (hj : j < cs.length) : W.cell? ⟨B, j, none⟩ = some (cs[j]'hj) := by
  simp [World.cell?, show W.heap[B]? = _ from h, hj]
theorem Box4.new (W : World) (t : TypeId) (cs : List Value) : Box4 (W.alloc (.cells cs.toArray t)) W.heap.size t cs := World.alloc_heap_new W _
theorem Box4.kept {W W' : World} {row : Option Nat} {B : Nat} {t : TypeId} {cs : List Value} (h : Box4 W B t cs) (hg : W.grownBy W' row) (hne : some B ≠ row) : Box4 W' B t cs := (hg.block B (Array.getElem?_eq_some_iff.1 h).1 hne).trans h
theorem Box4.lt {W : World} {B : Nat} {t : TypeId} {cs : List Value} (h : Box4 W B t cs) : B < W.heap.size := (Array.getElem?_eq_some_iff.1 h).1

/-- Between two rounds: the box of 'out' holds the spots that came; that of 'end' where the last one ends. -/
structure AllI (w : World) (p : ByteArray) (pre : List Spot) (W : World) : Prop where
  row : ∃ v, Boxed W w.heap.size 52 v ∧ W.ownsRow w.heap.size 56 4 v pre.length (pre.flatMap spotC)
  end_ : Boxed W (w.heap.size + 1) 3 (.int .i64 (lastTo pre))
  text : Boxed W (w.heap.size + 2) 9 (.string p)
  below : Below w.heap.size w W
theorem AllI.own (w : World) (p : ByteArray) (B : Nat) (hB : w.heap.size ≤ B) : OwnFrom B (fun pre W => AllI w p pre W) := fun s X Y row hs hg hr => by
  have ne : ∀ {b : Nat} {t : TypeId} {v : Value}, Boxed X b t v → some b ≠ row := fun {b t v} hb e => by
    obtain ⟨_, o, ho, hc⟩ := hr b e.symm
    rw [show X.heap[b]? = _ from hb] at ho; cases ho; cases hc
  obtain ⟨v, hv, hrow⟩ := hs.row
  refine ⟨⟨v, hv.kept hg (ne hv), hrow.kept hg ?_⟩, hs.end_.kept hg (ne hs.end_), hs.text.kept hg (ne hs.text), ownFrom_below (β := Unit) (Nat.le_refl _) hB () X Y row hs.below hg hr⟩
  rcases hrow.2 with ⟨rfl, _⟩ | ⟨g, cap, cur, rfl, _, hgb, _⟩
  · exact .inl rfl
  · refine .inr fun e' => ?_
    obtain ⟨_, o, ho, hc⟩ := hr g (by simpa [Value.ownBlock] using e'.symm)
    rw [hgb] at ho; cases ho; cases hc
/-- What the round's variable is, in its box; that box is not the row of 'out'. -/
structure AllA (w : World) (p : ByteArray) (x : Spot) (a' : Act) (W : World) (Bx : Nat) : Prop where
  lt : w.heap.size + 2 < Bx
  box : Box4 W Bx 56 (spotC x)
  row : ∃ v, Boxed W w.heap.size 52 v ∧ v.ownBlock ≠ some Bx
  act : a' = { tmps := #[.string p, undef, .slice none 0 0, .int .i64 0, .pointer (some ⟨w.heap.size, 0, none⟩), .pointer (some ⟨w.heap.size + 1, 0, none⟩), .pointer (some ⟨Bx, 0, none⟩), undef, .string p, .func (.func 38) #[] #[.pointer (some ⟨w.heap.size + 1 + 1, 0, none⟩)], .agg #[.string x.1.1, .int .i64 x.1.2, .int .i64 x.2.1, .int .i64 x.2.2], undef, undef, undef, undef, undef, undef, undef, undef, undef, undef, undef, undef, undef, undef, undef, undef, undef, undef, undef, undef, undef, undef, undef], defers := [] }
theorem AllA.own (w : World) (p : ByteArray) (x : Spot) (a' : Act) (B : Nat) : OwnFrom B (fun (_ : Unit) W => ∃ Bx, AllA w p x a' W Bx) := fun s X Y row hs hg hr => by
  obtain ⟨Bx, h1, h2, ⟨v, hv, hne⟩, h4⟩ := hs
  refine ⟨Bx, h1, h2.kept hg (fun e => ?_), ⟨v, hv.kept hg (fun e => ?_), hne⟩, h4⟩
  · obtain ⟨_, o, ho, hc⟩ := hr _ e.symm
    rw [show X.heap[Bx]? = _ from h2] at ho; cases ho; cases hc
  · obtain ⟨_, o, ho, hc⟩ := hr _ e.symm
    rw [show X.heap[_]? = _ from hv] at ho; cases ho; cases hc
theorem cells_new (W : World) (t : TypeId) (cs : List Value) : ∀ j u, cs[j]? = some u → (W.alloc (.cells cs.toArray t)).cell? ((⟨W.heap.size, 0, none⟩ : Addr).add j) = some u := by
  intro j u hj
  obtain ⟨hlt, rfl⟩ := List.getElem?_eq_some_iff.1 hj
  rw [Go.WideShapes.add_plain, Nat.zero_add]
  exact (Box4.new W t cs).cell j hlt
theorem own_setBox {W : World} {B n₀ : Nat} {t e : TypeId} {size k : Nat} {v u : Value} {xs : List Value} (h : W.ownsRow n₀ e size v k xs) (hb : Boxed W B t u) (hte : t ≠ e) (x : Value) : (W.setCell ⟨B, 0, none⟩ x).ownsRow n₀ e size v k xs :=
  h.kept (grownBy_setCell' W B x) (.inr (hb.not_row hte h).symm)

theorem walkS_small (k : Nat) : ∀ (l : List Int) (o : Nat), (walkS k l o).length ≤ k := by
  induction k with
  | zero => intro l o; simp [walkS]
  | succ k ih =>
    intro l o
    simp only [walkS]
    cases hd l with
    | none => simp
    | some e => simp only [List.length_cons]; have := ih (l.drop (e.1.size + 10)) (o + (e.1.size + 10)); omega
theorem spots_small (p : ByteArray) (hp : p.size ≤ 1000000) : (spots (bytesOf p)).length ≤ 1000000 := by
  have := walkS_small (bytesOf p).length ((bytesOf p).drop 2) 2
  rw [bytesOf_length] at this
  unfold spots
  rw [bytesOf_length]
  omega

set_option maxRecDepth 100000 in
set_option maxHeartbeats 2000000 in
theorem all_any (p : ByteArray) (hp : p.size ≤ 1000000) (w : World) : Calls Try.prog 31 #[.string p] w (AllPost p w) := by
  obtain ⟨i0, hi, hz0, hz1, hz2⟩ := info_parts info56
  refine (callsIn_wide (n := 9)).1 ?_
  refine callsIn_of_wp_marks Try.func31 rfl trivial ?_ rfl
  simp only [Try.ntmps31, List.size_toArray, List.length_cons, List.length_nil, Nat.reduceAdd, Nat.reduceSub, Array.replicate_succ, Array.replicate_zero, List.push_toArray, List.append_toArray, List.nil_append, List.cons_append]
  refine wpIn_wide.2 ?_
  go_wp2_with fail
  refine (spots_any _ _).mono ?_
  rintro e w6 ⟨rfl, rfl⟩
  go_wp2_with fail
  obtain ⟨W6, hW6⟩ : ∃ W6, ((w.alloc (.cells #[.slice none 0 0] 52)).alloc (.cells #[.int .i64 2] 3)).alloc (.cells #[.string p] 9) = W6 := ⟨_, rfl⟩
  have hz6 : W6.heap.size = w.heap.size + 3 := by rw [← hW6]; simp
  have hB6 : Below w.heap.size w W6 := by
    rw [← hW6]
    exact ((((Below.refl _ w).alloc (Nat.le_refl _) _).alloc (by simp) _).alloc (by simp; omega) _)
  have b0 : Boxed W6 w.heap.size 52 (.slice none 0 0) := by
    rw [← hW6]
    exact ((Boxed.new w 52 (.slice none 0 0)).alloc _).alloc _
  have b1 : Boxed W6 (w.heap.size + 1) 3 (.int .i64 2) := by
    rw [← hW6]
    have := Boxed.new (w.alloc (.cells #[.slice none 0 0] 52)) 3 (.int .i64 2)
    simp only [World.size_alloc] at this
    exact this.alloc _
  have b2 : Boxed W6 (w.heap.size + 2) 9 (.string p) := by
    rw [← hW6]
    have := Boxed.new ((w.alloc (.cells #[.slice none 0 0] 52)).alloc (.cells #[.int .i64 2] 3)) 9 (.string p)
    simp only [World.size_alloc] at this
    exact this
  rw [hW6]
  clear hW6
  have hN := spots_small p hp
  refine (wpIn_wide (n := 9)).1 (wpIn_rangeFunc_ownH (F := Fence.wide) (α := Spot) rfl (by omega) (gf := 38) rfl trivial (enters_of Try.func38 (by kernel_rfl) rfl)
    (spots_stops 8 (by omega) (w.heap.size + 2) w.heap.size p hp W6 (by omega) b2.cell) KeptN.trans (KeptN.putObj (by omega) (by omega)) (Below.refl _ _) (fun _ => rfl)
    (fun pre W => AllI w p pre W)
    (fun _ _ _ => False)
    (AllI.own w p _ (by omega))
    (fun _ _ _ _ _ hs _ _ => hs)
    ⟨⟨_, b0, World.ownsRow_nil _ _ _ _⟩, b1, b2, hB6⟩
    (fun x a' W => ∃ Bx, AllA w p x a' W Bx)
    (fun x a' => AllA.own w p x a' _)
    ?assign ?body ?done ?stop)
  case assign =>
    intro l pre x W K hI hK
    have hK' := Lib.hid hK
    clear hK
    obtain ⟨v, hv, hrow⟩ := hI.row
    have hsz := hv.lt
    have hsz2 := hI.text.lt
    have HI := Lib.hid hI
    clear hI
    gi_wp2
    refine hK'.out _ _ ((KeepsOthers.alloc _ _).from _) ⟨(Below.refl _ W).alloc HI.out.below.size _, Below.heap_alloc _ _ _ hsz2⟩ ⟨⟨v, hv.alloc _, hrow.alloc _⟩, HI.out.end_.alloc _, HI.out.text.alloc _, HI.out.below.alloc HI.out.below.size _⟩ ⟨W.heap.size, hsz2, Box4.new W 56 (spotC x), ⟨v, hv.alloc _, ?_⟩, rfl⟩
    intro e
    exact absurd (hrow.lt _ e).2 (Nat.lt_irrefl _)
  case body =>
    rintro l pre x a' W hl ⟨r, hr⟩ hI ⟨Bx, hlt, hbx, ⟨v', hv', hne⟩, rfl⟩ hlen
    obtain ⟨v, hv, hrow⟩ := hI.row
    obtain rfl : v' = v := by
      have := (show W.heap[w.heap.size]? = _ from hv').symm.trans hv
      simpa using this
    have hx0 := hbx.cell 0 (by simp [spotC])
    have hx1 := hbx.cell 1 (by simp [spotC])
    have hx2 := hbx.cell 2 (by simp [spotC])
    have hx3 := hbx.cell 3 (by simp [spotC])
    simp only [spotC, List.getElem_cons_zero, List.getElem_cons_succ] at hx0 hx1 hx2 hx3
    have hcv := hv.cell
    have hfv := hv.frozen
    have hHW := Lib.hid hI
    have hBs := hI.below.size
    clear hI
    gi_wp2_with (gi_at_builtin; refine wpListIn_append_own _ rfl _ _ 52 rfl w.heap.size 56 i0 _ 4 40 Try.underlying52 hi hz0 hz1 hz2 rfl (by decide) _ _ _ rfl (hrow.alloc _) ⟨W.heap.size, 0, none⟩ 1 1 (spotC x) rfl rfl (cells_new _ _ _) (by simp [spotC, Value.oneCell']) (by unfold maxLen; omega) (by omega) (by simp; omega) ?_; intro v2 w1 hown' hgrow _; obtain ⟨g', cap', rfl⟩ := ownsRow_succ hown'; obtain ⟨hv1, hv2, hr2, hk2, hb2⟩ := hv.appended (by decide) hrow hBs (Nat.le_refl _) hown' hgrow; have hc1 := hv1.cell; have hf1 := hv1.frozen; have hbx1 : Box4 w1 Bx 56 (spotC x) := (hbx.kept (World.grownBy_alloc W _ none) (by simp)).kept hgrow (fun e => hne e.symm); have he1 : Boxed w1 (w.heap.size + 1) 3 (.int .i64 (lastTo pre)) := (hHW.out.end_.alloc _).kept hgrow (hHW.out.end_.not_row (by decide) hrow); have ht1 : Boxed w1 (w.heap.size + 2) 9 (.string p) := (hHW.out.text.alloc _).kept hgrow (hHW.out.text.not_row (by decide) hrow); have hx3a : w1.cell? ⟨Bx, 3, none⟩ = some (.int .i64 x.2.2) := hbx1.cell 3 (by simp [spotC]); have hx3b : (w1.setCell ⟨w.heap.size, 0, none⟩ (.slice (some ⟨g', 0, none⟩) (pre.length + 1) cap')).cell? ⟨Bx, 3, none⟩ = some (.int .i64 x.2.2) := (World.cell?_of_block (w := w1) (Below.heap_setCell _ _ _ _ (show Bx ≠ w.heap.size by omega))).trans hx3a; have he2 := he1.other (show w.heap.size + 1 ≠ w.heap.size by omega) (.slice (some ⟨g', 0, none⟩) (pre.length + 1) cap'); have he2c := he2.cell; have he2f := he2.frozen; have ht2 := ht1.other (show w.heap.size + 2 ≠ w.heap.size by omega) (.slice (some ⟨g', 0, none⟩) (pre.length + 1) cap'))
    refine ⟨(hk2.trans (KeepsOthers.setCell _ _ _)).from _, ⟨hb2.setCell (p := ⟨w.heap.size + 1, 0, none⟩) (Nat.le_add_right _ _) _, ?_⟩, ⟨_, hv2.other (by omega) _, ?_⟩, ?_, ?_, ?_⟩
    · exact (ht2.other (by omega) _).trans (show W.heap[w.heap.size + 2]? = _ from hHW.out.text).symm
    · have := own_setBox hr2 he2 (by decide) (.int .i64 (x.2.2 : Int))
      simpa using this
    · rw [lastTo_snoc]; exact he2.set _
    · exact ht2.other (by omega) _
    · exact (hHW.out.below.trans hb2).setCell (p := ⟨w.heap.size + 1, 0, none⟩) (Nat.le_add_right _ _) _
  case done =>
    rintro D ys W hD rfl hI hK
    obtain ⟨v, hv, hrow⟩ := hI.row
    obtain ⟨A, c, rfl⟩ := own_slice hrow
    have hHW := Lib.hid hI
    have hbs := hI.below.size
    clear hI
    have hK' := Lib.hid hK
    clear hK
    go_wp2_with fail
    refine (count_any p hp _).mono ?_
    rintro e w7 ⟨rfl, hb7⟩
    have hv7 : Boxed w7 w.heap.size 52 (.slice A (spots (bytesOf p)).length c) := (hb7.block _ hv.lt).trans hv
    have he7 : Boxed w7 (w.heap.size + 1) 3 (.int .i64 (lastTo (spots (bytesOf p)))) := (hb7.block _ hHW.out.end_.lt).trans hHW.out.end_
    have hc7 := hv7.cell
    have hd7 := he7.cell
    have hrow7 := Lib.hid (own_later hrow hb7)
    have hKd7 := Lib.hid ((hb7.block _ (Array.getElem?_eq_some_iff.1 hK'.out).1).trans hK'.out)
    have hB7 := Lib.hid (hHW.out.below.trans (hb7.mono hbs))
    clear hrow
    by_cases hok : okB (bytesOf p) = true
    · have hok' := hok
      simp only [okB, Bool.and_eq_true, decide_eq_true_eq] at hok'
      obtain ⟨⟨h1, h2⟩, h3⟩ := hok'
      have hq2 : ((lastTo (spots (bytesOf p)) : Int) != (p.size : Int)) = false := by rw [show lastTo (spots (bytesOf p)) = p.size by unfold lastTo; rw [h3, bytesOf_length]]; simp
      rw [h2]
      clear h1 h2 h3
      go_wp2_with fail
      refine ⟨by simp, .inl ⟨_, _, rfl, run_takeDeferred hKd7.out, ?_⟩⟩
      exact ⟨_, results_tmp2 rfl _ _ _, ⟨_, _, rfl, .inl ⟨hok, rfl, ownsRow_putObj hrow7.out _ hKd7.out rfl⟩⟩, hB7.out.trans (belowK_b (w := w) (Nat.le_refl _) _ D _ _ (by omega) hKd7.out rfl rfl)⟩
    · replace hok : okB (bytesOf p) = false := by simpa using hok
      have hok' := hok
      simp only [okB, Bool.and_eq_false_iff, decide_eq_false_iff_not] at hok'
      obtain ⟨i, hi7⟩ : ∃ i, countOf (bytesOf p) = i := ⟨_, rfl⟩
      rw [hi7] at hok' ⊢
      by_cases h1 : i < 0
      · clear hok'
        go_wp2_with fail
        refine ⟨by simp, .inl ⟨_, _, rfl, run_takeDeferred hKd7.out, ?_⟩⟩
        exact ⟨_, results_tmp2 rfl _ _ _, ⟨_, _, rfl, .inr ⟨hok, rfl, rfl⟩⟩, hB7.out.trans (belowK_b (w := w) (Nat.le_refl _) _ D _ _ (by omega) hKd7.out rfl rfl)⟩
      · by_cases h2 : i = ((spots (bytesOf p)).length : Int)
        · have hq2 : ((lastTo (spots (bytesOf p)) : Int) != (p.size : Int)) = true := by
            rw [bne_iff_ne]
            intro e
            rcases hok' with (h | h) | h
            · omega
            · exact h h2
            · exact h (by rw [bytesOf_length]; unfold lastTo at e; omega)
          clear hok'
          subst h2
          go_wp2_with fail
          refine ⟨by simp, .inl ⟨_, _, rfl, run_takeDeferred hKd7.out, ?_⟩⟩
          exact ⟨_, results_tmp2 rfl _ _ _, ⟨_, _, rfl, .inr ⟨hok, rfl, rfl⟩⟩, hB7.out.trans (belowK_b (w := w) (Nat.le_refl _) _ D _ _ (by omega) hKd7.out rfl rfl)⟩
        · have hq2 : (i != ((spots (bytesOf p)).length : Int)) = true := by rw [bne_iff_ne]; exact h2
          clear hok'
          go_wp2_with fail
          refine ⟨by simp, .inl ⟨_, _, rfl, run_takeDeferred hKd7.out, ?_⟩⟩
          exact ⟨_, results_tmp2 rfl _ _ _, ⟨_, _, rfl, .inr ⟨hok, rfl, rfl⟩⟩, hB7.out.trans (belowK_b (w := w) (Nat.le_refl _) _ D _ _ (by omega) hKd7.out rfl rfl)⟩
  case stop =>
    rintro D c pre W _ _ h _
    exact h.elim

end Go.Proofs.Ytcjjeookfnmjcaa
