import Derived.Orders
import Derived.Below
namespace Go.Proofs.Ytcjjeookfnmjcaa
open Go.RowKit
set_option linter.unusedVariables false

/-! ### A region that draws its order, by an invariant of what has come up -/
theorem countP_less {p q : Nat → Bool} (hpq : ∀ j, q j = true → p j = true) {i : Nat} (hp : p i = true) (hq : q i = false) : ∀ l : List Nat, i ∈ l → l.countP q < l.countP p
  | [], h => by simp at h
  | x :: l, h => by
    have hle : l.countP q ≤ l.countP p := List.countP_mono_left (fun j _ => hpq j)
    rw [List.countP_cons, List.countP_cons]
    by_cases hx : x = i
    · subst hx; rw [hp, hq]; simp; omega
    · have hi : i ∈ l := by
        rcases List.mem_cons.1 h with h | h
        · exact absurd h.symm hx
        · exact h
      have ih := countP_less hpq hp hq l hi
      by_cases hqx : q x = true
      · rw [if_pos hqx, if_pos (hpq x hqx)]; omega
      · rw [if_neg hqx]; omega

theorem wp_region_inv {P : Program} {id : Nat} {ops : Array Oper} {Q : Exit → Act → World → Prop} {a : Act} {w : World} (I : Array Bool → Act → World → Prop) (hm : P.follows .mixedOrders = true)
    (h0 : I (Array.replicate ops.size false) a w.drew)
    (hs : ∀ listed a w i, I listed a w → i ∈ Region.ready .any ops listed → wpOp P ops Q i (I (listed.setIfInBounds i true)) a w)
    (he : ∀ listed a w, I listed a w → Region.ready .any ops listed = [] → Q .normal a w) : (Code.region id ops true).wp P Q a w := by
  refine wp_region_any hm ?_
  have key : ∀ (fuel : Nat) (listed : Array Bool) (a : Act) (w : World), ((List.range ops.size).countP fun j => !listed.getD j true) ≤ fuel → I listed a w → wpAny P .any ops Q fuel listed a w := by
    intro fuel
    induction fuel with
    | zero =>
      intro listed a w hc hI
      have hr : Region.ready .any ops listed = [] := by
        refine List.eq_nil_iff_forall_not_mem.2 fun j hj => ?_
        obtain ⟨h1, o, ho, _⟩ := mem_ready.1 hj
        have hlt : j < ops.size := (Array.getElem?_eq_some_iff.1 ho).1
        have := List.countP_eq_zero.1 (Nat.le_zero.1 hc) j (List.mem_range.2 hlt)
        rw [h1] at this; simp at this
      exact ⟨hr, he _ _ _ hI hr⟩
    | succ fuel ih =>
      intro listed a w hc hI
      refine ⟨fun hr => he _ _ _ hI hr, fun i hi => ?_⟩
      refine wpOp_mono (fun a' w' hI' => ih _ _ _ ?_ hI') (hs _ _ _ _ hI hi)
      obtain ⟨h1, o, ho, _⟩ := mem_ready.1 hi
      have hlt : i < ops.size := (Array.getElem?_eq_some_iff.1 ho).1
      have hil : i < listed.size := by
        rcases Nat.lt_or_ge i listed.size with h | h
        · exact h
        · simp [Array.getD_eq_getD_getElem?, Array.getElem?_eq_none h] at h1
      have hless := countP_less (p := fun j => !listed.getD j true) (q := fun j => !(listed.setIfInBounds i true).getD j true) (i := i) ?_ (by simp only [h1]; rfl) ?_ (List.range ops.size) (List.mem_range.2 hlt)
      · omega
      · intro j hj
        by_cases hji : i = j
        · subst hji
          exact absurd hj (by simp [Array.getD_eq_getD_getElem?, hil])
        · rw [getD_set_ne true hji] at hj; exact hj
      · simp [Array.getD_eq_getD_getElem?, hil]
  refine key ops.size _ _ _ ?_ h0
  exact Nat.le_trans List.countP_le_length (by simp)

/-- Each operation waits for earlier ones alone. -/
def depsBack (ops : Array Oper) : Bool := (List.range ops.size).all fun j => match ops[j]? with | none => true | some o => o.after.all fun e => decide (e.on < j)
theorem all_listed {ops : Array Oper} {listed : Array Bool} {md : Region.Mode} (hn : listed.size = ops.size) (hd : depsBack ops = true) (hr : Region.ready md ops listed = []) : ∀ j, j < ops.size → listed.getD j false = true := by
  intro j
  induction j using Nat.strongRecOn with
  | ind j ih =>
    intro hj
    by_cases hl : listed.getD j false = true
    · exact hl
    · have hjl : j < listed.size := by rw [hn]; exact hj
      have hl' : listed.getD j true = false := by
        simp [Array.getD_eq_getD_getElem?, hjl] at hl ⊢; exact hl
      have hmem : j ∈ Region.ready md ops listed := by
        refine mem_ready.2 ⟨hl', ops[j], Array.getElem?_eq_getElem hj, fun e he _ => ?_⟩
        have h1 := List.all_eq_true.1 hd j (List.mem_range.2 hj)
        rw [Array.getElem?_eq_getElem hj] at h1
        have h2 := Array.all_eq_true_iff_forall_mem.1 h1 e he
        have h3 : e.on < j := by simpa using h2
        exact ih e.on h3 (by omega)
      rw [hr] at hmem
      simp at hmem

/-- What holds amid such a region: the slots that it only reads; of each operation that has come up, what its slot holds. -/
structure RI (N n : Nat) (dst : Nat → Nat) (fix : List (Nat × Value)) (V : Nat → World → Value → Prop) (w0 : World) (listed : Array Bool) (a : Act) (w : World) : Prop where
  defers : a.defers = []
  size : a.tmps.size = N
  len : listed.size = n
  fix : ∀ q, q ∈ fix → a.tmps.getD q.1 undef = q.2
  below : Below w0.heap.size w0 w
  ok : ∀ j, listed.getD j false = true → V j w (a.tmps.getD (dst j) undef)

theorem RI.put {N n : Nat} {dst : Nat → Nat} {fix : List (Nat × Value)} {V : Nat → World → Value → Prop} {w0 : World} {listed : Array Bool} {a : Act} {w w' : World} (h : RI N n dst fix V w0 listed a w)
    (hV : ∀ j w w' v, V j w v → Below w.heap.size w w' → V j w' v) (hd : ∀ i j, i < n → j < n → dst i = dst j → i = j) (hf : ∀ q, q ∈ fix → ∀ i, i < n → dst i ≠ q.1) (hN : ∀ i, i < n → dst i < N)
    {i : Nat} (hi : i < n) {v : Value} (hv : V i w' v) (hb : Below w.heap.size w w') : RI N n dst fix V w0 (listed.setIfInBounds i true) (a.put (some (dst i)) v) w' := by
  have hne : ∀ k, dst i ≠ k → (a.put (some (dst i)) v).tmps.getD k undef = a.tmps.getD k undef := fun k hk => by
    simp [Act.put, Array.getD_eq_getD_getElem?, Array.getElem?_setIfInBounds_ne hk]
  refine ⟨?_, ?_, ?_, ?_, h.below.trans (hb.mono h.below.size), ?_⟩
  · simpa [Act.put] using h.defers
  · simpa [Act.put] using h.size
  · simpa using h.len
  · intro q hq
    rw [hne _ (hf q hq i hi)]; exact h.fix q hq
  · intro j hj
    by_cases hji : i = j
    · subst hji
      have : (a.put (some (dst i)) v).tmps.getD (dst i) undef = v := by
        have hlt : dst i < a.tmps.size := by rw [h.size]; exact hN i hi
        simp [Act.put, Array.getD_eq_getD_getElem?, hlt]
      rw [this]; exact hv
    · rw [getD_set_ne false hji] at hj
      have hjn : j < n := by
        rcases Nat.lt_or_ge j listed.size with h' | h'
        · rw [← h.len]; exact h'
        · simp [Array.getD_eq_getD_getElem?, Array.getElem?_eq_none h'] at hj
      rw [hne _ (fun e => hji (hd i j hi hjn e))]
      exact hV j w w' _ (h.ok j hj) hb

end Go.Proofs.Ytcjjeookfnmjcaa
