import Derived.Test.YtcjjeookfnmjcaaRegion
namespace Go.Proofs.Ytcjjeookfnmjcaa
open Go.RowKit
set_option linter.unusedVariables false

/-- Whatever has come up, all that it waits for has come up. -/
def Shut (ops : Array Oper) (listed : Array Bool) : Prop := ∀ j o, ops[j]? = some o → listed.getD j false = true → ∀ e, e ∈ o.after → Region.binds .any e = true → listed.getD e.on false = true

theorem Shut.step {ops : Array Oper} {listed : Array Bool} {i : Nat} (h : Shut ops listed) (hi : i ∈ Region.ready .any ops listed) : Shut ops (listed.setIfInBounds i true) := by
  intro j o ho hj e he hb
  obtain ⟨h1, o', ho', hdep⟩ := mem_ready.1 hi
  by_cases hji : i = j
  · subst hji
    rw [ho] at ho'; cases ho'
    exact getD_set_true (hdep e he hb)
  · rw [getD_set_ne false hji] at hj
    exact getD_set_true (h j o ho hj e he hb)

theorem wp_region_inv2 {P : Program} {id : Nat} {ops : Array Oper} {Q : Exit → Act → World → Prop} {a : Act} {w : World} (I : Array Bool → Act → World → Prop) (hm : P.follows .mixedOrders = true)
    (h0 : I (Array.replicate ops.size false) a w.drew)
    (hs : ∀ listed a w i, I listed a w → Shut ops listed → i ∈ Region.ready .any ops listed → wpOp P ops Q i (I (listed.setIfInBounds i true)) a w)
    (he : ∀ listed a w, I listed a w → Region.ready .any ops listed = [] → Q .normal a w) : (Code.region id ops true).wp P Q a w := by
  refine wp_region_inv (fun listed a w => I listed a w ∧ Shut ops listed) hm ⟨h0, ?_⟩ ?_ ?_
  · intro j o ho hj
    simp [Array.getD_eq_getD_getElem?, Array.getElem?_replicate] at hj
    split at hj <;> simp at hj
  · intro listed a w i ⟨hI, hS⟩ hr
    exact wpOp_mono (fun a' w' h => ⟨h, hS.step hr⟩) (hs listed a w i hI hS hr)
  · intro listed a w ⟨hI, _⟩ hr
    exact he listed a w hI hr

/-- What holds amid a region whose operation jw writes: R of the world; the slots that are only read; of each operation that has come up, what its slot holds; till jl comes up, vl in its slot; till jw comes up, F of the world. -/
structure RG (N n : Nat) (dst : Nat → Nat) (fix : List (Nat × Value)) (V : Nat → World → Value → Prop) (R F : World → Prop) (jl jw : Nat) (vl : Value) (listed : Array Bool) (a : Act) (w : World) : Prop where
  defers : a.defers = []
  size : a.tmps.size = N
  len : listed.size = n
  fix : ∀ q, q ∈ fix → a.tmps.getD q.1 undef = q.2
  rel : R w
  ok : ∀ j, listed.getD j false = true → V j w (a.tmps.getD (dst j) undef)
  late : listed.getD jl false = false → a.tmps.getD (dst jl) undef = vl
  wait : listed.getD jw false = false → F w

theorem RG.put {N n : Nat} {dst : Nat → Nat} {fix : List (Nat × Value)} {V : Nat → World → Value → Prop} {R F : World → Prop} {jl jw : Nat} {vl : Value} {listed : Array Bool} {a : Act} {w w' : World} (h : RG N n dst fix V R F jl jw vl listed a w)
    (hd : ∀ i j, i < n → j < n → dst i = dst j → i = j) (hf : ∀ q, q ∈ fix → ∀ i, i < n → dst i ≠ q.1) (hN : ∀ i, i < n → dst i < N) (hjl : jl < n)
    {i : Nat} (hi : i < n) {v : Value} (hv : V i w' v) (hV : ∀ j v, j ≠ i → listed.getD j false = true → V j w v → V j w' v) (hR : R w') (hF : i ≠ jw → F w → F w') : RG N n dst fix V R F jl jw vl (listed.setIfInBounds i true) (a.put (some (dst i)) v) w' := by
  have hne : ∀ k, dst i ≠ k → (a.put (some (dst i)) v).tmps.getD k undef = a.tmps.getD k undef := fun k hk => by
    simp [Act.put, Array.getD_eq_getD_getElem?, Array.getElem?_setIfInBounds_ne hk]
  have hil : i < listed.size := by rw [h.len]; exact hi
  refine ⟨?_, ?_, ?_, ?_, hR, ?_, ?_, ?_⟩
  · simpa [Act.put] using h.defers
  · simpa [Act.put] using h.size
  · simpa using h.len
  · intro q hq
    rw [hne _ (hf q hq i hi)]; exact h.fix q hq
  · intro j hj
    by_cases hji : i = j
    · subst hji
      have : (a.put (some (dst i)) v).tmps.getD (dst i) undef = v := by
        have hlt : dst i < a.tmps.size := by rw [h.size]; exact hN i hi
        simp [Act.put, Array.getD_eq_getD_getElem?, hlt]
      rw [this]; exact hv
    · rw [getD_set_ne false hji] at hj
      have hjn : j < n := by
        rcases Nat.lt_or_ge j listed.size with h' | h'
        · rw [← h.len]; exact h'
        · simp [Array.getD_eq_getD_getElem?, Array.getElem?_eq_none h'] at hj
      rw [hne _ (fun e => hji (hd i j hi hjn e))]
      exact hV j _ (fun e => hji e.symm) hj (h.ok j hj)
  · intro hl
    by_cases hij : i = jl
    · subst hij
      simp [Array.getD_eq_getD_getElem?, hil] at hl
    · rw [getD_set_ne false hij] at hl
      rw [hne _ (fun e => hij (hd i jl hi hjl e))]; exact h.late hl
  · intro hl
    by_cases hij : i = jw
    · subst hij
      simp [Array.getD_eq_getD_getElem?, hil] at hl
    · rw [getD_set_ne false hij] at hl
      exact hF hij (h.wait hl)

end Go.Proofs.Ytcjjeookfnmjcaa
