import Derived.Test.YtcjjeookfnmjcaaRefDel
namespace Go.Proofs.Ytcjjeookfnmjcaa
open Go.RowKit Go.Proofs.YtcjjeookfnmjcaaW.PrintWords
set_option linter.unusedVariables false

/-- As RH, where what an operation's slot holds may hang on what has come up, and F of the world holds till jw comes up. -/
structure RK (n : Nat) (dst : Nat → Nat) (a0 : Act) (V : Nat → Array Bool → World → Value → Prop) (R F : World → Prop) (jl jw : Nat) (listed : Array Bool) (a : Act) (w : World) : Prop where
  defers : a.defers = []
  size : a.tmps.size = a0.tmps.size
  len : listed.size = n
  fix : ∀ s, (∀ i, i < n → dst i ≠ s) → a.tmps.getD s undef = a0.tmps.getD s undef
  rel : R w
  ok : ∀ j, listed.getD j false = true → V j listed w (a.tmps.getD (dst j) undef)
  late : listed.getD jl false = false → a.tmps.getD (dst jl) undef = a0.tmps.getD (dst jl) undef
  wait : listed.getD jw false = false → F w

theorem RK.put {n : Nat} {dst : Nat → Nat} {a0 : Act} {V : Nat → Array Bool → World → Value → Prop} {R F : World → Prop} {jl jw : Nat} {listed : Array Bool} {a : Act} {w w' : World} (h : RK n dst a0 V R F jl jw listed a w)
    (hd : ∀ i j, i < n → j < n → dst i = dst j → i = j) (hN : ∀ i, i < n → dst i < a0.tmps.size) (hjl : jl < n)
    {i : Nat} (hi : i < n) {v : Value} (hv : V i (listed.setIfInBounds i true) w' v) (hV : ∀ j v, j ≠ i → listed.getD j false = true → V j listed w v → V j (listed.setIfInBounds i true) w' v) (hR : R w') (hF : i ≠ jw → listed.getD jw false = false → F w → F w') :
    RK n dst a0 V R F jl jw (listed.setIfInBounds i true) (a.put (some (dst i)) v) w' := by
  have hne : ∀ k, dst i ≠ k → (a.put (some (dst i)) v).tmps.getD k undef = a.tmps.getD k undef := fun k hk => by
    simp [Act.put, Array.getD_eq_getD_getElem?, Array.getElem?_setIfInBounds_ne hk]
  have hil : i < listed.size := by rw [h.len]; exact hi
  refine ⟨?_, ?_, ?_, ?_, hR, ?_, ?_, ?_⟩
  · simpa [Act.put] using h.defers
  · simpa [Act.put] using h.size
  · simpa using h.len
  · intro s hs
    rw [hne _ (hs i hi)]; exact h.fix s hs
  · intro j hj
    by_cases hji : i = j
    · subst hji
      have : (a.put (some (dst i)) v).tmps.getD (dst i) undef = v := by
        have hlt : dst i < a.tmps.size := by rw [h.size]; exact hN i hi
        simp [Act.put, Array.getD_eq_getD_getElem?, hlt]
      rw [this]; exact hv
    · rw [getD_set_ne false hji] at hj
      have hjn : j < n := by
        rcases Nat.lt_or_ge j listed.size with h' | h'
        · rw [← h.len]; exact h'
        · simp [Array.getD_eq_getD_getElem?, Array.getElem?_eq_none h'] at hj
      rw [hne _ (fun e => hji (hd i j hi hjn e))]
      exact hV j _ (fun e => hji e.symm) hj (h.ok j hj)
  · intro hl
    by_cases hij : i = jl
    · subst hij
      simp [Array.getD_eq_getD_getElem?, hil] at hl
    · rw [getD_set_ne false hij] at hl
      rw [hne _ (fun e => hij (hd i jl hi hjl e))]; exact h.late hl
  · intro hl
    by_cases hij : i = jw
    · subst hij
      simp [Array.getD_eq_getD_getElem?, hil] at hl
    · rw [getD_set_ne false hij] at hl
      exact hF hij hl (h.wait hl)
theorem act_fold {n : Nat} {dst : Nat → Nat} {a0 a : Act} (hda : a.defers = []) (hsz : a.tmps.size = a0.tmps.size) (hfix : ∀ s, (∀ i, i < n → dst i ≠ s) → a.tmps.getD s undef = a0.tmps.getD s undef) (hd : a0.defers = []) (hN : ∀ i, i < n → dst i < a0.tmps.size) :
    ∃ f : Nat → Value, (∀ s, f s = a.tmps.getD s undef) ∧ a = ((List.range n).map dst).foldl (fun a' s => a'.put (some s) (f s)) a0 := by
  refine ⟨fun s => a.tmps.getD s undef, fun _ => rfl, ?_⟩
  have hin : ∀ s, s ∈ (List.range n).map dst → s < a0.tmps.size := fun s hs => by
    obtain ⟨i, hi, rfl⟩ := List.mem_map.1 hs
    exact hN i (List.mem_range.1 hi)
  refine act_ext ?_ ?_ ?_
  · rw [(fold_get _ _ a0 0 hin).2.2, hda, hd]
  · rw [(fold_get _ _ a0 0 hin).2.1, hsz]
  · intro k
    rw [(fold_get _ _ a0 k hin).1]
    by_cases hk : k ∈ (List.range n).map dst
    · rw [if_pos hk]
    · rw [if_neg hk]
      exact hfix k (fun i hi e => hk (List.mem_map.2 ⟨i, List.mem_range.2 hi, e⟩))

def riV (A P : Value) (k : Nat) (m : ByteArray) (sc : Int) (base : Nat) (xs : List Value) : Nat → Array Bool → World → Value → Prop
  | 0, _, _, v => v = .slice none 0 0
  | 1, _, _, v => v = A
  | 2, _, _, v => v = .int .i64 k
  | 3, _, _, v => v = P
  | 4, l, w, v => l.getD 7 false = false → w.ownsRow base 35 2 v k xs
  | 5, _, _, v => v = .agg #[.string m, .int .i64 sc]
  | 6, l, w, v => l.getD 7 false = false → ∃ g, v = .slice (some ⟨g, 0, none⟩) 1 1 ∧ Box4 w g 35 [.string m, .int .i64 sc]
  | 7, _, w, v => w.ownsRow base 35 2 v (k + 1) (xs ++ entC (m, sc))
  | 8, _, w, v => w.ownsRow base 35 2 v (k + 1) (xs ++ entC (m, sc))
  | _, _, _, _ => True
theorem riV_later {A P : Value} {k : Nat} {m : ByteArray} {sc : Int} {base : Nat} {xs : List Value} {i : Nat} (hi : i ≠ 7) {listed : Array Bool} {w w' : World} (hb : Below w.heap.size w w') (j : Nat) (v : Value) (h : riV A P k m sc base xs j listed w v) : riV A P k m sc base xs j (listed.setIfInBounds i true) w' v := by
  match j, h with
  | 0, h => exact h
  | 1, h => exact h
  | 2, h => exact h
  | 3, h => exact h
  | 4, h =>
    intro hl
    rw [getD_set_ne false hi] at hl
    exact own_later (h hl) hb
  | 5, h => exact h
  | 6, h =>
    intro hl
    rw [getD_set_ne false hi] at hl
    obtain ⟨g, h1, h2⟩ := h hl
    exact ⟨g, h1, (hb.block g h2.lt).trans h2⟩
  | 7, h => exact own_later h hb
  | 8, h => exact own_later h hb
  | _ + 9, _ => trivial
def riD (j : Nat) : Nat := if j = 8 then 7 else 8 + j
theorem riD_inj (i j : Nat) (hi : i < 9) (hj : j < 9) (h : riD i = riD j) : i = j := by
  unfold riD at h
  split at h <;> split at h <;> omega
theorem riD_lt (i : Nat) (hi : i < 9) : riD i < 21 := by unfold riD; split <;> omega
theorem riD_fix (s : Nat) (hs : s < 7 ∨ 16 ≤ s) (i : Nat) (hi : i < 9) : riD i ≠ s := by unfold riD; split <;> omega
theorem below_grown {w w' : World} (h : w.grownBy w' none) : Below w.heap.size w w' := ⟨h.os, h.tape, h.output, h.size, fun k hk => h.block k hk (by simp)⟩


set_option maxHeartbeats 2000000 in
theorem refIns_some (b off : Nat) (l : List Ent) (len c : Nat) (hlen : l.length = len) (h210 : len ≤ 210) (hlc : len ≤ c) (hc : c ≤ 9223372036854775807) (k : Nat) (hk : k ≤ len) (m : ByteArray) (sc : Int) (w : World) (hr : Els w (some ⟨b, off, none⟩) l) :
    Calls Try.prog 26 #[.slice (some ⟨b, off, none⟩) len c, .int .i64 k, .agg #[.string m, .int .i64 sc]] w fun e w' => ∃ v, e = .returned v ∧ w'.ownsRow w.heap.size 35 2 v (insAt l k (m, sc)).length ((insAt l k (m, sc)).flatMap entC) ∧ Below w.heap.size w w' := by
  obtain ⟨i0, hi, hz0, hz1, hz2⟩ := info_parts info35
  have h1' := fun w' (hb : Below w.heap.size w w') => els_part (hr.later hb) 0 (by omega) k (by omega)
  have h2' := fun w' (hb : Below w.heap.size w w') => els_part (hr.later hb) k (by omega) (len - k) (by omega)
  have e1 : (l.drop 0).take k = l.take k := by simp
  have e2 : (l.drop k).take (len - k) = l.drop k := List.take_of_length_le (by rw [List.length_drop]; omega)
  have hl1 : (l.take k).length = k := by rw [List.length_take]; omega
  have hl2 : (l.drop k).length = len - k := by rw [List.length_drop]; omega
  rw [e1] at h1'
  rw [e2] at h2'
  simp only [Nat.zero_mul, Nat.add_zero] at h1'
  have H2 := Lib.hid h2'
  have HL := Lib.hid hlen
  clear hr e1 e2 h2'
  go_enter Try.func26, Try.ntmps26
  go_wp2_with fail
  generalize ha0 : (Act.mk _ _) = a0
  have f0 : a0.tmps.getD 0 undef = (.slice (some ⟨b, off, none⟩) len c) := by rw [← ha0]; rfl
  have f1 : a0.tmps.getD 1 undef = .int .i64 k := by rw [← ha0]; rfl
  have f5 : a0.tmps.getD 5 undef = .pointer (some ⟨w.heap.size, 0, none⟩) := by rw [← ha0]; rfl
  have f7 : a0.tmps.getD 7 undef = .slice none 0 0 := by rw [← ha0]; rfl
  have fz : a0.tmps.size = 21 := by rw [← ha0]; rfl
  have fd : a0.defers = [] := by rw [← ha0]
  have hltN : ∀ i, i < 9 → riD i < a0.tmps.size := by rw [fz]; exact riD_lt
  refine wp_region_inv2 (RK 9 riD a0 (riV (.slice (some ⟨b, off, none⟩) len c) (.slice (some ⟨b, off, none⟩) k c) k m sc w.heap.size ((l.take k).flatMap entC)) (fun w' => Below w.heap.size w w') (fun w' => Box4 w' w.heap.size 35 [.string m, .int .i64 sc]) 8 7) (by kernel_rfl) ?_ ?_ ?_
  · refine ⟨fd, rfl, rfl, fun _ _ => rfl, ((Below.refl _ _).alloc (Nat.le_refl _) _).drew, ?_, fun _ => rfl, fun _ => Box4.new w 35 _⟩
    intro j hj
    simp [Array.getD_eq_getD_getElem?, Array.getElem?_replicate] at hj
    split at hj <;> simp at hj
  · intro listed a w3 i hI hSh hrd
    obtain ⟨h1, oo, ho, hdep⟩ := mem_ready.1 hrd
    have hi9 : i < 9 := (Array.getElem?_eq_some_iff.1 ho).1
    have hput := fun {i : Nat} {v : Value} {w' : World} => hI.put (i := i) (v := v) (w' := w') riD_inj hltN (by omega)
    have hrel := hI.rel
    clear ha0
    match i, hi9, ho with
    | 0, _, ho =>
      cases ho
      refine wpOp_now rfl rfl ?_
      have hl8 : listed.getD 8 false = false := by
        by_cases h8 : listed.getD 8 false = true
        · have g7 := hSh 8 _ rfl h8 ⟨7, .data⟩ (by simp) rfl
          have g4 := hSh 7 _ rfl g7 ⟨4, .data⟩ (by simp) rfl
          have g0 := hSh 4 _ rfl g4 ⟨0, .data⟩ (by simp) rfl
          have hlt0 : 0 < listed.size := by rw [hI.len]; omega
          simp [Array.getD_eq_getD_getElem?, hlt0] at g0 h1
          rw [g0] at h1; cases h1
        · simpa using h8
      exact hput (i := 0) (by omega) (v := a.eval (.tmp 7)) ((hI.late hl8).trans f7) (fun j v _ _ h => riV_later (by decide) (Below.refl _ _) j v h) hrel (fun _ _ h => h)
    | 1, _, ho =>
      cases ho
      refine wpOp_now rfl rfl ?_
      exact hput (i := 1) (by omega) (v := a.eval (.tmp 0)) ((hI.fix 0 (riD_fix 0 (by omega))).trans f0) (fun j v _ _ h => riV_later (by decide) (Below.refl _ _) j v h) hrel (fun _ _ h => h)
    | 2, _, ho =>
      cases ho
      refine wpOp_now rfl rfl ?_
      exact hput (i := 2) (by omega) (v := a.eval (.tmp 1)) ((hI.fix 1 (riD_fix 1 (by omega))).trans f1) (fun j v _ _ h => riV_later (by decide) (Below.refl _ _) j v h) hrel (fun _ _ h => h)
    | 3, _, ho =>
      cases ho
      refine wpOp_now rfl rfl ?_
      have d1 := hI.ok 1 (hdep ⟨1, .data⟩ (by simp) rfl)
      have d2 := hI.ok 2 (hdep ⟨2, .data⟩ (by simp) rfl)
      have ex : a.eval (.tmp 9) = (.slice (some ⟨b, off, none⟩) len c) := d1
      have ey : a.eval (.tmp 10) = .int .i64 k := d2
      exact wp_value (w' := w3) (.slice (some ⟨b, off, none⟩) k c) (by generalize a.eval = ρ at ex ey ⊢; simp [execOp, ex, ey, go_sem] <;> omega) (hput (i := 3) (by omega) rfl (fun j v _ _ h => riV_later (by decide) (Below.refl _ _) j v h) hrel (fun _ _ h => h))
    | 4, _, ho =>
      cases ho
      refine wpOp_now rfl rfl ?_
      have d0 := hI.ok 0 (hdep ⟨0, .data⟩ (by simp) rfl)
      have d3 := hI.ok 3 (hdep ⟨3, .data⟩ (by simp) rfl)
      have ex : a.eval (.tmp 8) = .slice none 0 0 := d0
      have ey : a.eval (.tmp 11) = .slice (some ⟨b, off, none⟩) k c := d3
      obtain ⟨v6, w6, hrun, hO6, hG6, _⟩ := run_append_own (P := Try.prog) w3 w.heap.size 22 22 35 i0 _ 2 24 Try.underlying22 hi hz0 hz1 hz2 rfl (by decide) (.slice none 0 0) 0 [] (World.ownsRow_nil _ _ _ _) ⟨b, off, none⟩ k c ((l.take k).flatMap entC) (by rw [entC_len, hl1]) (h1' _ hrel) (entC_one _) (by unfold maxLen; omega) (by omega) hrel.size
      have hb6 := below_grown hG6
      rw [Nat.zero_add, List.nil_append] at hO6
      exact wp_value (w' := w6) v6 (by generalize a.eval = ρ at ex ey ⊢; simp [execOp, resolve, invoke, builtin, ex, ey, hrun, Result.andThen]) (hput (i := 4) (by omega) (fun _ => hO6) (fun j v _ _ h => riV_later (by decide) hb6 j v h) (hrel.trans (hb6.mono hrel.size)) (fun _ _ h => (hb6.block _ h.lt).trans h))
    | 5, _, ho =>
      cases ho
      refine wpOp_now rfl rfl ?_
      have hnl : listed.getD 7 false = false := by
        by_cases h7 : listed.getD 7 false = true
        · have g6 := hSh 7 _ rfl h7 ⟨6, .data⟩ (by simp) rfl
          have g0 := hSh 6 _ rfl g6 ⟨5, .data⟩ (by simp) rfl
          have hlt0 : 5 < listed.size := by rw [hI.len]; omega
          simp [Array.getD_eq_getD_getElem?, hlt0] at g0 h1
          rw [g0] at h1; cases h1
        · simpa using h7
      have hbx := hI.wait hnl
      have ex : a.eval (.tmp 5) = .pointer (some ⟨w.heap.size, 0, none⟩) := (hI.fix 5 (riD_fix 5 (by omega))).trans f5
      have g0 := hbx.cell 0 (by simp)
      have g1 := hbx.cell 1 (by simp)
      simp only [List.getElem_cons_zero, List.getElem_cons_succ] at g0 g1
      exact wp_value (w' := w3) (.agg #[.string m, .int .i64 sc]) (by generalize a.eval = ρ at ex ⊢; simp [execOp, ex, g0, g1, go_sem]) (hput (i := 5) (by omega) rfl (fun j v _ _ h => riV_later (by decide) (Below.refl _ _) j v h) hrel (fun _ _ h => h))
    | 6, _, ho =>
      cases ho
      refine wpOp_now rfl rfl ?_
      have d5 := hI.ok 5 (hdep ⟨5, .data⟩ (by simp) rfl)
      have ex : a.eval (.tmp 13) = .agg #[.string m, .int .i64 sc] := d5
      have hb2 : Below w3.heap.size w3 (w3.alloc (.cells #[.string m, .int .i64 sc] 35)) := (Below.refl _ _).alloc (Nat.le_refl _) _
      exact wp_value (w' := w3.alloc (.cells #[.string m, .int .i64 sc] 35)) (.slice (some ⟨w3.heap.size, 0, none⟩) 1 1) (by generalize a.eval = ρ at ex ⊢; simp [execOp, ex, go_sem]) (hput (i := 6) (by omega) (fun _ => ⟨_, rfl, Box4.new w3 35 _⟩) (fun j v _ _ h => riV_later (by decide) hb2 j v h) (hrel.trans (hb2.mono hrel.size)) (fun _ _ h => Box4.alloc h _))
    | 7, _, ho =>
      cases ho
      refine wpOp_now rfl rfl ?_
      have d4 := hI.ok 4 (hdep ⟨4, .data⟩ (by simp) rfl)
      have d6 := hI.ok 6 (hdep ⟨6, .data⟩ (by simp) rfl)
      have hnl : listed.getD 7 false = false := by
        have hlt0 : 7 < listed.size := by rw [hI.len]; omega
        simp [Array.getD_eq_getD_getElem?, hlt0] at h1 ⊢; exact h1
      have hnl2 : listed.getD 8 false = false := by
        by_cases h8 : listed.getD 8 false = true
        · have g7 := hSh 8 _ rfl h8 ⟨7, .data⟩ (by simp) rfl
          rw [g7] at hnl; cases hnl
        · simpa using h8
      have hown := d4 hnl
      obtain ⟨g, hg, hbx⟩ := d6 hnl
      have ey : a.eval (.tmp 14) = .slice (some ⟨g, 0, none⟩) 1 1 := hg
      obtain ⟨v12, h12⟩ : ∃ v, a.tmps.getD (riD 4) undef = v := ⟨_, rfl⟩
      rw [h12] at hown
      have ex : a.eval (.tmp 12) = v12 := h12
      obtain ⟨v6, w6, hrun, hO6, hG6, _⟩ := run_append_own (P := Try.prog) w3 w.heap.size 22 22 35 i0 _ 2 24 Try.underlying22 hi hz0 hz1 hz2 rfl (by decide) v12 k _ hown ⟨g, 0, none⟩ 1 1 (entC (m, sc)) rfl (fun j u hj => by
        obtain ⟨hlt1, rfl⟩ := List.getElem?_eq_some_iff.1 hj
        rw [Go.WideShapes.add_plain, Nat.zero_add]
        exact hbx.cell j hlt1) (by simp [entC, Value.oneCell']) (by unfold maxLen; omega) (by omega) hrel.size
      refine wp_value (w' := w6) v6 (by generalize a.eval = ρ at ex ey ⊢; simp [execOp, resolve, invoke, builtin, ex, ey, hrun, Result.andThen]) (hput (i := 7) (by omega) hO6 (fun j v hj hl h => ?_) (hrel.grown hG6 hrel.size (fun b e => (hown.lt b e).1)) (fun h => absurd rfl h))
      have hset : (listed.setIfInBounds 7 true).getD 7 false = true := by
        have hlt0 : 7 < listed.size := by rw [hI.len]; omega
        simp [Array.getD_eq_getD_getElem?, hlt0]
      match j, hj, hl, h with
      | 0, _, _, h => exact h
      | 1, _, _, h => exact h
      | 2, _, _, h => exact h
      | 3, _, _, h => exact h
      | 4, _, _, _ => intro hx; rw [hset] at hx; cases hx
      | 5, _, _, h => exact h
      | 6, _, _, _ => intro hx; rw [hset] at hx; cases hx
      | 7, hj, _, _ => exact absurd rfl hj
      | 8, _, hl, _ => rw [hnl2] at hl; cases hl
      | _ + 9, _, _, _ => trivial
    | 8, _, ho =>
      cases ho
      refine wpOp_now rfl rfl ?_
      have d7 := hI.ok 7 (hdep ⟨7, .data⟩ (by simp) rfl)
      exact hput (i := 8) (by omega) (v := a.eval (.tmp 15)) d7 (fun j v _ _ h => riV_later (by decide) (Below.refl _ _) j v h) hrel (fun _ _ h => h)
  · intro listed a w3 hI hrd
    have hl := all_listed (ops := _) (listed := listed) (by rw [hI.len]; rfl) (by kernel_rfl) hrd
    have h8 := hI.ok 8 (hl 8 (by decide))
    have hB3 := hI.rel
    obtain ⟨f, hf, hact⟩ := act_fold hI.defers hI.size hI.fix fd hltN
    have hO3 : w3.ownsRow w.heap.size 35 2 (f 7) (k + 1) (((l.take k).flatMap entC) ++ entC (m, sc)) := by rw [hf 7]; exact h8
    clear hI h8 hf hl
    rw [hact, ← ha0]
    clear hact ha0
    rw [show (List.range 9).map riD = [8, 9, 10, 11, 12, 13, 14, 15, 7] from rfl]
    simp only [List.foldl_cons, List.foldl_nil, Act.put]
    apply_assumption
    obtain ⟨Q7, q7, hv7⟩ := own_slice hO3
    rw [hv7] at hO3
    by_cases hck : c = k
    · have hln : len = k := by omega
      have hd0 : l.drop k = [] := List.drop_eq_nil_of_le (by omega)
      go_wp2_with (at_builtin; refine wpList_append_own _ rfl _ _ 22 rfl w.heap.size 35 i0 _ 2 24 Try.underlying22 hi hz0 hz1 hz2 rfl (by decide) _ (k + 1) _ rfl hO3 ⟨b, off, none⟩ 0 _ (([] : List Ent).flatMap entC) rfl rfl (by intro j u hj; simp at hj) (entC_one _) (by unfold maxLen; omega) (by omega) hB3.size ?_; intro v9 w9 hO9 hG9 _; have hB9 := hB3.grown hG9 hB3.size (fun b e => (hO3.lt b e).1))
      go_ret
      refine ⟨_, rfl, ?_, hB9⟩
      rw [insAt_length (by omega), HL.out]
      unfold insAt
      rw [hd0]
      have e3 : len + 1 = k + 1 + 0 := by omega
      rw [e3]
      simpa using hO9
    · go_wp2_with (at_builtin; refine wpList_append_own _ rfl _ _ 22 rfl w.heap.size 35 i0 _ 2 24 Try.underlying22 hi hz0 hz1 hz2 rfl (by decide) _ (k + 1) _ rfl hO3 ⟨b, off + k * 2, none⟩ (len - k) _ ((l.drop k).flatMap entC) rfl (by rw [entC_len, hl2]) (H2.out _ hB3) (entC_one _) (by unfold maxLen; omega) (by omega) hB3.size ?_; intro v9 w9 hO9 hG9 _; have hB9 := hB3.grown hG9 hB3.size (fun b e => (hO3.lt b e).1))
      go_ret
      refine ⟨_, rfl, ?_, hB9⟩
      rw [insAt_length (by omega), HL.out]
      unfold insAt
      have e3 : len + 1 = k + 1 + (len - k) := by omega
      rw [e3]
      simpa using hO9

set_option maxHeartbeats 2000000 in
theorem refIns_nil (m : ByteArray) (sc : Int) (w : World) :
    Calls Try.prog 26 #[.slice none 0 0, .int .i64 0, .agg #[.string m, .int .i64 sc]] w fun e w' => ∃ v, e = .returned v ∧ w'.ownsRow w.heap.size 35 2 v (insAt [] 0 (m, sc)).length ((insAt [] 0 (m, sc)).flatMap entC) ∧ Below w.heap.size w w' := by
  obtain ⟨i0, hi, hz0, hz1, hz2⟩ := info_parts info35
  go_enter Try.func26, Try.ntmps26
  go_wp2_with fail
  generalize ha0 : (Act.mk _ _) = a0
  have f0 : a0.tmps.getD 0 undef = (.slice none 0 0) := by rw [← ha0]; rfl
  have f1 : a0.tmps.getD 1 undef = .int .i64 (0 : Nat) := by rw [← ha0]; rfl
  have f5 : a0.tmps.getD 5 undef = .pointer (some ⟨w.heap.size, 0, none⟩) := by rw [← ha0]; rfl
  have f7 : a0.tmps.getD 7 undef = .slice none 0 0 := by rw [← ha0]; rfl
  have fz : a0.tmps.size = 21 := by rw [← ha0]; rfl
  have fd : a0.defers = [] := by rw [← ha0]
  have hltN : ∀ i, i < 9 → riD i < a0.tmps.size := by rw [fz]; exact riD_lt
  refine wp_region_inv2 (RK 9 riD a0 (riV (.slice none 0 0) (.slice none 0 0) 0 m sc w.heap.size []) (fun w' => Below w.heap.size w w') (fun w' => Box4 w' w.heap.size 35 [.string m, .int .i64 sc]) 8 7) (by kernel_rfl) ?_ ?_ ?_
  · refine ⟨fd, rfl, rfl, fun _ _ => rfl, ((Below.refl _ _).alloc (Nat.le_refl _) _).drew, ?_, fun _ => rfl, fun _ => Box4.new w 35 _⟩
    intro j hj
    simp [Array.getD_eq_getD_getElem?, Array.getElem?_replicate] at hj
    split at hj <;> simp at hj
  · intro listed a w3 i hI hSh hrd
    obtain ⟨h1, oo, ho, hdep⟩ := mem_ready.1 hrd
    have hi9 : i < 9 := (Array.getElem?_eq_some_iff.1 ho).1
    have hput := fun {i : Nat} {v : Value} {w' : World} => hI.put (i := i) (v := v) (w' := w') riD_inj hltN (by omega)
    have hrel := hI.rel
    clear ha0
    match i, hi9, ho with
    | 0, _, ho =>
      cases ho
      refine wpOp_now rfl rfl ?_
      have hl8 : listed.getD 8 false = false := by
        by_cases h8 : listed.getD 8 false = true
        · have g7 := hSh 8 _ rfl h8 ⟨7, .data⟩ (by simp) rfl
          have g4 := hSh 7 _ rfl g7 ⟨4, .data⟩ (by simp) rfl
          have g0 := hSh 4 _ rfl g4 ⟨0, .data⟩ (by simp) rfl
          have hlt0 : 0 < listed.size := by rw [hI.len]; omega
          simp [Array.getD_eq_getD_getElem?, hlt0] at g0 h1
          rw [g0] at h1; cases h1
        · simpa using h8
      exact hput (i := 0) (by omega) (v := a.eval (.tmp 7)) ((hI.late hl8).trans f7) (fun j v _ _ h => riV_later (by decide) (Below.refl _ _) j v h) hrel (fun _ _ h => h)
    | 1, _, ho =>
      cases ho
      refine wpOp_now rfl rfl ?_
      exact hput (i := 1) (by omega) (v := a.eval (.tmp 0)) ((hI.fix 0 (riD_fix 0 (by omega))).trans f0) (fun j v _ _ h => riV_later (by decide) (Below.refl _ _) j v h) hrel (fun _ _ h => h)
    | 2, _, ho =>
      cases ho
      refine wpOp_now rfl rfl ?_
      exact hput (i := 2) (by omega) (v := a.eval (.tmp 1)) ((hI.fix 1 (riD_fix 1 (by omega))).trans f1) (fun j v _ _ h => riV_later (by decide) (Below.refl _ _) j v h) hrel (fun _ _ h => h)
    | 3, _, ho =>
      cases ho
      refine wpOp_now rfl rfl ?_
      have d1 := hI.ok 1 (hdep ⟨1, .data⟩ (by simp) rfl)
      have d2 := hI.ok 2 (hdep ⟨2, .data⟩ (by simp) rfl)
      have ex : a.eval (.tmp 9) = (.slice none 0 0) := d1
      have ey : a.eval (.tmp 10) = .int .i64 (0 : Nat) := d2
      exact wp_value (w' := w3) (.slice none 0 0) (by generalize a.eval = ρ at ex ey ⊢; simp [execOp, ex, ey, go_sem] <;> omega) (hput (i := 3) (by omega) rfl (fun j v _ _ h => riV_later (by decide) (Below.refl _ _) j v h) hrel (fun _ _ h => h))
    | 4, _, ho =>
      cases ho
      refine wpOp_now rfl rfl ?_
      have d0 := hI.ok 0 (hdep ⟨0, .data⟩ (by simp) rfl)
      have d3 := hI.ok 3 (hdep ⟨3, .data⟩ (by simp) rfl)
      have ex : a.eval (.tmp 8) = .slice none 0 0 := d0
      have ey : a.eval (.tmp 11) = .slice none 0 0 := d3
      have hrun := run_append_owned_none (P := Try.prog) (w := w3) w.heap.size 22 22 35 i0 2 Try.underlying22 hi (.slice none 0 0) 0 [] (World.ownsRow_nil _ _ _ _)
      exact wp_value (w' := w3) (.slice none 0 0) (by generalize a.eval = ρ at ex ey ⊢; simp [execOp, resolve, invoke, builtin, ex, ey, hrun, Result.andThen]) (hput (i := 4) (by omega) (fun _ => World.ownsRow_nil _ _ _ _) (fun j v _ _ h => riV_later (by decide) (Below.refl _ _) j v h) hrel (fun _ _ h => h))
    | 5, _, ho =>
      cases ho
      refine wpOp_now rfl rfl ?_
      have hnl : listed.getD 7 false = false := by
        by_cases h7 : listed.getD 7 false = true
        · have g6 := hSh 7 _ rfl h7 ⟨6, .data⟩ (by simp) rfl
          have g0 := hSh 6 _ rfl g6 ⟨5, .data⟩ (by simp) rfl
          have hlt0 : 5 < listed.size := by rw [hI.len]; omega
          simp [Array.getD_eq_getD_getElem?, hlt0] at g0 h1
          rw [g0] at h1; cases h1
        · simpa using h7
      have hbx := hI.wait hnl
      have ex : a.eval (.tmp 5) = .pointer (some ⟨w.heap.size, 0, none⟩) := (hI.fix 5 (riD_fix 5 (by omega))).trans f5
      have g0 := hbx.cell 0 (by simp)
      have g1 := hbx.cell 1 (by simp)
      simp only [List.getElem_cons_zero, List.getElem_cons_succ] at g0 g1
      exact wp_value (w' := w3) (.agg #[.string m, .int .i64 sc]) (by generalize a.eval = ρ at ex ⊢; simp [execOp, ex, g0, g1, go_sem]) (hput (i := 5) (by omega) rfl (fun j v _ _ h => riV_later (by decide) (Below.refl _ _) j v h) hrel (fun _ _ h => h))
    | 6, _, ho =>
      cases ho
      refine wpOp_now rfl rfl ?_
      have d5 := hI.ok 5 (hdep ⟨5, .data⟩ (by simp) rfl)
      have ex : a.eval (.tmp 13) = .agg #[.string m, .int .i64 sc] := d5
      have hb2 : Below w3.heap.size w3 (w3.alloc (.cells #[.string m, .int .i64 sc] 35)) := (Below.refl _ _).alloc (Nat.le_refl _) _
      exact wp_value (w' := w3.alloc (.cells #[.string m, .int .i64 sc] 35)) (.slice (some ⟨w3.heap.size, 0, none⟩) 1 1) (by generalize a.eval = ρ at ex ⊢; simp [execOp, ex, go_sem]) (hput (i := 6) (by omega) (fun _ => ⟨_, rfl, Box4.new w3 35 _⟩) (fun j v _ _ h => riV_later (by decide) hb2 j v h) (hrel.trans (hb2.mono hrel.size)) (fun _ _ h => Box4.alloc h _))
    | 7, _, ho =>
      cases ho
      refine wpOp_now rfl rfl ?_
      have d4 := hI.ok 4 (hdep ⟨4, .data⟩ (by simp) rfl)
      have d6 := hI.ok 6 (hdep ⟨6, .data⟩ (by simp) rfl)
      have hnl : listed.getD 7 false = false := by
        have hlt0 : 7 < listed.size := by rw [hI.len]; omega
        simp [Array.getD_eq_getD_getElem?, hlt0] at h1 ⊢; exact h1
      have hnl2 : listed.getD 8 false = false := by
        by_cases h8 : listed.getD 8 false = true
        · have g7 := hSh 8 _ rfl h8 ⟨7, .data⟩ (by simp) rfl
          rw [g7] at hnl; cases hnl
        · simpa using h8
      have hown := d4 hnl
      obtain ⟨g, hg, hbx⟩ := d6 hnl
      have ey : a.eval (.tmp 14) = .slice (some ⟨g, 0, none⟩) 1 1 := hg
      obtain ⟨v12, h12⟩ : ∃ v, a.tmps.getD (riD 4) undef = v := ⟨_, rfl⟩
      rw [h12] at hown
      have ex : a.eval (.tmp 12) = v12 := h12
      obtain ⟨v6, w6, hrun, hO6, hG6, _⟩ := run_append_own (P := Try.prog) w3 w.heap.size 22 22 35 i0 _ 2 24 Try.underlying22 hi hz0 hz1 hz2 rfl (by decide) v12 0 _ hown ⟨g, 0, none⟩ 1 1 (entC (m, sc)) rfl (fun j u hj => by
        obtain ⟨hlt1, rfl⟩ := List.getElem?_eq_some_iff.1 hj
        rw [Go.WideShapes.add_plain, Nat.zero_add]
        exact hbx.cell j hlt1) (by simp [entC, Value.oneCell']) (by unfold maxLen; omega) (by omega) hrel.size
      refine wp_value (w' := w6) v6 (by generalize a.eval = ρ at ex ey ⊢; simp [execOp, resolve, invoke, builtin, ex, ey, hrun, Result.andThen]) (hput (i := 7) (by omega) hO6 (fun j v hj hl h => ?_) (hrel.grown hG6 hrel.size (fun b e => (hown.lt b e).1)) (fun h => absurd rfl h))
      have hset : (listed.setIfInBounds 7 true).getD 7 false = true := by
        have hlt0 : 7 < listed.size := by rw [hI.len]; omega
        simp [Array.getD_eq_getD_getElem?, hlt0]
      match j, hj, hl, h with
      | 0, _, _, h => exact h
      | 1, _, _, h => exact h
      | 2, _, _, h => exact h
      | 3, _, _, h => exact h
      | 4, _, _, _ => intro hx; rw [hset] at hx; cases hx
      | 5, _, _, h => exact h
      | 6, _, _, _ => intro hx; rw [hset] at hx; cases hx
      | 7, hj, _, _ => exact absurd rfl hj
      | 8, _, hl, _ => rw [hnl2] at hl; cases hl
      | _ + 9, _, _, _ => trivial
    | 8, _, ho =>
      cases ho
      refine wpOp_now rfl rfl ?_
      have d7 := hI.ok 7 (hdep ⟨7, .data⟩ (by simp) rfl)
      exact hput (i := 8) (by omega) (v := a.eval (.tmp 15)) d7 (fun j v _ _ h => riV_later (by decide) (Below.refl _ _) j v h) hrel (fun _ _ h => h)
  · intro listed a w3 hI hrd
    have hl := all_listed (ops := _) (listed := listed) (by rw [hI.len]; rfl) (by kernel_rfl) hrd
    have h8 := hI.ok 8 (hl 8 (by decide))
    have hB3 := hI.rel
    obtain ⟨f, hf, hact⟩ := act_fold hI.defers hI.size hI.fix fd hltN
    have hO3 : w3.ownsRow w.heap.size 35 2 (f 7) (0 + 1) ([] ++ entC (m, sc)) := by rw [hf 7]; exact h8
    clear hI h8 hf hl
    rw [hact, ← ha0]
    clear hact ha0
    rw [show (List.range 9).map riD = [8, 9, 10, 11, 12, 13, 14, 15, 7] from rfl]
    simp only [List.foldl_cons, List.foldl_nil, Act.put]
    apply_assumption
    obtain ⟨Q7, q7, hv7⟩ := own_slice hO3
    rw [hv7] at hO3
    go_wp2_with (at_builtin; refine wpList_append_own_none rfl _ _ 22 rfl w.heap.size 35 i0 2 Try.underlying22 hi _ _ _ rfl hO3 rfl ?_)
    go_ret
    refine ⟨_, rfl, ?_, hB3⟩
    simpa [insAt] using hO3

end Go.Proofs.Ytcjjeookfnmjcaa
