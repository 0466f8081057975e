import Derived.Test.YtcjjeookfnmjcaaRefPack
namespace Go.Proofs.Ytcjjeookfnmjcaa
open Go.RowKit Go.Proofs.YtcjjeookfnmjcaaW.PrintWords
set_option linter.unusedVariables false

/-- The cells of entries that stand in a row, from an address on. -/
theorem els_news {w : World} {b off : Nat} {l : List Ent} (h : ∀ i (hi : i < l.length), w.cell? ⟨b, off + i * 2, none⟩ = some (.string (l[i]'hi).1) ∧ w.cell? ⟨b, off + i * 2 + 1, none⟩ = some (.int .i64 (l[i]'hi).2)) :
    ∀ j u, (l.flatMap entC)[j]? = some u → w.cell? ((⟨b, off, none⟩ : Addr).add j) = some u := by
  intro j u hj
  have hlen : (l.flatMap entC).length = l.length * 2 := by
    clear h hj
    induction l with
    | nil => rfl
    | cons x l ih => simp only [List.flatMap_cons, List.length_append, ih, List.length_cons, entC, List.length_nil]; omega
  have hjl : j < l.length * 2 := by rw [← hlen]; exact (List.getElem?_eq_some_iff.1 hj).1
  have hk : j / 2 < l.length := by omega
  have hj2 : j = j / 2 * 2 + j % 2 := by omega
  have hg := flat_get entC 2 (fun _ => rfl) l (j / 2) (j % 2) (l[j / 2]'hk) (List.getElem?_eq_getElem hk) (by omega)
  rw [← hj2, hj] at hg
  obtain ⟨h0, h1⟩ := h (j / 2) hk
  rw [Go.WideShapes.add_plain]
  rcases Nat.mod_two_eq_zero_or_one j with hm | hm
  · rw [hm] at hg hj2
    have : u = .string (l[j / 2]'hk).1 := by simpa [entC] using hg
    rw [this, show off + j = off + j / 2 * 2 by omega]; exact h0
  · rw [hm] at hg hj2
    have : u = .int .i64 (l[j / 2]'hk).2 := by simpa [entC] using hg
    rw [this, show off + j = off + j / 2 * 2 + 1 by omega]; exact h1
theorem entC_one (l : List Ent) : ∀ u ∈ l.flatMap entC, u.oneCell' = true := by
  intro u hu
  obtain ⟨e, _, he⟩ := List.mem_flatMap.1 hu
  simp only [entC, List.mem_cons, List.not_mem_nil, or_false] at he
  rcases he with rfl | rfl <;> rfl
theorem entC_len (l : List Ent) : (l.flatMap entC).length = l.length * 2 := by
  induction l with
  | nil => rfl
  | cons x l ih => simp only [List.flatMap_cons, List.length_append, ih, List.length_cons, entC, List.length_nil]; omega

/-- A piece of a slice of entries: its cells. -/
theorem els_part {w : World} {b off : Nat} {l : List Ent} (h : Els w (some ⟨b, off, none⟩) l) (i : Nat) (hi : i ≤ l.length) (n : Nat) (hn : i + n ≤ l.length) :
    ∀ j u, (((l.drop i).take n).flatMap entC)[j]? = some u → w.cell? ((⟨b, off + i * 2, none⟩ : Addr).add j) = some u := by
  refine els_news (fun k hk => ?_)
  have hk2 : k < n := by rw [List.length_take] at hk; omega
  obtain ⟨b', o', e, h0, h1⟩ := h (i + k) (by omega)
  cases e
  have e1 : ((l.drop i).take n)[k]'hk = l[i + k]'(by omega) := by simp
  rw [e1]
  exact ⟨by rw [show off + i * 2 + k * 2 = off + (i + k) * 2 by omega]; exact h0, by rw [show off + i * 2 + k * 2 + 1 = off + (i + k) * 2 + 1 by omega]; exact h1⟩

set_option maxHeartbeats 1000000 in
theorem refDel_any (b off : Nat) (l : List Ent) (len c : Nat) (hlen : l.length = len) (h200 : len ≤ 200) (hlc : len ≤ c) (hc : c ≤ 9223372036854775807) (k : Nat) (hk : k < len) (w : World) (hr : Els w (some ⟨b, off, none⟩) l) :
    Calls Try.prog 27 #[.slice (some ⟨b, off, none⟩) len c, .int .i64 k] w fun e w' => ∃ v, e = .returned v ∧ w'.ownsRow w.heap.size 35 2 v (delAt l k).length ((delAt l k).flatMap entC) ∧ Below w.heap.size w w' := by
  obtain ⟨i0, hi, hz0, hz1, hz2⟩ := info_parts info35
  have h1 := Lib.hid (els_part hr 0 (by omega) k (by omega))
  have h2 := Lib.hid (fun w' (hb : Below w.heap.size w w') => els_part (hr.later hb) (k + 1) (by omega) (len - (k + 1)) (by omega))
  have e1 : (l.drop 0).take k = l.take k := by simp
  have e2 : (l.drop (k + 1)).take (len - (k + 1)) = l.drop (k + 1) := List.take_of_length_le (by rw [List.length_drop]; omega)
  have hl1 : (l.take k).length = k := by rw [List.length_take]; omega
  have hl2 : (l.drop (k + 1)).length = len - (k + 1) := by rw [List.length_drop]; omega
  rw [e1] at h1
  rw [e2] at h2
  rw [Nat.zero_mul, Nat.add_zero] at h1
  have HL := Lib.hid hlen
  clear hr e1 e2
  by_cases hck : c = k + 1
  · have hln : len = k + 1 := by omega
    have hd0 : l.drop (k + 1) = [] := List.drop_eq_nil_of_le (by omega)
    go_enter Try.func27, Try.ntmps27
    go_wp2_with (at_builtin; first | (refine wpList_append_own _ rfl _ _ 22 rfl w.heap.size 35 i0 _ 2 24 Try.underlying22 hi hz0 hz1 hz2 rfl (by decide) _ 0 [] rfl (World.ownsRow_nil _ _ _ _) ⟨b, off, none⟩ k _ ((l.take k).flatMap entC) rfl (by rw [entC_len, hl1]) h1.out (entC_one _) (by unfold maxLen; omega) (by omega) (Nat.le_refl _) ?_; intro v1 w1 hO1 hG1 _; have hB1 := (Below.refl w.heap.size w).grown hG1 (Nat.le_refl _) (fun b e => by cases e); rw [Nat.zero_add, List.nil_append] at hO1; obtain ⟨Q1, q1, hv1⟩ := own_slice hO1; subst hv1) | (refine wpList_append_own _ rfl _ _ 22 rfl w.heap.size 35 i0 _ 2 24 Try.underlying22 hi hz0 hz1 hz2 rfl (by decide) _ k _ rfl hO1 ⟨b, off, none⟩ 0 _ (([] : List Ent).flatMap entC) rfl rfl (by intro j u hj; simp at hj) (entC_one _) (by unfold maxLen; omega) (by omega) hB1.size ?_; intro v2 w2 hO2 hG2 _; have hB2 := hB1.grown hG2 hB1.size (fun b e => (hO1.lt b e).1)))
    go_ret
    refine ⟨_, rfl, ?_, hB2⟩
    rw [delAt_length (by omega), HL.out]
    unfold delAt
    rw [hd0, List.append_nil]
    have e3 : len - 1 = k + 0 := by omega
    rw [e3]
    simpa using hO2
  · go_enter Try.func27, Try.ntmps27
    go_wp2_with (at_builtin; first | (refine wpList_append_own _ rfl _ _ 22 rfl w.heap.size 35 i0 _ 2 24 Try.underlying22 hi hz0 hz1 hz2 rfl (by decide) _ 0 [] rfl (World.ownsRow_nil _ _ _ _) ⟨b, off, none⟩ k _ ((l.take k).flatMap entC) rfl (by rw [entC_len, hl1]) h1.out (entC_one _) (by unfold maxLen; omega) (by omega) (Nat.le_refl _) ?_; intro v1 w1 hO1 hG1 _; have hB1 := (Below.refl w.heap.size w).grown hG1 (Nat.le_refl _) (fun b e => by cases e); rw [Nat.zero_add, List.nil_append] at hO1; obtain ⟨Q1, q1, hv1⟩ := own_slice hO1; subst hv1) | (refine wpList_append_own _ rfl _ _ 22 rfl w.heap.size 35 i0 _ 2 24 Try.underlying22 hi hz0 hz1 hz2 rfl (by decide) _ k _ rfl hO1 ⟨b, off + (k + 1) * 2, none⟩ (len - (k + 1)) _ ((l.drop (k + 1)).flatMap entC) rfl (by rw [entC_len, hl2]) (h2.out _ hB1) (entC_one _) (by unfold maxLen; omega) (by omega) hB1.size ?_; intro v2 w2 hO2 hG2 _; have hB2 := hB1.grown hG2 hB1.size (fun b e => (hO1.lt b e).1)))
    go_ret
    refine ⟨_, rfl, ?_, hB2⟩
    rw [delAt_length (by omega), HL.out]
    unfold delAt
    rw [List.flatMap_append]
    have e3 : k + (len - (k + 1)) = len - 1 := by omega
    rw [← e3]; exact hO2

end Go.Proofs.Ytcjjeookfnmjcaa
