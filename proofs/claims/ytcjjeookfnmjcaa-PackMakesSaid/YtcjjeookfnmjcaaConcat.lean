import Derived.Test.YtcjjeookfnmjcaaEntries
import Derived.Shelf.Spec.SlicesGrow
import Derived.Laws.AppendOwnNone
namespace Go.Proofs
open Go.Shelf
shelf_lay_g Lays8.n4 Nm8 4 at Try 40 as Try.growB
end Go.Proofs
namespace Go.Proofs.Ytcjjeookfnmjcaa
open Go.RowKit Go.Proofs.YtcjjeookfnmjcaaW.PrintWords
set_option linter.unusedVariables false

theorem grow_nil (n : Nat) (hn : n ≤ 10000000) (w : World) :
    Calls Try.prog 40 #[.slice none 0 0, .int .i64 n] w fun e w' => ∃ v, e = .returned v ∧ w'.ownsRow w.heap.size 5 1 v 0 [] ∧ Below w.heap.size w w' := by
  obtain ⟨i0, hi, hz0, hz1, hz2⟩ := info_parts info5
  by_cases h0 : n = 0
  · subst h0
    refine (Any8.slices_Grow_room Try.growB none 0 0 0 w (by omega) (by omega) (by omega) (by omega)).mono ?_
    rintro e w' ⟨rfl, rfl⟩
    exact ⟨_, rfl, World.ownsRow_nil _ _ _ _, Below.refl _ _⟩
  · refine (Any8.slices_Grow_grow Try.growB i0 (.int .u8 0) hi hz0 (by rw [hz1]; omega) none 0 0 n [] w (by omega) (by omega) (by rw [hz2]; omega) (by omega) (by simp) (by simp) (by simp)).mono ?_
    rintro e w' ⟨rfl, rfl⟩
    refine ⟨_, rfl, ⟨by simp, .inr ⟨w.heap.size, _, _, rfl, Nat.le_refl _, World.alloc_heap_new w.drew _, Nat.zero_le _, grownCap_le_maxLen _ _ _ _ (by unfold maxLen; omega), ?_, ?_⟩⟩, (Below.refl _ _).drew.alloc (Nat.le_refl _) _⟩
    · have := grownCap_ge w (0 + n) 0 (Try.growB_ren.t 25)
      simp only [Array.size_append, List.size_toArray, List.length_nil, size_zeroCells, show (Value.int .u8 0).cells.size = 1 from rfl]
      omega
    · simp

/-- A slice of bytes that can be read. -/
def Rd (w : World) (v : Value) (zs : List Int) : Prop :=
  (v = .slice none 0 0 ∧ zs = []) ∨ ∃ ad c, v = .slice (some ad) zs.length c ∧ ad.block < w.heap.size ∧ ∀ j u, (nums .u8 zs)[j]? = some u → w.cell? (ad.add j) = some u
theorem Rd.len {w : World} {v : Value} {zs : List Int} (h : Rd w v zs) : ∃ A c, v = .slice A zs.length c := by
  rcases h with ⟨rfl, rfl⟩ | ⟨ad, c, rfl, _⟩
  · exact ⟨_, _, rfl⟩
  · exact ⟨_, _, rfl⟩
theorem add_block (ad : Addr) (j : Nat) : (ad.add j).block = ad.block := by unfold Addr.add; split <;> rfl
theorem Rd.later {w w' : World} {v : Value} {zs : List Int} (h : Rd w v zs) (hb : Below w.heap.size w w') : Rd w' v zs := by
  rcases h with h | ⟨ad, c, rfl, hl, hc⟩
  · exact .inl h
  · exact .inr ⟨ad, c, rfl, Nat.lt_of_lt_of_le hl hb.size, fun j u hj => (hb.cell (by rw [add_block]; exact hl)).trans (hc j u hj)⟩

def total (vs : List (Value × List Int)) : List Int := vs.flatMap (·.2)

theorem total_take (vs : List (Value × List Int)) (k : Nat) (x : Value × List Int) (hk : k < vs.length) (hx : vs[k]'hk = x) : total (vs.take (k + 1)) = total (vs.take k) ++ x.2 := by
  rw [List.take_succ_eq_append_getElem hk, hx]; simp [total]
theorem total_le (vs : List (Value × List Int)) (k : Nat) : (total (vs.take k)).length ≤ (total vs).length := by
  have : total vs = total (vs.take k) ++ total (vs.drop k) := by unfold total; rw [← List.flatMap_append, List.take_append_drop]
  rw [this]; simp

set_option maxHeartbeats 1000000 in
theorem concat_any (g c : Nat) (vs : List (Value × List Int)) (n : Nat) (hn : vs.length = n) (hn2 : n ≤ 1000) (w : World) (hg : g < w.heap.size)
    (hc : ∀ k (hk : k < vs.length), w.cell? ⟨g, k, none⟩ = some (vs[k]'hk).1) (hr : ∀ x, x ∈ vs → Rd w x.1 x.2) (hT : (total vs).length ≤ 3000000) :
    Calls Try.prog 39 #[.slice (some ⟨g, 0, none⟩) n c] w fun e w' => ∃ v, e = .returned v ∧ w'.ownsRow w.heap.size 5 1 v (total vs).length (nums .u8 (total vs)) ∧ Below w.heap.size w w' := by
  obtain ⟨i0, hi, hz0, hz1, hz2⟩ := info_parts info5
  have HC := Lib.hid hc
  have HRd := Lib.hid hr
  have HN := Lib.hid hn
  clear hc hr
  go_enter Try.func39, Try.ntmps39
  go_wp2_with fail
  go_loopw [3, 11] (fun u i wr => ∃ k : Nat, k ≤ n ∧ i = .int .i64 k ∧ u = .int .i64 ((total (vs.take k)).length : Int) ∧ w = wr) (fun _ i _ => n - (intOf i).toNat)
  case atStart => exact ⟨0, by omega, rfl, by simp [total], rfl⟩
  case round =>
    obtain ⟨k, hk, rfl, rfl, rfl⟩ := hrel
    by_cases hlt : k < n
    · have hkl : k < vs.length := by rw [hn]; exact hlt
      have hck := HC.out k hkl
      obtain ⟨x, hx⟩ : ∃ x, vs[k]'hkl = x := ⟨_, rfl⟩
      rw [hx] at hck
      obtain ⟨A, cx, hxv⟩ := (HRd.out x (hx ▸ List.getElem_mem hkl)).len
      rw [hxv] at hck
      have h1 := total_take vs k x hkl hx
      have h2 := total_le vs (k + 1)
      rw [h1, List.length_append] at h2
      have HT := Lib.hid h1
      clear h1 hx
      go_wp2_with fail
      go_roundw
      case rel => exact ⟨k + 1, by omega, by go_num, by rw [HT.out, List.length_append]; go_num, trivial⟩
      case measure => simp [intOf]; omega
    · obtain rfl : k = n := by omega
      rw [List.take_of_length_le (by rw [hn]; exact Nat.le_refl _)]
      go_wp2_with fail
      refine (grow_nil _ (by omega) _).mono ?_
      rintro e w2 ⟨v2, rfl, hO2, hB2⟩
      go_wp2_with fail
      go_loopw [6, 27] (fun u i wr => ∃ k : Nat, k ≤ vs.length ∧ i = .int .i64 k ∧ wr.ownsRow w.heap.size 5 1 u (total (vs.take k)).length (nums .u8 (total (vs.take k))) ∧ Below w.heap.size w wr) (fun _ i _ => vs.length - (intOf i).toNat)
      case atStart => exact ⟨0, by omega, rfl, hO2, hB2⟩
      case round =>
        obtain ⟨k, hk, rfl, hO, hB⟩ := hrel
        obtain ⟨A6, c6, hv6⟩ := own_slice hO
        have hzr := hB.size
        have HO := Lib.hid hO
        clear hO hO2
        by_cases hlt : k < vs.length
        · have hck := (hB.cell (p := ⟨g, k, none⟩) hg).trans (HC.out k hlt)
          obtain ⟨x, hx⟩ : ∃ x, vs[k]'hlt = x := ⟨_, rfl⟩
          rw [hx] at hck
          have hrd := (HRd.out x (hx ▸ List.getElem_mem hlt)).later hB
          have h1 := total_take vs k x hlt hx
          have h2 := total_le vs (k + 1)
          rw [h1, List.length_append] at h2
          have HT := Lib.hid h1
          have hz1' : (Value.int .u8 0).cells.size = 1 := rfl
          clear h1 hx
          rcases hrd with ⟨hxv, hx0⟩ | ⟨ad, cx, hxv, hal, hcx⟩
          · rw [hxv] at hck
            go_wp2_with (at_builtin; refine wpList_append_own_none rfl _ _ 48 rfl w.heap.size 5 i0 1 Try.underlying48 hi _ _ _ rfl HO.out rfl ?_)
            go_roundw
            case rel => exact ⟨k + 1, by omega, by go_num, by rw [HT.out, hx0, List.append_nil, ← hv6]; exact HO.out, hB⟩
            case measure => simp [intOf]; omega
          · rw [hxv] at hck
            go_wp2_with (at_builtin; refine wpList_append_own _ rfl _ _ 48 rfl w.heap.size 5 i0 (.int .u8 0) 1 1 Try.underlying48 hi hz0 hz1 hz2 rfl (by decide) _ _ _ rfl HO.out ad x.2.length _ (nums .u8 x.2) rfl (by simp [nums]) hcx (nums_one _) (by unfold maxLen; omega) (by omega) hzr ?_; intro v7 w7 hO7 hG7 _)
            have hB7 := hB.grown hG7 hzr (fun b e => (HO.out.lt b e).1)
            clear hG7
            go_wp2
            go_roundw
            case rel =>
              refine ⟨k + 1, by omega, by go_num, ?_, hB7⟩
              rw [HT.out, List.length_append]
              simpa [nums] using hO7
            case measure => simp [intOf]; omega
        · obtain rfl : k = vs.length := by omega
          have hOE := HO.out
          rw [List.take_of_length_le (Nat.le_refl _)] at hOE
          go_wp2_with fail
          go_ret
          exact ⟨_, rfl, hOE, hB⟩

end Go.Proofs.Ytcjjeookfnmjcaa
