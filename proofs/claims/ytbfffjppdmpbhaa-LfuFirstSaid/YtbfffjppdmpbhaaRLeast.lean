import Derived.Test.YtbfffjppdmpbhaaLeast
namespace Go.Proofs.Ytbfffjppdmpbhaa
open Go.RowKit
set_option linter.unusedVariables false

theorem rcount_ev (u : Int × Int) (now : Int) (hn : now ≤ 9223372036854775807) (w : World) :
    Calls Try.prog 16 #[.agg #[.int .i64 u.1, .int .i64 u.2], .int .i64 now] w fun e w' => e = .returned (.tuple #[.int .i64 (ev now u).1, .int .i64 (ev now u).2]) ∧ Below w.heap.size w w' := by
  by_cases h : fineB u.1 u.2 now = true
  · rw [show ev now u = (left u.1 u.2 now, 0) by simp [ev, h]]; exact rcount_yes _ _ _ _ hn h
  · rw [show ev now u = (0, 130) by simp [ev, h]]; exact rcount_no _ _ _ _ (by simpa using h)
theorem rcount_at (a b now m e : Int) (hn : now ≤ 9223372036854775807) (h : ev now (a, b) = (m, e)) (w : World) :
    Calls Try.prog 16 #[.agg #[.int .i64 a, .int .i64 b], .int .i64 now] w fun r w' => r = .returned (.tuple #[.int .i64 m, .int .i64 e]) ∧ Below w.heap.size w w' := by
  have := rcount_ev (a, b) now hn w
  rwa [h] at this

def rstep (s : Int × Int × Int) (x : Int × Int) : Int × Int × Int := (if s.1 < 0 ∨ x.1 < s.2.1 then s.2.2 else s.1, if s.1 < 0 ∨ x.1 < s.2.1 then x.1 else s.2.1, s.2.2 + 1)
def rst (pre : List (Int × Int)) : Int × Int × Int := pre.foldl rstep (-1, 0, 0)
theorem rst_snoc (pre : List (Int × Int)) (x : Int × Int) : rst (pre ++ [x]) = rstep (rst pre) x := by simp [rst]
theorem rfoldl_third (pre : List (Int × Int)) : ∀ s : Int × Int × Int, (pre.foldl rstep s).2.2 = s.2.2 + pre.length := by
  induction pre with
  | nil => intro s; simp
  | cons a l ih => intro s; rw [List.foldl_cons, ih]; simp [rstep]; omega
theorem rst_third (pre : List (Int × Int)) : (rst pre).2.2 = pre.length := by unfold rst; rw [rfoldl_third]; simp

theorem fold_same (l : List (Int × Int)) : ∀ s : Int × Int × Int, 0 ≤ s.1 → 0 ≤ s.2.2 → l.foldl rstep s = l.foldl mstep s ∧ 0 ≤ (l.foldl mstep s).1 := by
  induction l with
  | nil => intro s h _; exact ⟨rfl, h⟩
  | cons x l ih =>
    intro s h h2
    have e : rstep s x = mstep s x := by
      simp only [rstep, mstep]
      have : ¬ s.1 < 0 := by omega
      simp [this]
    rw [List.foldl_cons, List.foldl_cons, e]
    exact ih _ (by simp only [mstep]; split <;> omega) (by simp only [mstep]; omega)

theorem rst_mst (l : List (Int × Int)) (h0 : l ≠ []) (h : ∀ x, x ∈ l → x.1 < 256) : rst l = mst l ∧ 0 ≤ (mst l).1 := by
  cases l with
  | nil => exact absurd rfl h0
  | cons x l =>
    have hx := h x (by simp)
    unfold rst mst
    rw [List.foldl_cons, List.foldl_cons]
    have e1 : rstep (-1, 0, 0) x = (0, x.1, 1) := by simp [rstep]
    have e2 : mstep (0, 256, 0) x = (0, x.1, 1) := by simp [mstep, hx]
    rw [e1, e2]
    exact fold_same l _ (by simp) (by simp)
theorem rst_neg (l : List (Int × Int)) (h : ∀ x, x ∈ l → x.1 < 256) : (rst l).1 < 0 ↔ l = [] := by
  constructor
  · intro hl
    cases l with
    | nil => rfl
    | cons x l => have := rst_mst (x :: l) (by simp) h; rw [this.1] at hl; omega
  · rintro rfl; simp [rst]
theorem ev_small (now : Int) (us : List (Int × Int)) : ∀ x, x ∈ us.map (ev now) → x.1 < 256 := by
  intro x hx
  obtain ⟨u, _, rfl⟩ := List.mem_map.1 hx
  unfold ev
  split
  · rename_i h
    obtain ⟨⟨⟨h1, h2⟩, h3⟩, h4⟩ : ((0 ≤ u.1 ∧ u.1 ≤ 255) ∧ 0 ≤ u.2) ∧ u.2 ≤ now := by simpa [fineB, rightB, and_assoc] using h
    simp only [left]; omega
  · simp
theorem take_next {α : Type} (l : List α) (k : Nat) (h : k < l.length) (x : α) (hx : l[k]'h = x) : l.take (k + 1) = l.take k ++ [x] := by
  rw [List.take_succ_eq_append_getElem h, hx]

set_option maxHeartbeats 400000 in
theorem rleast_none (A : Option Addr) (cap : Nat) (now : Int) (w : World) :
    Calls Try.prog 20 #[.slice A 0 cap, .int .i64 now] w fun e w' => e = .returned (.tuple #[.int .i64 0, .int .i64 130]) ∧ Below w.heap.size w w' := by
  go_enter Try.func20, Try.ntmps20
  go_wp2
  go_loopw [6, 7, 8] (fun a l i wr => i = .int .i64 0 ∧ a = .int .i64 (-1) ∧ l = .int .i64 0 ∧ w = wr) (fun _ _ _ _ => 0)
  case atStart => exact ⟨rfl, rfl, rfl, rfl⟩
  case round =>
    obtain ⟨rfl, rfl, rfl, rfl⟩ := hrel
    go_wp2
    go_ret2
    exact ⟨rfl, Below.refl _ _⟩

set_option maxHeartbeats 2000000 in
theorem rleast_some (now : Int) (hnow : now ≤ 9223372036854775807) (b off cap : Nat) (us : List (Int × Int)) (len : Nat) (hlen : us.length = len) (h50 : len ≤ 50) (w : World) (hb : b < w.heap.size) (hc : UsesAt w b off us) :
    Calls Try.prog 20 #[.slice (some ⟨b, off, none⟩) len cap, .int .i64 now] w fun e w' => e = .returned (.tuple #[.int .i64 (least now us).1, .int .i64 (least now us).2]) ∧ Below w.heap.size w w' := by
  have HL := Lib.hid hlen
  clear hlen
  go_enter Try.func20, Try.ntmps20
  go_wp2
  go_loopw [6, 7, 8] (fun a l i wr => ∃ k : Nat, k ≤ len ∧ i = .int .i64 k ∧ a = .int .i64 (rst ((us.map (ev now)).take k)).1 ∧ l = .int .i64 (rst ((us.map (ev now)).take k)).2.1 ∧
      (∀ x, x ∈ (us.map (ev now)).take k → x.2 = 0) ∧ Below w.heap.size w wr) (fun _ _ i _ => len - (intOf i).toNat)
  case atStart => exact ⟨0, by omega, rfl, rfl, rfl, by simp, Below.refl _ _⟩
  case round =>
    obtain ⟨k, hk, rfl, rfl, rfl, hfine, hB⟩ := hrel
    have HF := Lib.hid hfine
    clear hfine
    by_cases hlt : k < len
    · obtain ⟨hcu, hcv⟩ := hc k (by rw [HL.out]; exact hlt)
      replace hcu := (hB.cell (p := ⟨b, off + k * 2, none⟩) hb).trans hcu
      replace hcv := (hB.cell (p := ⟨b, off + k * 2 + 1, none⟩) hb).trans hcv
      have hz := hB.size
      have hkl : k < us.length := by rw [HL.out]; exact hlt
      obtain ⟨u, hu⟩ : ∃ u, us[k]?.getD (0, 0) = u := ⟨_, rfl⟩
      rw [hu] at hcu hcv
      have HT := Lib.hid (take_next (us.map (ev now)) k (by simpa using hkl) (ev now u) (by rw [List.getElem_map, ← hu]; simp [hkl]))
      have HM := Lib.hid (show ev now u ∈ us.map (ev now) from List.mem_map_of_mem (by rw [← hu]; simp [hkl]))
      have HN := Lib.hid (rst_third ((us.map (ev now)).take k))
      have HK := Lib.hid (show ((us.map (ev now)).take k).length = k by simp; omega)
      clear hu hkl
      obtain ⟨a, c⟩ := u
      obtain ⟨⟨m, x⟩, hev⟩ : ∃ y, ev now (a, c) = y := ⟨_, rfl⟩
      rw [hev] at HT HM
      have HE := Lib.hid hev
      clear hev
      dsimp only at hcu hcv
      generalize (us.map (ev now)).take k = pre at *
      by_cases hx : x = 0
      · subst hx
        have HQ : Hid (∀ y, y ∈ (us.map (ev now)).take (k + 1) → y.2 = 0) := by
          rw [HT.out]
          intro y hy
          rcases List.mem_append.1 hy with h | h
          · exact HF.out y h
          · rw [List.mem_singleton.1 h]
        by_cases h1 : (rst pre).1 < 0
        · have E1 := Lib.hid (show (rst (pre ++ [(m, (0 : Int))])).1 = k by rw [rst_snoc]; simp [rstep, h1, HN.out, HK.out])
          have E2 := Lib.hid (show (rst (pre ++ [(m, (0 : Int))])).2.1 = m by rw [rst_snoc]; simp [rstep, h1])
          go_wp2_with fail
          refine (rcount_at _ _ _ _ _ hnow HE.out _).mono ?_
          rintro e w3 ⟨rfl, hb3⟩
          go_wp2
          go_roundw
          case rel => exact ⟨k + 1, by omega, by go_num, by rw [HT.out, E1.out], by rw [HT.out, E2.out], HQ.out, hB.trans (hb3.mono (by omega))⟩
          case measure => simp [intOf]; omega
        · by_cases h2 : m < (rst pre).2.1
          · have E1 := Lib.hid (show (rst (pre ++ [(m, (0 : Int))])).1 = k by rw [rst_snoc]; simp [rstep, h2, HN.out, HK.out])
            have E2 := Lib.hid (show (rst (pre ++ [(m, (0 : Int))])).2.1 = m by rw [rst_snoc]; simp [rstep, h2])
            go_wp2_with fail
            refine (rcount_at _ _ _ _ _ hnow HE.out _).mono ?_
            rintro e w3 ⟨rfl, hb3⟩
            go_wp2
            go_roundw
            case rel => exact ⟨k + 1, by omega, by go_num, by rw [HT.out, E1.out], by rw [HT.out, E2.out], HQ.out, hB.trans (hb3.mono (by omega))⟩
            case measure => simp [intOf]; omega
          · have E1 := Lib.hid (show (rst (pre ++ [(m, (0 : Int))])).1 = (rst pre).1 by rw [rst_snoc]; simp [rstep, h1, h2])
            have E2 := Lib.hid (show (rst (pre ++ [(m, (0 : Int))])).2.1 = (rst pre).2.1 by rw [rst_snoc]; simp [rstep, h1, h2])
            go_wp2_with fail
            refine (rcount_at _ _ _ _ _ hnow HE.out _).mono ?_
            rintro e w3 ⟨rfl, hb3⟩
            go_wp2
            go_roundw
            case rel => exact ⟨k + 1, by omega, by go_num, by rw [HT.out, E1.out], by rw [HT.out, E2.out], HQ.out, hB.trans (hb3.mono (by omega))⟩
            case measure => simp [intOf]; omega
      · have hx' : (x != 0) = true := by simpa using hx
        have HX := Lib.hid hx
        clear hx
        obtain ⟨hx2, hno⟩ := okAll_not HM.out HX.out
        have HR := Lib.hid (show least now us = (0, 130) by simp [least, hno])
        have HX2 := Lib.hid hx2
        clear hno hx2
        go_wp2_with fail
        refine (rcount_at _ _ _ _ _ hnow HE.out _).mono ?_
        rintro e w3 ⟨rfl, hb3⟩
        go_wp2
        go_ret2
        exact ⟨by rw [HR.out]; exact ret_two rfl HX2.out, hB.trans (hb3.mono (by omega))⟩
    · obtain rfl : k = len := by omega
      have hall : (us.map (ev now)).take k = us.map (ev now) := List.take_of_length_le (by rw [List.length_map, HL.out]; exact Nat.le_refl _)
      rw [hall] at HF
      have hok := Lib.hid (okAll_of HF.out)
      have HA := Lib.hid hall
      clear hall
      by_cases hneg : (rst ((us.map (ev now)).take k)).1 < 0
      · have HR : Hid (least now us = (0, 130)) := by
          have h1 := (rst_neg _ (ev_small now us)).1 (by rw [HA.out] at hneg; exact hneg)
          have h2 : us = [] := by simpa using h1
          show least now us = (0, 130)
          simp [least, h2]
        go_wp2
        go_ret2
        exact ⟨by rw [HR.out]; rfl, hB⟩
      · have HR : Hid (least now us = ((rst ((us.map (ev now)).take k)).1, 0)) := by
          have h0 : us.map (ev now) ≠ [] := fun e => hneg (by rw [HA.out, e]; simp [rst])
          have h1 := rst_mst _ h0 (ev_small now us)
          have h2 : us ≠ [] := fun e => h0 (by simp [e])
          show least now us = _
          rw [HA.out, h1.1]
          simp [least, h2, hok.out]
        go_wp2
        go_ret2
        exact ⟨by rw [HR.out]; rfl, hB⟩

theorem rleast_is (now : Int) (hnow : now ≤ 9223372036854775807) (A : Option Addr) (len cap : Nat) (us : List (Int × Int)) (hlen : us.length = len) (h50 : len ≤ 50) (w : World) (hsl : IsUses w w.heap.size (.slice A len cap) us) :
    Calls Try.prog 20 #[.slice A len cap, .int .i64 now] w fun e w' => e = .returned (.tuple #[.int .i64 (least now us).1, .int .i64 (least now us).2]) ∧ Below w.heap.size w w' := by
  rcases hsl with ⟨rfl, A', cap', hs⟩ | ⟨b, off, cap', hs, hb, hc⟩
  · cases hs
    rw [show least now [] = (0, 130) by simp [least]]
    exact rleast_none _ _ now w
  · cases hs
    exact rleast_some now hnow b off cap us us.length rfl h50 w hb hc

end Go.Proofs.Ytbfffjppdmpbhaa
