import Derived.RangeFuncNested
import Derived.RangeFuncBound
import Derived.RangeFuncCalls
import Derived.RangeFuncLeaves
import Derived.Shelf.Abstract
import Derived.Shelf.RegionOpen
import Derived.WalkKit
import Derived.OwnWalkIn
import Derived.TacticsInMore
import Derived.LoopNIn
import Derived.LoopIn
import Derived.Deep.QuietTactic
import Derived.BigQuiet
import Derived.Test.YtbfffjppdmpbhaaRef
namespace Go.Proofs.Ytbfffjppdmpbhaa
open Go.RowKit Go.Shelf
set_option linter.unusedVariables false
attribute [local go_sem] Oper.semAt_some

def ev (now : Int) (u : Int × Int) : Int × Int := if fineB u.1 u.2 now = true then (left u.1 u.2 now, 0) else (0, 130)
abbrev encE (x : Int × Int) : Array Value := #[.int .i64 x.1, .int .i64 x.2]

theorem count_ev (u : Int × Int) (now : Int) (hn : now ≤ 9223372036854775807) (w : World) :
    Calls Try.prog 11 #[.agg #[.int .i64 u.1, .int .i64 u.2], .int .i64 now] w fun e w' => e = .returned (.tuple #[.int .i64 (ev now u).1, .int .i64 (ev now u).2]) ∧ Below w.heap.size w w' := by
  by_cases h : fineB u.1 u.2 now = true
  · rw [show ev now u = (left u.1 u.2 now, 0) by simp [ev, h]]; exact count_yes _ _ _ _ hn h
  · rw [show ev now u = (0, 130) by simp [ev, h]]; exact count_no _ _ _ _ (by simpa using h)

/-- The cells of uses from an address on. -/
def UsesAt (w : World) (b off : Nat) (us : List (Int × Int)) : Prop :=
  ∀ j, j < us.length → w.cell? ⟨b, off + j * 2, none⟩ = some (.int .i64 (us[j]?.getD (0, 0)).1) ∧ w.cell? ⟨b, off + j * 2 + 1, none⟩ = some (.int .i64 (us[j]?.getD (0, 0)).2)

/-- What a round keeps: whatever lay below n₀, and one box more. -/
structure KeptN (n₀ B : Nat) (W W' : World) : Prop where
  below : Below n₀ W W'
  box : W'.heap[B]? = W.heap[B]?
theorem KeptN.refl (n₀ B : Nat) (W : World) : KeptN n₀ B W W := ⟨Below.refl _ _, rfl⟩
theorem KeptN.trans {n₀ B : Nat} {W1 W2 W3 : World} (h : KeptN n₀ B W1 W2) (k : KeptN n₀ B W2 W3) : KeptN n₀ B W1 W3 := ⟨h.below.trans k.below, k.box.trans h.box⟩
theorem KeptN.later {n₀ B : Nat} {W W' : World} (hn : n₀ ≤ W.heap.size) (hB : B < W.heap.size) (h : Below W.heap.size W W') : KeptN n₀ B W W' := ⟨h.mono hn, h.block B hB⟩
theorem KeptN.putObj {n₀ B : Nat} {w : World} (hn : n₀ ≤ w.heap.size) (hB : B < w.heap.size) (W : World) (l : Nat) (o o' : Obj) (hl : w.heap.size ≤ l) (h : W.heap[l]? = some o) (h1 : o.isCells = false) (h2 : o.isWalk = false) : KeptN n₀ B W (W.putObj l o') :=
  ⟨belowK_b hn W l o o' hl h h1 h2, World.putObj_heap_other (by omega)⟩

set_option maxRecDepth 100000 in
set_option maxHeartbeats 1000000 in
theorem counts_round (n : Nat) (hn1 : 2 ≤ n) (l Bl Bn n₀ b off len cap : Nat) (now : Int) (hnow : now ≤ 9223372036854775807) (us : List (Int × Int)) (hlen : us.length = len) (hreach : len * 16 ≤ 140737488351232) (hb : b < n₀) (J Jx : List (Int × Int) → World → Prop)
    (hJ : ∀ pre W W', n₀ ≤ W.heap.size → J pre W → Below W.heap.size W W' → J pre W')
    (hY : ∀ pre x W, J pre W → pre.length < len → YieldAt Fence.wide (n - 1) Try.prog l #[.int .i64 x.1, .int .i64 x.2] W fun e W' =>
      (e = .returned (.bool true) ∧ J (pre ++ [x]) W' ∧ KeptN n₀ Bn W W') ∨ (e = .returned (.bool false) ∧ Jx (pre ++ [x]) W'))
    (W : World) (hW : n₀ ≤ W.heap.size) (hBl : W.cell? ⟨Bl, 0, none⟩ = some (.slice (some ⟨b, off, none⟩) len cap)) (hBc : W.cell? ⟨Bn, 0, none⟩ = some (.int .i64 now)) (hc : UsesAt W b off us) (h0 : J [] W) :
    CallsIn Fence.wide n Try.prog 23 #[.func (.yield l) #[] #[], .pointer (some ⟨Bl, 0, none⟩), .pointer (some ⟨Bn, 0, none⟩)] W fun e W' => (∃ v, e = .returned v) ∧
      ((∃ ys, ys = us.map (ev now) ∧ J ys W') ∨ (∃ pre, (∃ k, k ≤ len ∧ pre = (us.map (ev now)).take k) ∧ Jx pre W')) := by
  have HL := Lib.hid hlen
  refine callsIn_of_wp Try.func23 rfl trivial ?_ rfl
  simp only [Try.ntmps23, List.size_toArray, List.length_cons, List.length_nil, Nat.reduceAdd, Nat.reduceSub, Array.replicate_succ, Array.replicate_zero, List.push_toArray, List.append_toArray, List.nil_append, List.cons_append]
  gi_wp2
  gi_loopw [8] (fun i wr => ∃ k : Nat, k ≤ len ∧ i = .int .i64 k ∧ J ((us.map (ev now)).take k) wr ∧ KeptN n₀ Bn W wr) (fun i _ => len - (intOf i).toNat)
  case atStart => exact ⟨0, Nat.zero_le _, rfl, h0, KeptN.refl _ _ _⟩
  case round =>
    obtain ⟨k, hk, rfl, hJs, hnx⟩ := hrel
    by_cases hlt : k < len
    · obtain ⟨hcu, hcv⟩ := hc k (by rw [HL.out]; exact hlt)
      have hcu := (hnx.below.cell (p := ⟨b, off + k * 2, none⟩) hb).trans hcu
      have hcv := (hnx.below.cell (p := ⟨b, off + k * 2 + 1, none⟩) hb).trans hcv
      have hcb := (World.cell?_of_block (a := ⟨Bn, 0, none⟩) hnx.box).trans hBc
      have hzn := hnx.below.size
      obtain ⟨u, hu⟩ : ∃ u, us[k]?.getD (0, 0) = u := ⟨_, rfl⟩
      rw [hu] at hcu hcv
      have HU := Lib.hid hu
      clear hu
      have hlb := World.block_lt_of_cell? wr _ hcu
      have hln := World.block_lt_of_cell? wr _ hcb
      have HT : Hid ((us.map (ev now)).take (k + 1) = (us.map (ev now)).take k ++ [ev now u]) := by
        have hkl : k < (us.map (ev now)).length := by rw [List.length_map, HL.out]; exact hlt
        have h1 := List.take_succ_eq_append_getElem hkl
        have hk2 : k < us.length := by rw [HL.out]; exact hlt
        have h2 : (us.map (ev now))[k]'hkl = ev now u := by
          rw [List.getElem_map, ← HU.out]; simp [hk2]
        rw [h2] at h1; exact h1
      have hlen2 : ((us.map (ev now)).take k).length < len := Nat.lt_of_le_of_lt (List.length_take_le _ _) hlt
      gi_wp2_with (fail)
      refine ⟨trivial, (fun _ => (by omega)), (callsIn_wide.2 (count_ev u now hnow _)).mono ?_⟩
      rintro e w3 ⟨rfl, hb3⟩
      have hb3' := one_below hb3
      obtain ⟨fn, tmps, assign, body, hy, hR⟩ := hY _ (ev now u) w3 (hJ _ _ _ (by omega) hJs hb3') hlen2
      generalize ev now u = x at *
      gi_wp2
      refine ⟨(fun _ => (by omega)), hR.mono ?_⟩
      rintro e w4 (⟨rfl, hJ4, hk4⟩ | ⟨rfl, hJx4⟩)
      · gi_wp2
        go_roundw
        case rel => exact ⟨k + 1, by omega, by go_num, by rw [HT.out]; exact hJ4, (hnx.trans (KeptN.later (by omega) hln hb3')).trans hk4⟩
        case measure => simp [intOf]; omega
      · gi_wp2
        refine bodyPost_ret (results_none rfl _ _ _) rfl ?_
        exact ⟨⟨_, rfl⟩, .inr ⟨_, ⟨k + 1, by omega, HT.out.symm⟩, hJx4⟩⟩
    · obtain rfl : k = len := by omega
      gi_wp2
      go_end0
      exact ⟨⟨_, rfl⟩, .inl ⟨_, rfl, by rw [List.take_of_length_le (by rw [List.length_map, HL.out]; exact Nat.le_refl _)] at hJs; exact hJs⟩⟩

set_option maxRecDepth 100000 in
set_option maxHeartbeats 1000000 in
theorem counts_none (n : Nat) (hn1 : 2 ≤ n) (l Bl Bn cap : Nat) (A : Option Addr) (J : List (Int × Int) → World → Prop)
    (W : World) (hBl : W.cell? ⟨Bl, 0, none⟩ = some (.slice A 0 cap)) (h0 : J [] W) :
    CallsIn Fence.wide n Try.prog 23 #[.func (.yield l) #[] #[], .pointer (some ⟨Bl, 0, none⟩), .pointer (some ⟨Bn, 0, none⟩)] W fun e W' => (∃ v, e = .returned v) ∧ J [] W' := by
  refine callsIn_of_wp Try.func23 rfl trivial ?_ rfl
  simp only [Try.ntmps23, List.size_toArray, List.length_cons, List.length_nil, Nat.reduceAdd, Nat.reduceSub, Array.replicate_succ, Array.replicate_zero, List.push_toArray, List.append_toArray, List.nil_append, List.cons_append]
  gi_wp2
  gi_loopw [8] (fun i wr => i = .int .i64 0 ∧ J [] wr) (fun _ _ => 0)
  case atStart => exact ⟨rfl, h0⟩
  case round =>
    obtain ⟨rfl, hJs⟩ := hrel
    gi_wp2
    go_end0
    exact ⟨⟨_, rfl⟩, hJs⟩

/-- A slice value that holds uses, in blocks below n₀. -/
def IsUses (w : World) (n₀ : Nat) (sl : Value) (us : List (Int × Int)) : Prop :=
  (us = [] ∧ ∃ A cap, sl = .slice A 0 cap) ∨ ∃ b off cap, sl = .slice (some ⟨b, off, none⟩) us.length cap ∧ b < n₀ ∧ UsesAt w b off us

theorem grown_of_below {w w' : World} (h : Below w.heap.size w w') : w.grownBy w' none := ⟨h.os, h.tape, h.output, h.size, fun k hk _ => h.block k hk⟩

theorem counts_stops (n : Nat) (hn1 : 2 ≤ n) (Bl Bn n₀ : Nat) (now : Int) (hnow : now ≤ 9223372036854775807) (sl : Value) (us : List (Int × Int)) (hreach : us.length * 16 ≤ 140737488351232) (w : World) (hw : n₀ ≤ w.heap.size)
    (hsl : IsUses w n₀ sl us) (hBl : w.cell? ⟨Bl, 0, none⟩ = some sl) (hBc : w.cell? ⟨Bn, 0, none⟩ = some (.int .i64 now)) :
    SeqStopsK Fence.wide n Try.prog 23 #[.pointer (some ⟨Bl, 0, none⟩), .pointer (some ⟨Bn, 0, none⟩)] encE (KeptN n₀ Bn) (fun xs => xs = us.map (ev now)) (fun pre => ∃ k, k ≤ us.length ∧ pre = (us.map (ev now)).take k) us.length w := by
  intro l J Jx W hW hJ hJx hY h0
  have hlB := World.block_lt_of_cell? w _ hBl
  have hBl' := (hW.cell (p := ⟨Bl, 0, none⟩) hlB).trans hBl
  have hz := hW.size
  rcases hsl with ⟨rfl, A, cap, rfl⟩ | ⟨b, off, cap, rfl, hb, hc⟩
  · exact (counts_none n hn1 l Bl Bn cap A J W hBl' h0).mono fun e W' ⟨he, hj⟩ => ⟨he, .inl ⟨[], rfl, hj⟩⟩
  · have hBc' := (hW.cell (p := ⟨Bn, 0, none⟩) (World.block_lt_of_cell? w _ hBc)).trans hBc
    refine counts_round n hn1 l Bl Bn n₀ b off us.length cap now hnow us rfl hreach hb J Jx ?_ hY W (by omega) hBl' hBc' ?_ h0
    · exact fun pre W1 W2 _ hj hb2 => hJ pre W1 W2 none hj (grown_of_below hb2) (fun r e => by cases e)
    · intro j hj
      exact ⟨(hW.cell (p := ⟨b, off + j * 2, none⟩) (show b < w.heap.size by omega)).trans (hc j hj).1, (hW.cell (p := ⟨b, off + j * 2 + 1, none⟩) (show b < w.heap.size by omega)).trans (hc j hj).2⟩

def mstep (s : Int × Int × Int) (x : Int × Int) : Int × Int × Int := (if x.1 < s.2.1 then s.2.2 else s.1, if x.1 < s.2.1 then x.1 else s.2.1, s.2.2 + 1)
def mst (pre : List (Int × Int)) : Int × Int × Int := pre.foldl mstep (0, 256, 0)
theorem mst_snoc (pre : List (Int × Int)) (x : Int × Int) : mst (pre ++ [x]) = mstep (mst pre) x := by simp [mst]
theorem foldl_third (pre : List (Int × Int)) : ∀ s : Int × Int × Int, (pre.foldl mstep s).2.2 = s.2.2 + pre.length := by
  induction pre with
  | nil => intro s; simp
  | cons a l ih => intro s; rw [List.foldl_cons, ih]; simp [mstep]; omega
theorem mst_third (pre : List (Int × Int)) : (mst pre).2.2 = pre.length := by unfold mst; rw [foldl_third]; simp
def okAll (now : Int) (us : List (Int × Int)) : Bool := us.all fun u => fineB u.1 u.2 now
def least (now : Int) (us : List (Int × Int)) : Int × Int := if us = [] ∨ okAll now us = false then (0, 130) else ((mst (us.map (ev now))).1, 0)

set_option maxHeartbeats 400000 in
theorem counts_any (A : Option Addr) (len cap : Nat) (now : Int) (w : World) :
    Calls Try.prog 22 #[.slice A len cap, .int .i64 now] w fun e w' => e = .returned (.func (.func 23) #[] #[.pointer (some ⟨w.heap.size, 0, none⟩), .pointer (some ⟨w.heap.size + 1, 0, none⟩)]) ∧ (w.alloc (.cells #[.slice A len cap] 37)).alloc (.cells #[.int .i64 now] 3) = w' := by
  have hmf : ∀ (fn : Fn) (first cap : Array Value) (w : World), (Instr.makeFunc fn first cap).run Try.prog w = .ok (.func fn first cap) w := fun _ _ _ _ => rfl
  go_enter Try.func22, Try.ntmps22
  go_wp2
  go_ret
  exact ⟨rfl, rfl⟩

set_option maxRecDepth 100000 in
set_option maxHeartbeats 1000000 in
theorem least_zero (A : Option Addr) (cap : Nat) (now : Int) (hnow : now ≤ 9223372036854775807) (w : World) :
    Calls Try.prog 19 #[.slice A 0 cap, .int .i64 now] w fun e w' => e = .returned (.tuple #[.int .i64 0, .int .i64 130]) ∧ Below w.heap.size w w' := by
  refine (callsIn_wide (n := 9)).1 ?_
  refine callsIn_of_wp_marks Try.func19 rfl trivial ?_ rfl
  simp only [Try.ntmps19, List.size_toArray, List.length_cons, List.length_nil, Nat.reduceAdd, Nat.reduceSub, Array.replicate_succ, Array.replicate_zero, List.push_toArray, List.append_toArray, List.nil_append, List.cons_append]
  refine wpIn_wide.2 ?_
  go_wp2
  go_step3
  go_wp2
  go_step3
  go_wp2_with fail
  refine (counts_any _ _ _ _ _).mono ?_
  rintro e w6 ⟨rfl, rfl⟩
  go_wp2_with fail
  obtain ⟨W6, hW6⟩ : ∃ W6, (((((w.alloc (.cells #[.int .i64 0] 3)).alloc (.cells #[.int .i64 256] 3)).alloc (.cells #[.int .i64 0] 3)).alloc (.cells #[.int .i64 130] 26)).alloc (.cells #[.slice A 0 cap] 37)).alloc (.cells #[.int .i64 now] 3) = W6 := ⟨_, rfl⟩
  have hz6 : W6.heap.size = w.heap.size + 6 := by rw [← hW6]; simp
  have hB6 : Below w.heap.size w W6 := by
    rw [← hW6]
    exact ((((((Below.refl _ w).alloc (Nat.le_refl _) _).alloc (by simp) _).alloc (by simp; omega) _).alloc (by simp; omega) _).alloc (by simp; omega) _).alloc (by simp; omega) _
  have b3 : Boxed W6 (w.heap.size + 3) 26 (.int .i64 130) := by
    rw [← hW6]
    have := Boxed.new (((w.alloc (.cells #[.int .i64 0] 3)).alloc (.cells #[.int .i64 256] 3)).alloc (.cells #[.int .i64 0] 3)) 26 (.int .i64 130)
    simp only [World.size_alloc] at this
    exact (this.alloc _).alloc _
  have b4 : Boxed W6 (w.heap.size + 4) 37 (.slice A 0 cap) := by
    rw [← hW6]
    have := Boxed.new ((((w.alloc (.cells #[.int .i64 0] 3)).alloc (.cells #[.int .i64 256] 3)).alloc (.cells #[.int .i64 0] 3)).alloc (.cells #[.int .i64 130] 26)) 37 (.slice A 0 cap)
    simp only [World.size_alloc] at this
    exact this.alloc _
  have b5 : Boxed W6 (w.heap.size + 5) 3 (.int .i64 now) := by
    rw [← hW6]
    have := Boxed.new (((((w.alloc (.cells #[.int .i64 0] 3)).alloc (.cells #[.int .i64 256] 3)).alloc (.cells #[.int .i64 0] 3)).alloc (.cells #[.int .i64 130] 26)).alloc (.cells #[.slice A 0 cap] 37)) 3 (.int .i64 now)
    simp only [World.size_alloc] at this
    exact this
  rw [hW6]
  clear hW6
  refine (wpIn_wide (n := 9)).1 (wpIn_rangeFunc_ownG (F := Fence.wide) (α := Int × Int) rfl (by omega) (gf := 23) rfl trivial (enters_of Try.func23 (by kernel_rfl) rfl)
    (counts_stops 8 (by omega) (w.heap.size + 4) (w.heap.size + 5) w.heap.size now hnow (.slice A 0 cap) [] (by simp) W6 (by omega) (.inl ⟨rfl, A, cap, rfl⟩) b4.cell b5.cell) KeptN.trans (KeptN.putObj (by omega) (by omega)) (Below.refl _ _) (fun _ => rfl)
    (fun pre W => Boxed W (w.heap.size + 3) 26 (.int .i64 130) ∧ Below w.heap.size w W)
    (fun _ _ _ => False)
    (OwnFrom.and (Own.from (boxed_own _ _ _) _) (ownFrom_below (Nat.le_refl _) (by omega)))
    (fun _ _ _ _ _ hs _ _ => hs)
    ⟨b3, hB6⟩
    ?a1 ?assign ?body ?done ?stop)
  case assign =>
    intro l x W K hK
    have hK' := Lib.hid hK
    clear hK
    gi_wp2
    exact hK'.out
  case body =>
    intro l pre x W _ hl
    exact absurd hl (by simp)
  case done =>
    rintro D ys W hD - ⟨hw3, hB⟩ hK
    have hc3 := hw3.cell
    go_wp2
    go_quiet (fail)
    go_wp2
    rw [Exit.noGoto_ret]
    have hK2 : (W.drewN nq).heap[D]? = some (.deferred (some [])) := hK
    have hB2 : Below w.heap.size w (W.drewN nq) := below_drewN hB nq
    refine ⟨by simp, .inl ⟨_, _, rfl, run_takeDeferred hK2, ?_⟩⟩
    exact ⟨_, results_tmp2 rfl _ _ _, rfl, hB2.trans (belowK_b (w := w) (Nat.le_refl _) _ D _ _ (by omega) hK2 rfl rfl)⟩
  case stop =>
    rintro D c pre W _ _ h _
    exact h.elim

end Go.Proofs.Ytbfffjppdmpbhaa
