import Derived.RangeFuncNested
import Derived.RangeFuncBound
import Derived.RangeFuncCalls
import Derived.RangeFuncLeaves
import Derived.Shelf.Abstract
import Derived.Shelf.RegionOpen
import Derived.WalkKit
import Derived.OwnWalkIn
import Derived.TacticsInMore
import Derived.LoopNIn
import Derived.LoopIn
import Derived.Deep.QuietTactic
import Derived.BigQuiet
import Derived.Test.YtcjjeookfnmjcaaRead
namespace Go.Proofs.Ytcjjeookfnmjcaa
open Go.RowKit Go.Shelf Go.Proofs.YtcjjeookfnmjcaaW.PrintWords
set_option linter.unusedVariables false
attribute [local go_sem] Oper.semAt_some


def spotC (s : Spot) : List Value := [.string s.1.1, .int .i64 s.1.2, .int .i64 s.2.1, .int .i64 s.2.2]
abbrev encS (s : Spot) : Array Value := #[.agg #[.string s.1.1, .int .i64 s.1.2, .int .i64 s.2.1, .int .i64 s.2.2]]

/-- What a round keeps: whatever lay below n₀, and one box more. -/
structure KeptN (n₀ B : Nat) (W W' : World) : Prop where
  below : Below n₀ W W'
  box : W'.heap[B]? = W.heap[B]?
theorem KeptN.refl (n₀ B : Nat) (W : World) : KeptN n₀ B W W := ⟨Below.refl _ _, rfl⟩
theorem KeptN.trans {n₀ B : Nat} {W1 W2 W3 : World} (h : KeptN n₀ B W1 W2) (k : KeptN n₀ B W2 W3) : KeptN n₀ B W1 W3 := ⟨h.below.trans k.below, k.box.trans h.box⟩
theorem KeptN.later {n₀ B : Nat} {W W' : World} (hn : n₀ ≤ W.heap.size) (hB : B < W.heap.size) (h : Below W.heap.size W W') : KeptN n₀ B W W' := ⟨h.mono hn, h.block B hB⟩
theorem KeptN.putObj {n₀ B : Nat} {w : World} (hn : n₀ ≤ w.heap.size) (hB : B < w.heap.size) (W : World) (l : Nat) (o o' : Obj) (hl : w.heap.size ≤ l) (h : W.heap[l]? = some o) (h1 : o.isCells = false) (h2 : o.isWalk = false) : KeptN n₀ B W (W.putObj l o') :=
  ⟨belowK_b hn W l o o' hl h h1 h2, World.putObj_heap_other (by omega)⟩
theorem grown_of_below {w w' : World} (h : Below w.heap.size w w') : w.grownBy w' none := ⟨h.os, h.tape, h.output, h.size, fun k hk _ => h.block k hk⟩

theorem readS_none {p : ByteArray} {o : Nat} (h : hd ((bytesOf p).drop o) = none) : readS p o = ((⟨#[]⟩, 0), 0) := by unfold readS; rw [h]
theorem readS_some {p : ByteArray} {o : Nat} {e : Ent} (h : hd ((bytesOf p).drop o) = some e) : readS p o = (e, (e.1.size : Int) + 10) := by unfold readS; rw [h]
theorem hd_len {p : ByteArray} {o : Nat} {e : Ent} (h : hd ((bytesOf p).drop o) = some e) : o + (e.1.size + 10) ≤ p.size ∧ FineE e := by
  obtain ⟨hf, hl⟩ := hd_some (fun b hb => bytesOf_bytes p b (List.mem_of_mem_drop hb)) h
  have h1 := congrArg List.length hl
  rw [List.length_append, entB_length, List.length_drop, bytesOf_length] at h1
  exact ⟨by omega, hf⟩

set_option maxRecDepth 100000 in
set_option maxHeartbeats 1000000 in
theorem spots_round (n : Nat) (hn1 : 2 ≤ n) (l Bp n₀ : Nat) (p : ByteArray) (hp : p.size ≤ 1000000) (J Jx : List Spot → World → Prop)
    (hJ : ∀ pre W W', n₀ ≤ W.heap.size → J pre W → Below W.heap.size W W' → J pre W')
    (hY : ∀ pre x W, J pre W → pre.length < (spots (bytesOf p)).length → YieldAt Fence.wide (n - 1) Try.prog l (encS x) W fun e W' =>
      (e = .returned (.bool true) ∧ J (pre ++ [x]) W' ∧ KeptN n₀ Bp W W') ∨ (e = .returned (.bool false) ∧ Jx (pre ++ [x]) W'))
    (W : World) (hW : n₀ ≤ W.heap.size) (hBp : W.cell? ⟨Bp, 0, none⟩ = some (.string p)) (h0 : J [] W) :
    CallsIn Fence.wide n Try.prog 38 #[.func (.yield l) #[] #[], .pointer (some ⟨Bp, 0, none⟩)] W fun e W' => (∃ v, e = .returned v) ∧
      ((∃ ys, ys = spots (bytesOf p) ∧ J ys W') ∨ (∃ pre, pre <+: spots (bytesOf p) ∧ Jx pre W')) := by
  refine callsIn_of_wp Try.func38 rfl trivial ?_ rfl
  simp only [Try.ntmps38, List.size_toArray, List.length_cons, List.length_nil, Nat.reduceAdd, Nat.reduceSub, Array.replicate_succ, Array.replicate_zero, List.push_toArray, List.append_toArray, List.nil_append, List.cons_append]
  have hBlt := World.block_lt_of_cell? W _ hBp
  gi_wp2
  gi_loopw [3] (fun i wr => ∃ (o f : Nat) (pre : List Spot), o ≤ 2 + p.size ∧ i = .int .i64 o ∧ J pre wr ∧ KeptN n₀ Bp W wr ∧ spots (bytesOf p) = pre ++ walkS f ((bytesOf p).drop o) o ∧ p.size ≤ f + o) (fun i _ => p.size + 2 - (intOf i).toNat)
  case atStart => exact ⟨2, (bytesOf p).length, [], by omega, rfl, h0, KeptN.refl _ _ _, rfl, by rw [bytesOf_length]; omega⟩
  case round =>
    obtain ⟨o, f, pre, ho, rfl, hJs, hnx, hsp, hf⟩ := hrel
    have hcb := (World.cell?_of_block (a := ⟨Bp, 0, none⟩) hnx.box).trans hBp
    have hzn := hnx.below.size
    have hln := World.block_lt_of_cell? wr _ hcb
    have HS := Lib.hid hsp
    clear hsp
    cases hh : hd ((bytesOf p).drop o) with
    | none =>
      have hR := readS_none hh
      have hw0 : walkS f ((bytesOf p).drop o) o = [] := by cases f <;> simp [walkS, hh]
      gi_wp2_with (fail)
      refine ⟨trivial, (fun _ => (by omega)), (callsIn_wide.2 (read_any p o hp (by omega) _)).mono ?_⟩
      rw [hR]
      rintro e w3 ⟨rfl, hb3⟩
      have hz3 := hb3.size
      gi_wp2
      refine ⟨by simp, ?_⟩
      gi_wp2
      refine bodyPost_ret (results_none rfl _ _ _) rfl ?_
      refine ⟨⟨_, rfl⟩, .inl ⟨_, rfl, ?_⟩⟩
      rw [HS.out, hw0, List.append_nil]
      exact hJ _ _ _ (by omega) (hJ _ _ _ (by omega) hJs hb3) ((Below.refl _ _).alloc (Nat.le_refl _) _)
    | some e0 =>
      have hR := readS_some hh
      obtain ⟨hl0, hfe⟩ := hd_len hh
      gi_wp2_with (fail)
      refine ⟨trivial, (fun _ => (by omega)), (callsIn_wide.2 (read_any p o hp (by omega) _)).mono ?_⟩
      rw [hR]
      rintro e w3 ⟨rfl, hb3⟩
      have hz3 := hb3.size
      obtain ⟨f', rfl⟩ : ∃ k, f = k + 1 := ⟨f - 1, by omega⟩
      have hw1 : walkS (f' + 1) ((bytesOf p).drop o) o = (e0, o, o + (e0.1.size + 10)) :: walkS f' ((bytesOf p).drop (o + (e0.1.size + 10))) (o + (e0.1.size + 10)) := by
        simp [walkS, hh, List.drop_drop]
      have HS2 := Lib.hid (show spots (bytesOf p) = (pre ++ [(e0, o, o + (e0.1.size + 10))]) ++ walkS f' ((bytesOf p).drop (o + (e0.1.size + 10))) (o + (e0.1.size + 10)) by rw [HS.out, hw1]; simp)
      clear hw1
      have hplt : pre.length < (spots (bytesOf p)).length := by rw [HS2.out]; simp
      have hB4 := (Below.refl w3.heap.size w3).alloc (Nat.le_refl _) (.cells #[.string e0.1, .int .i64 e0.2] 35)
      obtain ⟨fn, tmps, assign, body, hy, hR4⟩ := hY _ (e0, o, o + (e0.1.size + 10)) (w3.alloc (.cells #[.string e0.1, .int .i64 e0.2] 35)) (hJ _ _ _ (by omega) (hJ _ _ _ (by omega) hJs hb3) hB4) hplt
      have hK4 : KeptN n₀ Bp W (w3.alloc (.cells #[.string e0.1, .int .i64 e0.2] 35)) := (hnx.trans (KeptN.later (by omega) hln hb3)).trans (KeptN.later (by have := hb3.size; omega) (by have := hb3.size; omega) hB4)
      have hcast : ((o + (e0.1.size + 10) : Nat) : Int) = (o : Int) + ((e0.1.size : Int) + 10) := by omega
      have HC := Lib.hid hcast
      simp only [encS, hcast] at hy
      clear hcast hB4 hplt
      have h10 : ((e0.1.size : Int) + 10 == 0) = false := beq_eq_false_iff_ne.2 (by omega)
      gi_wp2
      refine ⟨(fun _ => (by omega)), hR4.mono ?_⟩
      rintro e w4 (⟨rfl, hJ4, hk4⟩ | ⟨rfl, hJx4⟩)
      · gi_wp2
        go_roundw
        case rel => exact ⟨o + (e0.1.size + 10), f', _, by omega, by rw [HC.out], hJ4, hK4.trans hk4, HS2.out, by omega⟩
        case measure => simp [intOf]; omega
      · gi_wp2
        refine bodyPost_ret (results_none rfl _ _ _) rfl ?_
        exact ⟨⟨_, rfl⟩, .inr ⟨_, ⟨_, HS2.out.symm⟩, hJx4⟩⟩

end Go.Proofs.Ytcjjeookfnmjcaa
