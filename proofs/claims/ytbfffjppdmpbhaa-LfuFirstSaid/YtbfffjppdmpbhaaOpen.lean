import Derived.Test.YtbfffjppdmpbhaaLeastLaw
import Derived.ProofKit
import Derived.OpenShut
import Derived.Lib.SmallJoins
import Derived.Deep.Slices
import Derived.Deep.Fields
import Derived.ChangeSame
namespace Go.Proofs.Ytbfffjppdmpbhaa
open Go.ChangeShapes Go.WideShapes Go.ChangeAt Go.RowKit Go.Joins Go.Deep
set_option linter.unusedVariables false

theorem cells23' : Try.prog.cellsOf 23 = 2 := by kernel_rfl
theorem cells3' : Try.prog.cellsOf 3 = 1 := by kernel_rfl

theorem addr_plain {w : World} {a : Addr} {v : Value} (h : w.cell? (a.add 0) = some v) : ∃ b off, a = ⟨b, off, none⟩ := by
  obtain ⟨b, off, s⟩ := a
  have hs : s = none := by simpa [Addr.add] using World.cell?_spot h
  exact ⟨b, off, by rw [hs]⟩

theorem open_uses {H : Type} {enc : TypeId × Value → H} {w : World} {base : Nat} {spare : Nat → Bool} {held : Bool} {r : Reach} {b0 : Nat} {v : Value} {d : DataW H} {p : List MemPlace}
    (hval : Value.okWide Try.prog w r b0 37 v) (hd : DataW.Trod enc Try.prog w base spare held 37 v d p) :
    v = .slice none 0 0 ∨ ∃ (a : Addr) (len cap : Nat), v = .slice (some a) len cap ∧ len ≤ cap ∧ cap ≤ maxLen ∧
      (0 < len → ∃ (b off : Nat) (us : List (Int × Int)), a = ⟨b, off, none⟩ ∧ us.length = len ∧ b < w.heap.size ∧ UsesAt w b off us) := by
  obtain ⟨a0, len, cap, rfl⟩ := okWide_slice Try.underlying37 hval
  obtain ⟨fuel, hf⟩ := hd
  rcases open_slice Try.underlying37 hf with ⟨hcs, _⟩ | ⟨a, len', cap', m, n, D, Pl, hcs, hb, hl, hm, hmm, hx, hi⟩
  · left
    simpa [Value.cells] using hcs
  · right
    have hcs' : Value.slice a0 len cap = .slice (some a) len' cap' := by simpa [Value.cells] using hcs
    cases hcs'
    refine ⟨a, len, cap, rfl, hl, hm, fun h0 => ?_⟩
    have hlm : len ≤ m := by rw [hmm]; split <;> omega
    have hall : ∀ i, i < len → ∃ x y : Int, w.cell? (a.add (i * 2)) = some (.int .i64 x) ∧ w.cell? (a.add (i * 2 + 1)) = some (.int .i64 y) := by
      intro i hil
      obtain ⟨cs', hc, ht⟩ := hi i (by omega)
      rw [cells23'] at hc
      obtain ⟨_, hcl, hat⟩ := World.cells?_some hc
      obtain ⟨y0, y1, n', hx', _, h0', h1'⟩ := trod_struct2 Try.underlying23 ht
      obtain ⟨c0, c1, rfl⟩ : ∃ c0 c1, cs' = [c0, c1] := by
        match cs', hcl with
        | [c0, c1], _ => exact ⟨c0, c1, rfl⟩
      have q0 := hat 0 (by omega)
      have q1 := hat 1 (by omega)
      obtain ⟨x, e0, _, _⟩ := DataW.trod_int Try.underlying3 h0'
      obtain ⟨y, e1, _, _⟩ := DataW.trod_int Try.underlying3 h1'
      have e0' : c0 = .int .i64 x := by simpa [cells3'] using e0
      have e1' : c1 = .int .i64 y := by simpa [cells3'] using e1
      rw [add_add] at q0 q1
      exact ⟨x, y, by rw [← e0']; simpa using q0, by rw [← e1']; simpa using q1⟩
    obtain ⟨x0, y0, h00, _⟩ := hall 0 h0
    obtain ⟨b, off, rfl⟩ := addr_plain (by simpa using h00)
    have hlt : b < w.heap.size := World.block_lt_of_cell? w _ h00
    obtain ⟨f, hF⟩ : ∃ f : Nat → Int × Int, ∀ i, i < len → w.cell? ⟨b, off + i * 2, none⟩ = some (.int .i64 (f i).1) ∧ w.cell? ⟨b, off + i * 2 + 1, none⟩ = some (.int .i64 (f i).2) := by
      have : ∀ i, ∃ q : Int × Int, i < len → w.cell? ⟨b, off + i * 2, none⟩ = some (.int .i64 q.1) ∧ w.cell? ⟨b, off + i * 2 + 1, none⟩ = some (.int .i64 q.2) := fun i => by
        by_cases hi : i < len
        · obtain ⟨x, y, h1, h2⟩ := hall i hi
          rw [Go.WideShapes.add_plain] at h1 h2
          exact ⟨(x, y), fun _ => ⟨h1, h2⟩⟩
        · exact ⟨(0, 0), fun h => absurd h hi⟩
      exact ⟨fun i => (this i).choose, fun i hi => (this i).choose_spec hi⟩
    refine ⟨b, off, (List.range len).map f, rfl, by simp, hlt, fun j hj => ?_⟩
    have hj' : j < len := by simpa using hj
    have e : ((List.range len).map f)[j]?.getD (0, 0) = f j := by simp [hj']
    rw [e]
    exact hF j hj'

theorem law_least_any {H : Type} {enc : TypeId × Value → H} {w : World} {base : Nat} {spare : Nat → Bool} {held : Bool} {r : Reach} {b0 : Nat} {v : Value} {d : DataW H} {p : List MemPlace}
    (hval : Value.okWide Try.prog w r b0 37 v) (hd : DataW.Trod enc Try.prog w base spare held 37 v d p) (now : Int) (wn : (Lit.int .i64 now).wf = true) :
    Calls Try.prog 8 #[v, .int .i64 now] w fun e w' => e = .returned (.bool true) ∧ Below w.heap.size w w' := by
  have hn := (bounds_i64 wn).2
  rcases open_uses hval hd with rfl | ⟨a, len, cap, rfl, hl, hm, h⟩
  · exact law_least_none now hn w
  · have hcap : cap ≤ 9223372036854775807 := by unfold maxLen at hm; omega
    by_cases h0 : 0 < len
    · obtain ⟨b, off, us, rfl, hlen, hb, hc⟩ := h h0
      exact law_least_some now hn b off len cap us hlen hl hcap w hb hc
    · obtain rfl : len = 0 := by omega
      exact law_least_zero a cap hcap now hn w

end Go.Proofs.Ytbfffjppdmpbhaa
