import Derived.Test.YtcjjeookfnmjcaaGrows
import Derived.ProofKit
import Derived.OpenShut
import Derived.Lib.SmallJoins
import Derived.Deep.Slices
import Derived.Deep.Fields
import Derived.ChangeSame
namespace Go.Proofs.Ytcjjeookfnmjcaa
open Go.ChangeShapes Go.WideShapes Go.ChangeAt Go.RowKit Go.Joins Go.Deep
set_option linter.unusedVariables false

theorem cells35' : Try.prog.cellsOf 35 = 2 := by kernel_rfl
theorem cells9' : Try.prog.cellsOf 9 = 1 := by kernel_rfl
theorem cells2' : Try.prog.cellsOf 2 = 1 := by kernel_rfl

theorem addr_plain {w : World} {a : Addr} {v : Value} (h : w.cell? (a.add 0) = some v) : ∃ b off, a = ⟨b, off, none⟩ := by
  obtain ⟨b, off, s⟩ := a
  have hs : s = none := by simpa [Addr.add] using World.cell?_spot h
  exact ⟨b, off, by rw [hs]⟩

theorem open_ents {H : Type} {enc : TypeId × Value → H} {w : World} {base : Nat} {spare : Nat → Bool} {held : Bool} {r : Reach} {b0 : Nat} {v : Value} {d : DataW H} {p : List MemPlace}
    (hval : Value.okWide Try.prog w r b0 22 v) (hd : DataW.Trod enc Try.prog w base spare held 22 v d p) :
    ∃ (A : Option Addr) (len cap : Nat) (l : List Ent), v = .slice A len cap ∧ l.length = len ∧ len ≤ 9223372036854775807 ∧ Rng l ∧ Els w A l := by
  obtain ⟨a0, len, cap, rfl⟩ := okWide_slice Try.underlying22 hval
  obtain ⟨fuel, hf⟩ := hd
  rcases open_slice Try.underlying22 hf with ⟨hcs, _⟩ | ⟨a, len', cap', m, n, D, Pl, hcs, hb, hl, hm, hmm, hx, hi⟩
  · have hcs' : Value.slice a0 len cap = .slice none 0 0 := by simpa [Value.cells] using hcs
    cases hcs'
    exact ⟨none, 0, 0, [], rfl, rfl, by omega, by intro e he; simp at he, by intro i hi; simp at hi⟩
  · have hcs' : Value.slice a0 len cap = .slice (some a) len' cap' := by simpa [Value.cells] using hcs
    cases hcs'
    have hlm : len ≤ m := by rw [hmm]; split <;> omega
    have hall : ∀ i, i < len → ∃ x : Ent, (-9223372036854775808 ≤ x.2 ∧ x.2 ≤ 9223372036854775807) ∧ w.cell? (a.add (i * 2)) = some (.string x.1) ∧ w.cell? (a.add (i * 2 + 1)) = some (.int .i64 x.2) := by
      intro i hil
      obtain ⟨cs', hc, ht⟩ := hi i (by omega)
      rw [cells35'] at hc
      obtain ⟨_, hcl, hat⟩ := World.cells?_some hc
      obtain ⟨y0, y1, n', hx', _, h0', h1'⟩ := trod_struct2 Try.underlying35 ht
      obtain ⟨c0, c1, rfl⟩ : ∃ c0 c1, cs' = [c0, c1] := by
        match cs', hcl with
        | [c0, c1], _ => exact ⟨c0, c1, rfl⟩
      have q0 := hat 0 (by omega)
      have q1 := hat 1 (by omega)
      obtain ⟨x, e0, _, _⟩ := DataW.trod_string Try.underlying9 h0'
      obtain ⟨y, e1, _, wy⟩ := DataW.trod_int Try.underlying2 h1'
      have e0' : c0 = .string x := by simpa [cells9'] using e0
      have e1' : c1 = .int .i64 y := by simpa [cells9', cells2'] using e1
      rw [add_add] at q0 q1
      exact ⟨(x, y), bounds_i64 wy, by rw [← e0']; simpa using q0, by rw [← e1']; simpa using q1⟩
    obtain ⟨f, hF⟩ : ∃ f : Nat → Ent, ∀ i, i < len → (-9223372036854775808 ≤ (f i).2 ∧ (f i).2 ≤ 9223372036854775807) ∧ w.cell? (a.add (i * 2)) = some (.string (f i).1) ∧ w.cell? (a.add (i * 2 + 1)) = some (.int .i64 (f i).2) := by
      have : ∀ i, ∃ q : Ent, i < len → (-9223372036854775808 ≤ q.2 ∧ q.2 ≤ 9223372036854775807) ∧ w.cell? (a.add (i * 2)) = some (.string q.1) ∧ w.cell? (a.add (i * 2 + 1)) = some (.int .i64 q.2) := fun i => by
        by_cases hi : i < len
        · obtain ⟨x, h1, h2, h3⟩ := hall i hi
          exact ⟨x, fun _ => ⟨h1, h2, h3⟩⟩
        · exact ⟨(⟨#[]⟩, 0), fun h => absurd h hi⟩
      exact ⟨fun i => Classical.choose (this i), fun i => Classical.choose_spec (this i)⟩
    refine ⟨some a, len, cap, (List.range len).map f, rfl, by simp, by unfold maxLen at hm; omega, ?_, ?_⟩
    · intro e he
      obtain ⟨i, hi', rfl⟩ := List.mem_map.1 he
      exact (hF i (List.mem_range.1 hi')).1
    · intro i hi'
      have hil : i < len := by simpa using hi'
      obtain ⟨x0, _, h00, _⟩ := hall 0 (by omega)
      obtain ⟨b, off, rfl⟩ := addr_plain (by simpa using h00)
      obtain ⟨_, h2, h3⟩ := hF i hil
      rw [Go.WideShapes.add_plain] at h2 h3
      refine ⟨b, off, rfl, ?_, ?_⟩
      · simpa using h2
      · simpa [Nat.add_assoc] using h3

end Go.Proofs.Ytcjjeookfnmjcaa
