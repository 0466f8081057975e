import Derived.Test.YtcjjeookfnmjcaaBase
namespace Go.Proofs.Ytcjjeookfnmjcaa
open Go.RowKit Go.Proofs.YtcjjeookfnmjcaaW.PrintWords
set_option linter.unusedVariables false

/-! ### Slices of entries -/
/-- The cells from an address on hold entries. -/
def Els (w : World) (A : Option Addr) (l : List Ent) : Prop :=
  ∀ i (h : i < l.length), ∃ b off, A = some ⟨b, off, none⟩ ∧ w.cell? ⟨b, off + i * 2, none⟩ = some (.string (l[i]'h).1) ∧ w.cell? ⟨b, off + i * 2 + 1, none⟩ = some (.int .i64 (l[i]'h).2)
theorem Els.later {w w' : World} {A : Option Addr} {l : List Ent} (h : Els w A l) (hb : Below w.heap.size w w') : Els w' A l := fun i hi => by
  obtain ⟨b, off, e, h1, h2⟩ := h i hi
  exact ⟨b, off, e, (hb.cell (p := ⟨b, off + i * 2, none⟩) (World.block_lt_of_cell? w _ h1)).trans h1, (hb.cell (p := ⟨b, off + i * 2 + 1, none⟩) (World.block_lt_of_cell? w _ h2)).trans h2⟩

theorem row_owned {w : World} {base g : Nat} {zs : List Int} {n : Nat} (h : Row w g zs) (hn : zs.length = n) (hb : base ≤ g) (hm : n ≤ maxLen) : w.ownsRow base 5 1 (.slice (some ⟨g, 0, none⟩) n n) n (nums .u8 zs) :=
  ⟨by simp [nums, hn], .inr ⟨g, n, (nums .u8 zs).toArray, rfl, hb, h, Nat.le_refl _, hm, by simp [nums, hn], by rw [List.take_of_length_le (by simp [nums, hn])]⟩⟩
theorem row_news {w : World} {g : Nat} {zs : List Int} (h : Row w g zs) : ∀ j u, (nums .u8 zs)[j]? = some u → w.cell? ((⟨g, 0, none⟩ : Addr).add j) = some u := by
  intro j u hj
  have hlt : j < zs.length := by
    have := (List.getElem?_eq_some_iff.1 hj).1
    simpa [nums] using this
  have hc := h.cell j hlt
  have e : (nums .u8 zs)[j]? = some (.int .u8 (zs[j]?.getD 0)) := by simp [nums, List.getElem?_eq_getElem hlt]
  rw [e] at hj
  cases hj
  rw [Go.WideShapes.add_plain, Nat.zero_add]; exact hc

theorem own_later {w w' : World} {base : Nat} {e : TypeId} {size : Nat} {v : Value} {n : Nat} {xs : List Value} (h : w.ownsRow base e size v n xs) (hb : Below w.heap.size w w') : w'.ownsRow base e size v n xs := by
  refine ⟨h.1, ?_⟩
  rcases h.2 with hn | ⟨g, cap, cur, hv, hg, hh, rest⟩
  · exact .inl hn
  · exact .inr ⟨g, cap, cur, hv, hg, (hb.block g (Array.getElem?_eq_some_iff.1 hh).1).trans hh, rest⟩

def packUpto (n : Nat) (l : List Ent) : List Int := (n : Int) / 256 :: (n : Int) % 256 :: l.flatMap entB

theorem nums_one (zs : List Int) : ∀ u ∈ nums .u8 zs, u.oneCell' = true := by
  intro u hu
  obtain ⟨z, _, rfl⟩ := List.mem_map.1 hu
  rfl
theorem flat_small : ∀ (l : List Ent), (∀ e, e ∈ l → e.1.size ≤ 64) → (l.flatMap entB).length ≤ 74 * l.length
  | [], _ => by simp
  | (m, s) :: l, h => by
    have := flat_small l (fun e he => h e (by simp [he]))
    have h2 := h (m, s) (by simp)
    dsimp only at h2
    simp only [List.flatMap_cons, List.length_append, entB_length, List.length_cons]
    omega
theorem packUpto_small {n : Nat} {l : List Ent} (h : ∀ e, e ∈ l → e.1.size ≤ 64) : (packUpto n l).length ≤ 2 + 74 * l.length := by
  have := flat_small l h
  simp only [packUpto, List.length_cons]; omega
theorem packUpto_snoc (n : Nat) (l : List Ent) (e : Ent) : packUpto n (l ++ [e]) = packUpto n l ++ entB e := by simp [packUpto]

def bigE (e : Ent) : Bool := decide (64 < e.1.size)
/-- The pack of entries; an error's number. -/
def packS (l : List Ent) : ByteArray × Int := if 200 < l.length then (⟨#[]⟩, 51) else if l.any bigE then (⟨#[]⟩, 2) else (strOfNums (packB l), 0)

set_option maxHeartbeats 400000 in
theorem pack_full (A : Option Addr) (l : List Ent) (c : Nat) (h : 200 < l.length) (w : World) :
    Calls Try.prog 11 #[.slice A l.length c] w fun e w' => e = .returned (.tuple #[.string ⟨#[]⟩, .int .i64 51]) ∧ Below w.heap.size w w' := by
  go_enter Try.func11, Try.ntmps11
  go_wp2_with fail
  go_ret2
  exact ⟨rfl, Below.refl _ _⟩

set_option maxHeartbeats 1000000 in
theorem pack_some (A : Option Addr) (l : List Ent) (len c : Nat) (hlen : l.length = len) (h : len ≤ 200) (w : World) (hr : Els w A l) :
    Calls Try.prog 11 #[.slice A len c] w fun e w' => e = .returned (.tuple #[.string (packS l).1, .int .i64 (packS l).2]) ∧ Below w.heap.size w w' := by
  obtain ⟨i0, hi, hz0, hz1, hz2⟩ := info_parts info5
  have HR := Lib.hid hr
  have HL := Lib.hid hlen
  clear hr hlen
  go_enter Try.func11, Try.ntmps11
  go_wp2_with fail
  refine (head_any len (by omega) _).mono ?_
  rintro e w1 ⟨rfl, hw1⟩
  have hrow : Row w1 w.heap.size [(len : Int) / 256, (len : Int) % 256] := by rw [← hw1]; show (w.heap.push _)[w.heap.size]? = _; simp [nums]
  have hB1 : Below w.heap.size w w1 := by rw [← hw1]; exact (Below.refl _ _).alloc (Nat.le_refl _) _
  have hzw : w.heap.size < w1.heap.size := hrow.lt
  have hown := Lib.hid (row_owned (base := w.heap.size) hrow (n := 2) rfl (Nat.le_refl _) (by unfold maxLen; omega))
  clear hw1 hrow
  go_wp2_with fail
  go_loopw [4, 15] (fun v i wr => ∃ k : Nat, k ≤ len ∧ i = .int .i64 k ∧ wr.ownsRow w.heap.size 5 1 v (packUpto len (l.take k)).length (nums .u8 (packUpto len (l.take k))) ∧
      (∀ e, e ∈ l.take k → e.1.size ≤ 64) ∧ Below w.heap.size w wr) (fun _ i _ => len - (intOf i).toNat)
  case atStart => exact ⟨0, by omega, rfl, hown.out, by simp, hB1⟩
  case round =>
    obtain ⟨k, hk, rfl, hro, hsm, hB⟩ := hrel
    have HO := Lib.hid hro
    have HS := Lib.hid hsm
    have hzr := hB.size
    obtain ⟨A4, c4, hv4⟩ := own_slice hro
    clear hro hsm hown
    by_cases hlt : k < len
    · have hkl : k < l.length := by rw [HL.out]; exact hlt
      obtain ⟨b, off, rfl, hc0, hc1⟩ := HR.out k hkl
      obtain ⟨m, hm⟩ : ∃ m, l[k]'hkl = m := ⟨_, rfl⟩
      rw [hm] at hc0 hc1
      have HT := Lib.hid (show l.take (k + 1) = l.take k ++ [m] by rw [List.take_succ_eq_append_getElem hkl, hm])
      obtain ⟨ms, sc⟩ := m
      dsimp only at hc0 hc1
      replace hc0 := (hB.cell (p := ⟨b, off + k * 2, none⟩) (World.block_lt_of_cell? w _ hc0)).trans hc0
      replace hc1 := (hB.cell (p := ⟨b, off + k * 2 + 1, none⟩) (World.block_lt_of_cell? w _ hc1)).trans hc1
      by_cases hbig : ms.size ≤ 64
      · go_wp2_with fail
        refine (entry_any ms sc hbig _).mono ?_
        rintro e w5 ⟨g, rfl, hr5, hg5, hb5⟩
        have hB5 := Lib.hid ((hB.alloc hzr (.cells #[.string ms, .int .i64 sc] 35)).trans (hb5.mono (by rw [World.size_alloc]; omega)))
        have HO5 := Lib.hid (own_later (HO.out.alloc (.cells #[.string ms, .int .i64 sc] 35)) hb5)
        have HR5 := Lib.hid hr5
        have hz5 := hr5.lt
        have hz6 : wr.heap.size ≤ g := by rw [World.size_alloc] at hg5; omega
        clear hr5 hb5 hg5
        have hps := packUpto_small (n := len) HS.out
        have htk : (l.take k).length ≤ k := by simp; omega
        dsimp only
        apply_assumption
        at_builtin
        refine wpList_append_own _ rfl _ _ 48 rfl w.heap.size 5 i0 (.int .u8 0) 1 1 Try.underlying48 hi hz0 hz1 hz2 rfl (by decide) _ _ _ rfl HO5.out ⟨g, 0, none⟩ (ms.size + 10) _ (nums .u8 (entB (ms, sc))) rfl (by simp [nums, entB_length]) (row_news HR5.out) (nums_one _) (by unfold maxLen; omega) (by omega) (by omega) ?_
        intro v6 w6 hO6 hG6 _
        have hB6 := hB5.out.grown hG6 (by omega) (fun b e => (HO5.out.lt b e).1)
        clear hG6 HR5
        go_wp2
        go_roundw
        case rel =>
          refine ⟨k + 1, by omega, by go_num, ?_, ?_, hB6⟩
          · rw [HT.out, packUpto_snoc]
            have e1 : (packUpto len (List.take k l) ++ entB (ms, sc)).length = (packUpto len (List.take k l)).length + (ms.size + 10) := by simp [entB_length]
            rw [e1]
            simpa [nums] using hO6
          · rw [HT.out]
            intro e he
            rcases List.mem_append.1 he with h1 | h1
            · exact HS.out e h1
            · obtain rfl := List.mem_singleton.1 h1; exact hbig
        case measure => simp [intOf]; omega
      · have hP : packS l = (⟨#[]⟩, 2) := by
          have h1 : ¬ 200 < l.length := by have := HL.out; omega
          have h2 : l.any bigE = true := List.any_eq_true.2 ⟨(ms, sc), hm ▸ List.getElem_mem hkl, by simp [bigE]; omega⟩
          rw [packS, if_neg h1, if_pos h2]
        have hBa := Lib.hid (hB.alloc hzr (.cells #[.string ms, .int .i64 sc] 35))
        go_wp2
        go_ret2
        exact ⟨by rw [hP]; rfl, hBa.out⟩
    · obtain rfl : k = len := by omega
      have hall : l.take k = l := List.take_of_length_le (by have := HL.out; omega)
      rw [hall] at HO HS
      have hP : packS l = (strOfNums (packUpto k l), 0) := by
        have h1 : ¬ 200 < l.length := by have := HL.out; omega
        have h2 : ¬ l.any bigE = true := by
          intro h3
          obtain ⟨e, he, h4⟩ := List.any_eq_true.1 h3
          have := HS.out e he
          simp [bigE] at h4; omega
        rw [packS, if_neg h1, if_neg h2]
        have : packUpto k l = packB l := by rw [← HL.out]; rfl
        rw [this]
      have hcv := own_string (P := Try.prog) (src := 48) (dst := 9) Try.underlying48 Try.underlying5 Try.underlying9 HO.out
      rw [hall] at hv4
      rw [hv4] at hcv
      go_wp2_with fail
      go_ret2
      exact ⟨by rw [hP]; rfl, hB⟩

theorem pack_any (A : Option Addr) (l : List Ent) (len c : Nat) (hlen : l.length = len) (w : World) (hr : Els w A l) :
    Calls Try.prog 11 #[.slice A len c] w fun e w' => e = .returned (.tuple #[.string (packS l).1, .int .i64 (packS l).2]) ∧ Below w.heap.size w w' := by
  by_cases h : len ≤ 200
  · exact pack_some A l len c hlen h w hr
  · subst hlen
    rw [show packS l = (⟨#[]⟩, 51) by unfold packS; rw [if_pos (by omega)]]
    exact pack_full A l c (by omega) w

end Go.Proofs.Ytcjjeookfnmjcaa
