import Derived.Test.YtcjjeookfnmjcaaOps
namespace Go.Proofs.Ytcjjeookfnmjcaa
open Go.RowKit Go.Proofs.YtcjjeookfnmjcaaW.PrintWords
set_option linter.unusedVariables false

/-! ### Where the spots of a pack are -/
def upTo (l : List Ent) (i : Nat) : Nat := ((l.take i).flatMap entB).length
theorem spotsOf_get : ∀ (l : List Ent) (o i : Nat) (h : i < l.length), (spotsOf l o)[i]? = some (l[i]'h, o + upTo l i, o + upTo l (i + 1))
  | e :: l, o, 0, _ => by simp [spotsOf, upTo, entB_length]
  | e :: l, o, i + 1, h => by
    have h' : i < l.length := by simpa using h
    have := spotsOf_get l (o + (e.1.size + 10)) i h'
    simp only [spotsOf, List.getElem?_cons_succ, this, upTo, List.take_succ_cons, List.flatMap_cons, List.length_append, entB_length, List.getElem_cons_succ]
    congr 2
    congr 1 <;> omega
theorem upTo_le (l : List Ent) (i : Nat) : upTo l i ≤ (l.flatMap entB).length := by
  have : l.flatMap entB = (l.take i).flatMap entB ++ (l.drop i).flatMap entB := by rw [← List.flatMap_append, List.take_append_drop]
  rw [this]; simp [upTo]
theorem pack_take (l : List Ent) (i : Nat) : ((packB l).drop 2).take (upTo l i) = (l.take i).flatMap entB := by
  have : l.flatMap entB = (l.take i).flatMap entB ++ (l.drop i).flatMap entB := by rw [← List.flatMap_append, List.take_append_drop]
  show (l.flatMap entB).take _ = _
  rw [this, upTo, List.take_left]
theorem pack_drop (l : List Ent) (i : Nat) : (packB l).drop (2 + upTo l i) = (l.drop i).flatMap entB := by
  have : l.flatMap entB = (l.take i).flatMap entB ++ (l.drop i).flatMap entB := by rw [← List.flatMap_append, List.take_append_drop]
  rw [← List.drop_drop]
  show (l.flatMap entB).drop _ = _
  rw [this, upTo, List.drop_left]

/-- The text of so many entries, some of whose bytes are others. -/
def changedS (p : ByteArray) (n : Nat) (f t : Nat) (zs : List Int) : ByteArray := strOfNums ([(n : Int) / 256, (n : Int) % 256] ++ bytesOf (p.extract 2 f) ++ zs ++ bytesOf (p.extract t p.size))
theorem sub_mid (p : ByteArray) (l : List Ent) (hb : bytesOf p = packB l) (i : Nat) : bytesOf (p.extract 2 (2 + upTo l i)) = (l.take i).flatMap entB := by
  rw [bytesOf_extract, hb, show 2 + upTo l i - 2 = upTo l i by omega, pack_take]
theorem sub_tail (p : ByteArray) (l : List Ent) (hb : bytesOf p = packB l) (i : Nat) : bytesOf (p.extract (2 + upTo l i) p.size) = (l.drop i).flatMap entB := by
  rw [bytesOf_extract, hb, pack_drop]
  apply List.take_of_length_le
  have h1 : p.size = (packB l).length := by rw [← hb, bytesOf_length]
  have h2 : ((l.drop i).flatMap entB).length = (packB l).length - (2 + upTo l i) := by rw [← pack_drop, List.length_drop]
  omega
def delAt (l : List Ent) (i : Nat) : List Ent := l.take i ++ l.drop (i + 1)
def insAt (l : List Ent) (i : Nat) (x : Ent) : List Ent := l.take i ++ x :: l.drop i
theorem delAt_length {l : List Ent} {i : Nat} (h : i < l.length) : (delAt l i).length = l.length - 1 := by simp [delAt]; omega
theorem insAt_length {l : List Ent} {i : Nat} (h : i ≤ l.length) (x : Ent) : (insAt l i x).length = l.length + 1 := by simp [insAt]; omega
theorem del_pack (p : ByteArray) (l : List Ent) (hb : bytesOf p = packB l) (i : Nat) (h : i < l.length) : changedS p (l.length - 1) (2 + upTo l i) (2 + upTo l (i + 1)) [] = strOfNums (packB (delAt l i)) := by
  unfold changedS
  rw [sub_mid p l hb i, sub_tail p l hb (i + 1)]
  congr 1
  rw [packB, delAt_length h]
  simp [delAt]
theorem ins_pack (p : ByteArray) (l : List Ent) (hb : bytesOf p = packB l) (i : Nat) (h : i ≤ l.length) (x : Ent) : changedS p (l.length + 1) (2 + upTo l i) (2 + upTo l i) (entB x) = strOfNums (packB (insAt l i x)) := by
  unfold changedS
  rw [sub_mid p l hb i, sub_tail p l hb i]
  congr 1
  rw [packB, insAt_length h]
  simp [insAt]

def delS (p : ByteArray) (i : Int) : ByteArray × Int := if ok p = false then (⟨#[]⟩, 50) else if i < 0 ∨ ((ents p).length : Int) ≤ i then (⟨#[]⟩, 2) else (strOfNums (packB (delAt (ents p) i.toNat)), 0)

/-- What the slots of the drawn region of Delete hold. -/
def dlV (p : ByteArray) (c : Int) (B f t : Nat) (res : ByteArray) : Nat → World → Value → Prop
  | 0, _, v => v = .string p
  | 1, _, v => v = .string p
  | 2, _, v => v = .int .i64 c
  | 3, _, v => v = .int .i64 (c - 1)
  | 4, _, v => v = .pointer (some ⟨B, 2, none⟩)
  | 5, _, v => v = .int .i64 f
  | 6, _, v => v = .pointer (some ⟨B, 3, none⟩)
  | 7, _, v => v = .int .i64 t
  | 8, _, v => v = .string res
  | 9, _, v => v = .string res
  | 10, _, v => v = .int .i64 0
  | _, _, _ => True
theorem dlV_later {p : ByteArray} {c : Int} {B f t : Nat} {res : ByteArray} (j : Nat) (w w' : World) (v : Value) (h : dlV p c B f t res j w v) (hb' : Below w.heap.size w w') : dlV p c B f t res j w' v := by
  match j, h with
  | 0, h => exact h
  | 1, h => exact h
  | 2, h => exact h
  | 3, h => exact h
  | 4, h => exact h
  | 5, h => exact h
  | 6, h => exact h
  | 7, h => exact h
  | 8, h => exact h
  | 9, h => exact h
  | 10, h => exact h
  | _ + 11, _ => trivial
def dlD (j : Nat) : Nat := if j = 9 then 4 else if j = 10 then 5 else 17 + j
theorem dlD_inj (i j : Nat) (hi : i < 11) (hj : j < 11) (h : dlD i = dlD j) : i = j := by
  unfold dlD at h
  split at h <;> (try split at h) <;> (try split at h) <;> (try split at h) <;> omega
theorem dlD_lt (i : Nat) (hi : i < 11) : dlD i < 26 := by unfold dlD; split <;> (try split) <;> omega
theorem dlD_fix {p b : Value} (q : Nat × Value) (hq : q ∈ [(0, p), (6, b)]) (i : Nat) (hi : i < 11) : dlD i ≠ q.1 := by
  simp only [List.mem_cons, List.not_mem_nil, or_false] at hq
  unfold dlD
  rcases hq with rfl | rfl <;> (dsimp only; split <;> (try split) <;> omega)

set_option maxHeartbeats 1000000 in
theorem delete_some (p : ByteArray) (hp : p.size ≤ 1000000) (i : Int) (m : ByteArray) (sc : Int) (c f t : Nat) (hs : spotAtS p i = (((m, sc), f, t), 0)) (hc : countOf (bytesOf p) = c) (hc1 : 1 ≤ c) (hc2 : c ≤ 200) (hf : 2 ≤ f) (hf2 : f ≤ p.size) (ht : t ≤ p.size) (w : World) :
    Calls Try.prog 24 #[.string p, .int .i64 i] w fun e w' => e = .returned (.tuple #[.string (changedS p (c - 1) f t []), .int .i64 0]) ∧ Below w.heap.size w w' := by
  have hsp := spotAt_any p hp i
  rw [hs] at hsp
  have HC := Lib.hid hc
  obtain ⟨res, hres⟩ : ∃ res, changedS p (c - 1) f t [] = res := ⟨_, rfl⟩
  rw [hres]
  have HRS := Lib.hid hres
  clear hs hc hres
  go_enter Try.func24, Try.ntmps24
  go_wp2_with fail
  refine (hsp _).mono ?_
  rintro e w1 ⟨rfl, hb1⟩
  dsimp only
  go_wp2_with fail
  have hbx := Box4.new w1 56 [.string m, .int .i64 sc, .int .i64 f, .int .i64 t]
  have hbw : Below w.heap.size w (w1.alloc (.cells #[.string m, .int .i64 sc, .int .i64 f, .int .i64 t] 56)) := hb1.alloc hb1.size _
  have c2 := hbx.cell 2 (by simp)
  have c3 := hbx.cell 3 (by simp)
  have hblt := hbx.lt
  simp only [List.getElem_cons_zero, List.getElem_cons_succ] at c2 c3
  clear hbx
  generalize w1.alloc (.cells #[.string m, .int .i64 sc, .int .i64 f, .int .i64 t] 56) = w2 at *
  refine wp_region_inv (RI 26 11 dlD [(0, .string p), (6, .pointer (some ⟨w1.heap.size, 0, none⟩))] (dlV p c w1.heap.size f t res) w2) (by kernel_rfl) ?_ ?_ ?_
  · refine ⟨rfl, rfl, rfl, ?_, (Below.refl _ _).drew, ?_⟩
    · intro q hq
      simp only [List.mem_cons, List.not_mem_nil, or_false] at hq
      rcases hq with rfl | rfl <;> rfl
    · intro j hj
      simp [Array.getD_eq_getD_getElem?, Array.getElem?_replicate] at hj
      split at hj <;> simp at hj
  · intro listed a w3 i hI hr
    obtain ⟨h1, o, ho, hdep⟩ := mem_ready.1 hr
    have hi : i < 11 := (Array.getElem?_eq_some_iff.1 ho).1
    have hput := fun {i : Nat} {v : Value} {w' : World} => hI.put (i := i) (v := v) (w' := w') dlV_later dlD_inj dlD_fix dlD_lt
    have g2 := (hI.below.cell (p := ⟨w1.heap.size, 2, none⟩) hblt).trans c2
    have g3 := (hI.below.cell (p := ⟨w1.heap.size, 3, none⟩) hblt).trans c3
    match i, hi, ho with
    | 0, _, ho =>
      cases ho
      refine wpOp_now rfl rfl ?_
      exact hput (i := 0) (by omega) (v := a.eval (.tmp 0)) (hI.fix (0, _) (by simp)) (Below.refl _ _)
    | 1, _, ho =>
      cases ho
      refine wpOp_now rfl rfl ?_
      exact hput (i := 1) (by omega) (v := a.eval (.tmp 0)) (hI.fix (0, _) (by simp)) (Below.refl _ _)
    | 2, _, ho =>
      cases ho
      refine wpOp_now rfl rfl ?_
      have d1 := hI.ok 1 (hdep ⟨1, .data⟩ (by simp) rfl)
      have e18 : a.eval (.tmp 18) = .string p := d1
      refine wp_enter (w' := w3) 36 #[.string p] (by have ef : a.eval (.func 36) = .func (.func 36) #[] #[] := rfl; generalize a.eval = ρ at e18 ef ⊢; simp [execOp, resolve, invoke, e18, ef, go_sem]) ?_
      refine (count_any p hp _).mono ?_
      rintro e w4 ⟨rfl, hb4⟩
      exact ⟨_, rfl, hput (i := 2) (by omega) (by rw [HC.out]; rfl) hb4⟩
    | 3, _, ho =>
      cases ho
      refine wpOp_now rfl rfl ?_
      have d2 := hI.ok 2 (hdep ⟨2, .data⟩ (by simp) rfl)
      have e19 : a.eval (.tmp 19) = .int .i64 c := d2
      have hw : IntKind.i64.wrap ((c : Int) - 1) = c - 1 := by simp [IntKind.wrap, IntKind.signed, IntKind.bits]; omega
      exact wp_value (w' := w3) (.int .i64 ((c : Int) - 1)) (by have ec : a.eval (.const (.int .i64 1)) = .int .i64 1 := rfl; generalize a.eval = ρ at e19 ec ⊢; simp [execOp, e19, ec, go_sem, hw]) (hput (i := 3) (by omega) rfl (Below.refl _ _))
    | 4, _, ho =>
      cases ho
      refine wpOp_now rfl rfl ?_
      have e6 : a.eval (.tmp 6) = .pointer (some ⟨w1.heap.size, 0, none⟩) := hI.fix (6, _) (by simp)
      exact wp_value (w' := w3) (.pointer (some ⟨w1.heap.size, 2, none⟩)) (by generalize a.eval = ρ at e6 ⊢; simp [execOp, e6, go_sem]) (hput (i := 4) (by omega) rfl (Below.refl _ _))
    | 5, _, ho =>
      cases ho
      refine wpOp_now rfl rfl ?_
      have d4 := hI.ok 4 (hdep ⟨4, .data⟩ (by simp) rfl)
      have e21 : a.eval (.tmp 21) = .pointer (some ⟨w1.heap.size, 2, none⟩) := d4
      exact wp_value (w' := w3) (.int .i64 f) (by generalize a.eval = ρ at e21 ⊢; simp [execOp, e21, g2, go_sem]) (hput (i := 5) (by omega) rfl (Below.refl _ _))
    | 6, _, ho =>
      cases ho
      refine wpOp_now rfl rfl ?_
      have e6 : a.eval (.tmp 6) = .pointer (some ⟨w1.heap.size, 0, none⟩) := hI.fix (6, _) (by simp)
      exact wp_value (w' := w3) (.pointer (some ⟨w1.heap.size, 3, none⟩)) (by generalize a.eval = ρ at e6 ⊢; simp [execOp, e6, go_sem]) (hput (i := 6) (by omega) rfl (Below.refl _ _))
    | 7, _, ho =>
      cases ho
      refine wpOp_now rfl rfl ?_
      have d6 := hI.ok 6 (hdep ⟨6, .data⟩ (by simp) rfl)
      have e23 : a.eval (.tmp 23) = .pointer (some ⟨w1.heap.size, 3, none⟩) := d6
      exact wp_value (w' := w3) (.int .i64 t) (by generalize a.eval = ρ at e23 ⊢; simp [execOp, e23, g3, go_sem]) (hput (i := 7) (by omega) rfl (Below.refl _ _))
    | 8, _, ho =>
      cases ho
      refine wpOp_now rfl rfl ?_
      have d0 := hI.ok 0 (hdep ⟨0, .data⟩ (by simp) rfl)
      have d3 := hI.ok 3 (hdep ⟨3, .data⟩ (by simp) rfl)
      have d5 := hI.ok 5 (hdep ⟨5, .data⟩ (by simp) rfl)
      have d7 := hI.ok 7 (hdep ⟨7, .data⟩ (by simp) rfl)
      have e17 : a.eval (.tmp 17) = .string p := d0
      have e20 : a.eval (.tmp 20) = .int .i64 ((c : Int) - 1) := d3
      have e22 : a.eval (.tmp 22) = .int .i64 f := d5
      have e24 : a.eval (.tmp 24) = .int .i64 t := d7
      rw [show (c : Int) - 1 = ((c - 1 : Nat) : Int) by omega] at e20
      refine wp_enter (w' := w3) 34 #[.string p, .int .i64 ((c - 1 : Nat) : Int), .int .i64 f, .int .i64 t, .slice none 0 0] (by have ef : a.eval (.func 34) = .func (.func 34) #[] #[] := rfl; have ec : a.eval (.const (.slice none 0 0)) = .slice none 0 0 := rfl; generalize a.eval = ρ at e17 e20 e22 e24 ef ec ⊢; simp [execOp, resolve, invoke, e17, e20, e22, e24, ef, ec, go_sem]) ?_
      refine (changed_any p hp (c - 1) (by omega) f t hf hf2 ht (.slice none 0 0) [] (by simp) _ (.inl ⟨rfl, rfl⟩)).mono ?_
      rintro e w4 ⟨rfl, hb4⟩
      exact ⟨_, rfl, hput (i := 8) (by omega) (by show Value.string _ = Value.string res; rw [← HRS.out]; rfl) hb4⟩
    | 9, _, ho =>
      cases ho
      refine wpOp_now rfl rfl ?_
      have d8 := hI.ok 8 (hdep ⟨8, .data⟩ (by simp) rfl)
      exact hput (i := 9) (by omega) (v := a.eval (.tmp 25)) d8 (Below.refl _ _)
    | 10, _, ho =>
      cases ho
      refine wpOp_now rfl rfl ?_
      exact hput (i := 10) (by omega) (v := .int .i64 0) rfl (Below.refl _ _)
  · intro listed a w3 hI hr
    have hl := all_listed (ops := _) (listed := listed) (by rw [hI.len]; rfl) (by kernel_rfl) hr
    have h9 : a.tmps.getD 4 undef = _ := hI.ok 9 (hl 9 (by decide))
    have h10 : a.tmps.getD 5 undef = _ := hI.ok 10 (hl 10 (by decide))
    have hB := hI.below
    have hdf := hI.defers
    show Exit.then _ _ Exit.normal a w3
    dsimp only [Exit.then]
    apply_assumption
    refine wp_ret ?_
    refine bodyPost_ret (results_tmp2 rfl _ _ _) hdf ⟨?_, hbw.trans (hB.mono hbw.size)⟩
    rw [h9, h10]

set_option maxHeartbeats 1000000 in
theorem delete_none (p : ByteArray) (hp : p.size ≤ 1000000) (i : Int) (er : Int) (hs : spotAtS p i = (zS, er)) (her : (er != 0) = true) (w : World) :
    Calls Try.prog 24 #[.string p, .int .i64 i] w fun e w' => e = .returned (.tuple #[.string ⟨#[]⟩, .int .i64 er]) ∧ Below w.heap.size w w' := by
  have hsp := spotAt_any p hp i
  rw [hs] at hsp
  clear hs
  go_enter Try.func24, Try.ntmps24
  go_wp2_with fail
  refine (hsp _).mono ?_
  rintro e w1 ⟨rfl, hb1⟩
  dsimp only [zS, zE]
  go_wp2_with fail
  go_ret2
  exact ⟨rfl, hb1.alloc hb1.size _⟩

theorem okLen {p : ByteArray} (h : ok p = true) : p.size = 2 + ((ents p).flatMap entB).length := by
  obtain ⟨hf, hb, hs⟩ := ok_spec h
  rw [← bytesOf_length, hb, packB_length]

theorem delete_any (p : ByteArray) (hp : p.size ≤ 1000000) (i : Int) (w : World) :
    Calls Try.prog 24 #[.string p, .int .i64 i] w fun e w' => e = .returned (.tuple #[.string (delS p i).1, .int .i64 (delS p i).2]) ∧ Below w.heap.size w w' := by
  by_cases hok : ok p = false
  · have h1 : spotAtS p i = (zS, 50) := by unfold spotAtS; rw [if_pos hok]
    have h2 : delS p i = (⟨#[]⟩, 50) := by unfold delS; rw [if_pos hok]
    rw [h2]; exact delete_none p hp i 50 h1 rfl w
  · by_cases hin : i < 0 ∨ ((ents p).length : Int) ≤ i
    · have h1 : spotAtS p i = (zS, 2) := by unfold spotAtS; rw [if_neg hok, if_pos hin]
      have h2 : delS p i = (⟨#[]⟩, 2) := by unfold delS; rw [if_neg hok, if_pos hin]
      rw [h2]; exact delete_none p hp i 2 h1 rfl w
    · obtain ⟨k, rfl⟩ : ∃ k : Nat, i = k := ⟨i.toNat, by omega⟩
      have hk : k < (ents p).length := by omega
      obtain ⟨hf, hb, hs⟩ := ok_spec (by simpa using hok : ok p = true)
      have hz := okLen (by simpa using hok : ok p = true)
      have hg := spotsOf_get (ents p) 2 k hk
      have u1 := upTo_le (ents p) k
      have u2 := upTo_le (ents p) (k + 1)
      have h3 : spotAtS p k = (((((ents p)[k]'hk).1, ((ents p)[k]'hk).2), 2 + upTo (ents p) k, 2 + upTo (ents p) (k + 1)), 0) := by
        unfold spotAtS
        rw [if_neg hok, if_neg hin, hs, Int.toNat_natCast, hg]
        rfl
      have h2 : delS p k = (strOfNums (packB (delAt (ents p) k)), 0) := by unfold delS; rw [if_neg hok, if_neg hin, Int.toNat_natCast]
      have hc : countOf (bytesOf p) = ((ents p).length : Int) := by rw [hb]; exact count_pack _ hf
      rw [h2, ← del_pack p (ents p) hb k hk]
      exact delete_some p hp k _ _ (ents p).length _ _ h3 hc (by omega) hf.1 (by omega) (by omega) (by omega) w

end Go.Proofs.Ytcjjeookfnmjcaa
