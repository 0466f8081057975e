import Derived.Test.YtcjjeookfnmjcaaChanged
namespace Go.Proofs.Ytcjjeookfnmjcaa
open Go.RowKit Go.Proofs.YtcjjeookfnmjcaaW.PrintWords
set_option linter.unusedVariables false

/-! ### What a text is -/
def ok (p : ByteArray) : Bool := okB (bytesOf p)
def ents (p : ByteArray) : List Ent := (spots (bytesOf p)).map (·.1)
theorem ok_spec {p : ByteArray} (h : ok p = true) : Fine (ents p) ∧ bytesOf p = packB (ents p) ∧ spots (bytesOf p) = spotsOf (ents p) 2 := by
  obtain ⟨l, hf, hb⟩ := ok_is_pack _ (bytesOf_bytes p) h
  have hs : spots (bytesOf p) = spotsOf l 2 := by rw [hb]; exact spots_pack l hf
  have he : ents p = l := by unfold ents; rw [hs, spotsOf_ents]
  rw [he]
  exact ⟨hf, hb, hs⟩
theorem ok_str {l : List Ent} (h : Fine l) : ok (strOfNums (packB l)) = true ∧ ents (strOfNums (packB l)) = l := by
  unfold ok ents
  rw [bytesOf_strOf (packB_bytes h)]
  exact ⟨ok_pack l h, by rw [spots_pack l h, spotsOf_ents]⟩
theorem ents_spots (p : ByteArray) : (spots (bytesOf p)).length = (ents p).length := by simp [ents]

def zE : Ent := (⟨#[]⟩, 0)
def zS : Spot := (zE, 0, 0)
/-- The spot of a place. -/
def spotAtS (p : ByteArray) (i : Int) : Spot × Int := if ok p = false then (zS, 50) else if i < 0 ∨ ((ents p).length : Int) ≤ i then (zS, 2) else ((spots (bytesOf p))[i.toNat]?.getD zS, 0)
def getS (p : ByteArray) (i : Int) : Ent × Int := ((spotAtS p i).1.1, (spotAtS p i).2)

set_option maxHeartbeats 400000 in
theorem right_any (p : ByteArray) (hp : p.size ≤ 1000000) (w : World) : Calls Try.prog 18 #[.string p] w fun e w' => e = .returned (.bool (ok p)) ∧ Below w.heap.size w w' := by
  have hall := all_any p hp
  unfold AllPost at hall
  go_enter Try.func18, Try.ntmps18
  go_wp2_with fail
  refine (hall _).mono ?_
  rintro e w1 ⟨⟨v, i, rfl, h⟩, hb1⟩
  rcases h with ⟨hok, rfl, hrow⟩ | ⟨hok, rfl, rfl⟩
  · have HO := Lib.hid (show ok p = true from hok)
    obtain ⟨A, c, rfl⟩ := own_slice hrow
    clear hok hrow
    go_wp2_with fail
    go_ret
    exact ⟨by rw [HO.out]; rfl, hb1⟩
  · have HO := Lib.hid (show ok p = false from hok)
    clear hok
    go_wp2_with fail
    go_ret
    exact ⟨by rw [HO.out]; rfl, hb1⟩

set_option maxHeartbeats 400000 in
theorem new_any (w : World) : Calls Try.prog 22 #[] w fun e w' => e = .returned (.string (strOfNums (packB []))) ∧ Below w.heap.size w w' := by
  go_enter Try.func22, Try.ntmps22
  go_wp2_with fail
  refine (head_any 0 (by omega) _).mono ?_
  rintro e w1 ⟨rfl, hw1⟩
  have hrow : Row w1 w.heap.size [0, 0] := by rw [← hw1]; show (w.heap.push _)[w.heap.size]? = _; simp [nums]
  have hB1 : Below w.heap.size w w1 := by rw [← hw1]; exact (Below.refl _ _).alloc (Nat.le_refl _) _
  have hown := row_owned (base := w.heap.size) hrow (n := 2) rfl (Nat.le_refl _) (by unfold maxLen; omega)
  have hcv := own_string (P := Try.prog) (src := 48) (dst := 9) Try.underlying48 Try.underlying5 Try.underlying9 hown
  clear hown hw1
  go_wp2_with fail
  go_ret
  exact ⟨rfl, hB1⟩

theorem below4 {w w1 : World} {B : Nat} (h : Below w.heap.size w w1) (hB : w.heap.size ≤ B) (a b c d : Value) : Below w.heap.size w ((((w1.setCell ⟨B, 0, none⟩ a).setCell ⟨B, 1, none⟩ b).setCell ⟨B, 2, none⟩ c).setCell ⟨B, 3, none⟩ d) :=
  (((h.setCell (p := ⟨B, 0, none⟩) hB a).setCell (p := ⟨B, 1, none⟩) hB b).setCell (p := ⟨B, 2, none⟩) hB c).setCell (p := ⟨B, 3, none⟩) hB d
/-- What spotAt tells. -/
def SpotPost (s : Spot × Int) (w : World) (e : Ending) (w' : World) : Prop :=
  e = .returned (.tuple #[.agg #[.string s.1.1.1, .int .i64 s.1.1.2, .int .i64 s.1.2.1, .int .i64 s.1.2.2], .int .i64 s.2]) ∧ Below w.heap.size w w'

set_option maxHeartbeats 1000000 in
theorem spotAt_any (p : ByteArray) (hp : p.size ≤ 1000000) (i : Int) (w : World) : Calls Try.prog 35 #[.string p, .int .i64 i] w (SpotPost (spotAtS p i) w) := by
  have hall := all_any p hp
  have hN := spots_small p hp
  have hlen := ents_spots p
  have hS : ∃ s, spotAtS p i = s := ⟨_, rfl⟩
  obtain ⟨s, hs⟩ := hS
  rw [hs]
  unfold spotAtS at hs
  rw [← hlen] at hs
  obtain ⟨sp, hsp⟩ : ∃ sp, spots (bytesOf p) = sp := ⟨_, rfl⟩
  unfold AllPost at hall
  simp only [hsp] at hall hN hs
  have hk : okB (bytesOf p) = ok p := rfl
  rw [hk] at hall
  clear hsp hlen hk
  have HS := Lib.hid hs
  have HB := Lib.hid ((Below.refl w.heap.size w).alloc (Nat.le_refl _) (.cells #[.string ⟨#[]⟩, .int .i64 0, .int .i64 0, .int .i64 0] 56))
  clear hs
  go_enter Try.func35, Try.ntmps35
  go_wp2_with fail
  refine (hall _).mono ?_
  rintro e w1 ⟨⟨v, ie, rfl, h⟩, hb1⟩
  have hz1 := hb1.size
  rw [World.size_alloc] at hz1
  have hbx : Box4 w1 w.heap.size 56 [.string ⟨#[]⟩, .int .i64 0, .int .i64 0, .int .i64 0] := (hb1.block _ (by simp)).trans (Box4.new w 56 _)
  have hf0 : w1.frozen? ⟨w.heap.size, 0, none⟩ = false := by simp [World.frozen?, show w1.heap[w.heap.size]? = _ from hbx]
  have hf1 : w1.frozen? ⟨w.heap.size, 1, none⟩ = false := by simp [World.frozen?, show w1.heap[w.heap.size]? = _ from hbx]
  have hf2 : w1.frozen? ⟨w.heap.size, 2, none⟩ = false := by simp [World.frozen?, show w1.heap[w.heap.size]? = _ from hbx]
  have hf3 : w1.frozen? ⟨w.heap.size, 3, none⟩ = false := by simp [World.frozen?, show w1.heap[w.heap.size]? = _ from hbx]
  have hc0 := hbx.cell 0 (by simp)
  have hc1 := hbx.cell 1 (by simp)
  have hc2 := hbx.cell 2 (by simp)
  have hc3 := hbx.cell 3 (by simp)
  simp only [List.getElem_cons_zero, List.getElem_cons_succ] at hc0 hc1 hc2 hc3
  have HB1 := Lib.hid (HB.out.trans (hb1.mono (by simp)))
  clear hbx hb1
  rcases h with ⟨hok, rfl, hrow⟩ | ⟨hok, rfl, rfl⟩
  · by_cases hin : i < 0 ∨ (sp.length : Int) ≤ i
    · have HE := Lib.hid HS.out.symm
      rw [hok, if_neg (by simp), if_pos hin] at HE
      obtain ⟨A, c, rfl⟩ := own_slice hrow
      clear hrow hok HS
      rcases hin with hin | hin
      · go_wp2_with fail
        refine bodyPost_ret (v := .tuple #[.agg #[.string s.1.1.1, .int .i64 s.1.1.2, .int .i64 s.1.2.1, .int .i64 s.1.2.2], .int .i64 s.2]) (by simp [results, Try.results35, go_sem, hc0, hc1, hc2, hc3, HE.out, zS, zE]) rfl ⟨rfl, below4 HB1.out (Nat.le_refl _) _ _ _ _⟩
      · have h0 : 0 ≤ i ∨ i < 0 := by omega
        rcases h0 with h0 | h0
        · go_wp2_with fail
          refine bodyPost_ret (v := .tuple #[.agg #[.string s.1.1.1, .int .i64 s.1.1.2, .int .i64 s.1.2.1, .int .i64 s.1.2.2], .int .i64 s.2]) (by simp [results, Try.results35, go_sem, hc0, hc1, hc2, hc3, HE.out, zS, zE]) rfl ⟨rfl, below4 HB1.out (Nat.le_refl _) _ _ _ _⟩
        · omega
    · obtain ⟨k, rfl⟩ : ∃ k : Nat, i = k := ⟨i.toNat, by omega⟩
      have hk : k < sp.length := by omega
      obtain ⟨g, cap, hvv⟩ := own_at hrow (by omega)
      subst hvv
      obtain ⟨x, hx, d0, d1, d2, d3⟩ := spot_at hrow k hk (Below.refl w1.heap.size w1) (hrow.lt g rfl).2
      have HE := Lib.hid HS.out.symm
      rw [hok, if_neg (by simp), if_neg hin, Int.toNat_natCast, List.getElem?_eq_getElem hk, hx] at HE
      clear hrow hok HS hin hx
      go_wp2_with fail
      refine bodyPost_ret (v := .tuple #[.agg #[.string s.1.1.1, .int .i64 s.1.1.2, .int .i64 s.1.2.1, .int .i64 s.1.2.2], .int .i64 s.2]) (by simp [results, Try.results35, go_sem, hc0, hc1, hc2, hc3, HE.out]) rfl ⟨rfl, below4 HB1.out (Nat.le_refl _) _ _ _ _⟩
  · have HE := Lib.hid HS.out.symm
    rw [hok, if_pos rfl] at HE
    clear hok HS
    go_wp2_with fail
    refine bodyPost_ret (v := .tuple #[.agg #[.string s.1.1.1, .int .i64 s.1.1.2, .int .i64 s.1.2.1, .int .i64 s.1.2.2], .int .i64 s.2]) (by simp [results, Try.results35, go_sem, hc0, hc1, hc2, hc3, HE.out, zS, zE]) rfl ⟨rfl, below4 HB1.out (Nat.le_refl _) _ _ _ _⟩

theorem Box4.set {W : World} {B : Nat} {t : TypeId} {cs : List Value} (h : Box4 W B t cs) (j : Nat) (v : Value) : Box4 (W.setCell ⟨B, j, none⟩ v) B t (cs.set j v) := by
  obtain ⟨hlt, hk⟩ := Array.getElem?_eq_some_iff.1 h
  show (W.heap.modify B _)[B]? = _
  rw [Array.getElem?_eq_getElem (by rw [Array.size_modify]; exact hlt), Array.getElem_modify_self, hk]
  simp
theorem Box4.alloc {W : World} {B : Nat} {t : TypeId} {cs : List Value} (h : Box4 W B t cs) (o : Obj) : Box4 (W.alloc o) B t cs := (Below.heap_alloc W o B h.lt).trans h

set_option maxHeartbeats 1000000 in
theorem get_any (p : ByteArray) (hp : p.size ≤ 1000000) (i : Int) (w : World) :
    Calls Try.prog 25 #[.string p, .int .i64 i] w fun e w' => e = .returned (.tuple #[.agg #[.string (getS p i).1.1, .int .i64 (getS p i).1.2], .int .i64 (getS p i).2]) ∧ Below w.heap.size w w' := by
  have hs := spotAt_any p hp i
  unfold getS
  obtain ⟨s, hS⟩ : ∃ s, spotAtS p i = s := ⟨_, rfl⟩
  rw [hS] at hs ⊢
  obtain ⟨⟨⟨m, sc⟩, f, t⟩, er⟩ := s
  dsimp only
  clear hS
  have HB := Lib.hid ((Below.refl w.heap.size w).alloc (Nat.le_refl _) (.cells #[.string ⟨#[]⟩, .int .i64 0] 35))
  go_enter Try.func25, Try.ntmps25
  go_wp2_with fail
  refine (hs _).mono ?_
  rintro e w1 ⟨rfl, hb1⟩
  have hz1 := hb1.size
  rw [World.size_alloc] at hz1
  have hbx : Box4 w1 w.heap.size 35 [.string ⟨#[]⟩, .int .i64 0] := (hb1.block _ (by simp)).trans (Box4.new w 35 _)
  have hf0 : w1.frozen? ⟨w.heap.size, 0, none⟩ = false := by simp [World.frozen?, show w1.heap[w.heap.size]? = _ from hbx]
  have hf1 : w1.frozen? ⟨w.heap.size, 1, none⟩ = false := by simp [World.frozen?, show w1.heap[w.heap.size]? = _ from hbx]
  have hc0 := hbx.cell 0 (by simp)
  have hc1 := hbx.cell 1 (by simp)
  simp only [List.getElem_cons_zero, List.getElem_cons_succ] at hc0 hc1
  have hb2 := ((hbx.set 0 (.string m)).set 1 (.int .i64 sc)).alloc (.cells #[.string m, .int .i64 sc, .int .i64 f, .int .i64 t] 56)
  have g0 := hb2.cell 0 (by simp)
  have g1 := hb2.cell 1 (by simp)
  simp only [List.set_cons_zero, List.set_cons_succ, List.getElem_cons_zero, List.getElem_cons_succ] at g0 g1
  have HB1 := Lib.hid (HB.out.trans (hb1.mono (by simp)))
  have hlt : w.heap.size < w1.heap.size := by omega
  clear hbx hb1 hb2
  go_wp2_with fail
  refine bodyPost_ret (v := .tuple #[.agg #[.string m, .int .i64 sc], .int .i64 er]) (by simp [results, Try.results25, go_sem, g0, g1]) rfl ⟨rfl, ?_⟩
  exact ((HB1.out.setCell (p := ⟨w.heap.size, 0, none⟩) (Nat.le_refl _) _).setCell (p := ⟨w.heap.size, 1, none⟩) (Nat.le_refl _) _).alloc (by simp; omega) _

end Go.Proofs.Ytcjjeookfnmjcaa
