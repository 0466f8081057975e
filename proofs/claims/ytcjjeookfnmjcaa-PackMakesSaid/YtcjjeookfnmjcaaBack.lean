import Derived.Test.YtcjjeookfnmjcaaInsert
namespace Go.Proofs.Ytcjjeookfnmjcaa
open Go.RowKit Go.Proofs.YtcjjeookfnmjcaaW.PrintWords
set_option linter.unusedVariables false

theorem upTo_succ (l : List Ent) (j : Nat) (h : j < l.length) : upTo l (j + 1) = upTo l j + ((l[j]'h).1.size + 10) := by
  unfold upTo
  rw [List.take_succ_eq_append_getElem h, List.flatMap_append, List.length_append]
  simp [entB_length]
theorem drop_at (p : ByteArray) (l : List Ent) (hb : bytesOf p = packB l) (j : Nat) (h : j < l.length) : (bytesOf p).drop (2 + upTo l j) = entB (l[j]'h) ++ (l.drop (j + 1)).flatMap entB := by
  rw [hb, pack_drop, List.drop_eq_getElem_cons h, List.flatMap_cons]
theorem read_at (p : ByteArray) (l : List Ent) (hf : Fine l) (hb : bytesOf p = packB l) (j : Nat) (h : j < l.length) : readS p (2 + upTo l j) = (l[j]'h, ((l[j]'h).1.size : Int) + 10) :=
  readS_some (by rw [drop_at p l hb j h]; exact hd_ent _ (hf.2 _ (List.getElem_mem h)) _)
theorem back_byte (p : ByteArray) (l : List Ent) (hb : bytesOf p = packB l) (j : Nat) (h : j < l.length) : byteN p (2 + upTo l j + ((l[j]'h).1.size + 9)) = ((l[j]'h).1.size : Int) + 9 := by
  unfold byteN
  have h1 := drop_at p l hb j h
  have h2 : (bytesOf p)[2 + upTo l j + ((l[j]'h).1.size + 9)]? = ((bytesOf p).drop (2 + upTo l j))[(l[j]'h).1.size + 9]? := by rw [List.getElem?_drop]
  rw [h2, h1, List.getElem?_append_left (by rw [entB_length]; omega)]
  unfold entB
  rw [List.getElem?_cons_succ, List.getElem?_append_right (by rw [bytesOf_length]; omega), bytesOf_length, show (l[j]'h).1.size + 8 - (l[j]'h).1.size = 8 by omega]
  rfl

set_option maxHeartbeats 1000000 in
theorem back_any (p : ByteArray) (hp : p.size ≤ 1000000) (w : World) : Calls Try.prog 19 #[.string p] w (EntsPost (ok p) (ents p).reverse w) := by
  obtain ⟨i0, hi, hz0, hz1, hz2⟩ := info_parts info35
  by_cases hok : ok p = true
  · obtain ⟨hf, hb, hs⟩ := ok_spec hok
    have hz := okLen hok
    have hrb := right_any p hp
    rw [hok] at hrb ⊢
    obtain ⟨l, hl⟩ : ∃ l, ents p = l := ⟨_, rfl⟩
    rw [hl] at hf hb hz ⊢
    have hn := hf.1
    have HZ : Hid ((p.size : Int) = ((2 + upTo l l.length : Nat) : Int)) := Lib.hid (by rw [hz, upTo, List.take_of_length_le (Nat.le_refl _)])
    have HU := Lib.hid (upTo_le l)
    have HP := Lib.hid hz
    have HRA := Lib.hid (fun j h => read_at p l hf hb j h)
    have HBB := Lib.hid (fun j h => back_byte p l hb j h)
    have HUS := Lib.hid (fun j h => upTo_succ l j h)
    have HSM := Lib.hid (fun j (h : j < l.length) => (hf.2 _ (List.getElem_mem h)).1)
    clear hs hz hl hok hf hb
    go_enter Try.func19, Try.ntmps19
    go_wp2_with fail
    refine (hrb _).mono ?_
    rintro e w1 ⟨rfl, hb1⟩
    have hzw := hb1.size
    go_wp2_with fail
    go_loopw [4, 5, 6, 7] (fun v a _ _ wr => ∃ j : Nat, j ≤ l.length ∧ a = .int .i64 ((2 + upTo l j : Nat) : Int) ∧ wr.ownsRow w1.heap.size 35 2 v (l.length - j) ((l.drop j).reverse.flatMap entC) ∧ Below w1.heap.size w1 wr) (fun _ a _ _ _ => (intOf a).toNat)
    case atStart => exact ⟨l.length, Nat.le_refl _, by rw [HZ.out], by rw [Nat.sub_self, List.drop_length]; exact World.ownsRow_nil _ _ _ _, Below.refl _ _⟩
    case round =>
      obtain ⟨j, hj, rfl, hro, hB⟩ := hrel
      have HQ := Lib.hid hro
      have hzr := hB.size
      obtain ⟨A4, c4, hv4⟩ := own_slice hro
      clear hro
      cases j with
      | zero =>
        have hu0 : upTo l 0 = 0 := by simp [upTo]
        have hroE := HQ.out
        rw [Nat.sub_zero, List.drop_zero] at hroE
        rw [hu0]
        go_wp2_with fail
        go_ret2
        refine ⟨⟨_, _, rfl, .inl ⟨rfl, rfl, ?_⟩⟩, hb1.trans (hB.mono hb1.size)⟩
        have := own_mono hroE hb1.size
        simpa using this
      | succ j =>
        have hjl : j < l.length := by omega
        have hus := HUS.out j hjl
        have hra := HRA.out j hjl
        have hbb := HBB.out j hjl
        have hsm := HSM.out j hjl
        have hule : 2 + upTo l (j + 1) ≤ p.size := by have := HU.out (j + 1); have := HP.out; omega
        obtain ⟨x, hx⟩ : ∃ x, l[j]'hjl = x := ⟨_, rfl⟩
        rw [hx] at hus hra hbb hsm
        have HX := Lib.hid hx
        obtain ⟨ms, sc⟩ := x
        dsimp only at hus hra hbb hsm
        rw [hus]
        obtain ⟨o, ho⟩ : ∃ o, upTo l j = o := ⟨_, rfl⟩
        rw [hus, ho] at hule
        rw [ho] at hra hbb ⊢
        have hix := ix_nat p (2 + o + (ms.size + 9)) (ms.size + 9) (2 + ((o : Int) + ((ms.size : Int) + 10)) - 1) (by omega) (by omega) hbb
        clear hbb hus hx
        have hr2 := read_any p (2 + o) hp (by omega)
        rw [hra] at hr2
        go_wp2_with fail
        rw [show (2 + ((o : Int) + ((ms.size : Int) + 10)) - ((ms.size : Int) + 9 + 1) : Int) = ((2 + o : Nat) : Int) by omega]
        refine (hr2 _).mono ?_
        rintro e w5 ⟨rfl, hb5⟩
        dsimp only
        have HO5 := own_later HQ.out hb5
        rw [hv4] at HO5
        have hB5 := hB.trans (hb5.mono hzr)
        have hz5 := hb5.size
        have hcn := cells_new (w5.alloc (.cells #[.string ms, .int .i64 sc] 35)) 35 (entC (ms, sc))
        rw [World.size_alloc] at hcn
        have HCN := Lib.hid hcn
        have HBa := Lib.hid ((hB5.alloc (by omega) (.cells #[.string ms, .int .i64 sc] 35)).alloc (by simp; omega) (.cells #[.string ms, .int .i64 sc] 35))
        have hsz : w1.heap.size ≤ ((w5.alloc (.cells #[.string ms, .int .i64 sc] 35)).alloc (.cells #[.string ms, .int .i64 sc] 35)).heap.size := by simp; omega
        clear hcn
        go_wp2_with (at_builtin; refine wpList_append_own _ rfl _ _ 22 rfl w1.heap.size 35 i0 _ 2 24 Try.underlying22 hi hz0 hz1 hz2 rfl (by decide) _ _ _ rfl ((HO5.alloc _).alloc _) ⟨w5.heap.size + 1, 0, none⟩ 1 1 (entC (ms, sc)) rfl rfl HCN.out (by simp [entC, Value.oneCell']) (by unfold maxLen; omega) (by omega) hsz ?_; intro v6 w6 hO6 hG6 _)
        have hB6 := HBa.out.grown hG6 hsz (fun b e => (HO5.lt b e).1)
        clear hG6
        go_roundw
        case rel =>
          refine ⟨j, by omega, by rw [ho]; go_num, ?_, hB6⟩
          have hd : (l.drop j).reverse.flatMap entC = (l.drop (j + 1)).reverse.flatMap entC ++ entC (ms, sc) := by
            rw [List.drop_eq_getElem_cons hjl, HX.out]; simp
          rw [hd, show l.length - j = l.length - (j + 1) + 1 by omega]
          exact hO6
        case measure => simp [intOf]; omega
  · replace hok : ok p = false := by simpa using hok
    have hrb := right_any p hp
    rw [hok] at hrb ⊢
    go_enter Try.func19, Try.ntmps19
    go_wp2_with fail
    refine (hrb _).mono ?_
    rintro e w1 ⟨rfl, hb1⟩
    go_wp2_with fail
    go_ret2
    exact ⟨⟨_, _, rfl, .inr ⟨rfl, rfl, rfl⟩⟩, hb1⟩

end Go.Proofs.Ytcjjeookfnmjcaa
