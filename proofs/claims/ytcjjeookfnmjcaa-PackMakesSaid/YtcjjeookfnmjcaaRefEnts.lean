import Derived.Test.YtcjjeookfnmjcaaFinds
import Derived.BigQuiet
namespace Go.Proofs.Ytcjjeookfnmjcaa
open Go.RowKit Go.Proofs.YtcjjeookfnmjcaaW.PrintWords
set_option linter.unusedVariables false

/-! ### The document's reading of a pack -/
/-- Between two rounds: what is left to read, and the entries so far. -/
def EI (p : ByteArray) (k : Nat) (r : ByteArray) (es : List Ent) : Prop :=
  ∃ (pre : List Spot) (f : Nat), spots (bytesOf p) = pre ++ walkS f (bytesOf r) (endOf 2 pre) ∧ pre.length = k ∧ r.size ≤ f ∧ endOf 2 pre + r.size = p.size ∧ es = pre.map (·.1)

theorem bytesOf_tail (p : ByteArray) (a : Nat) : bytesOf (p.extract a p.size) = (bytesOf p).drop a := by
  rw [bytesOf_extract, List.take_of_length_le]
  rw [List.length_drop, bytesOf_length]
  omega
theorem EI.start {p : ByteArray} (h : 2 ≤ p.size) : EI p 0 (p.extract 2 p.size) [] := by
  refine ⟨[], p.size, ?_, rfl, ?_, ?_, rfl⟩
  · rw [bytesOf_tail, List.nil_append]
    unfold spots
    rw [bytesOf_length]
    rfl
  · rw [ByteArray.size_extract]; omega
  · show 2 + _ = _
    rw [ByteArray.size_extract]; omega
theorem EI.small {p : ByteArray} {k : Nat} {r : ByteArray} {es : List Ent} (h : EI p k r es) : r.size ≤ p.size := by
  obtain ⟨pre, f, _, _, _, h4, _⟩ := h; omega
theorem EI.len {p : ByteArray} {k : Nat} {r : ByteArray} {es : List Ent} (h : EI p k r es) : es.length = k := by
  obtain ⟨pre, f, _, h2, _, _, rfl⟩ := h; simpa using h2
theorem head_yes (r : ByteArray) (n : Nat) (hn : byteN r 0 = n) (h1 : n ≤ 64) (h2 : 9 + n < r.size) (h3 : byteN r (9 + n) = n + 9) :
    hd (bytesOf r) = some (r.extract 1 (1 + n), wrap64 (val (((bytesOf r).drop (1 + n)).take 8))) := by
  have h := hd_drop r 0 (by omega)
  simp only [List.drop_zero, hn, Int.toNat_natCast, Nat.zero_add] at h
  rw [h, if_pos ⟨by omega, h2, h3⟩]
theorem head_no (r : ByteArray) (n : Nat) (h0 : 0 < r.size) (hn : byteN r 0 = n) (h : ¬ (n ≤ 64 ∧ 9 + n < r.size ∧ byteN r (9 + n) = n + 9)) : hd (bytesOf r) = none := by
  have h' := hd_drop r 0 (by omega)
  simp only [List.drop_zero, hn, Int.toNat_natCast, Nat.zero_add] at h'
  rw [h', if_neg (by rintro ⟨a, b, c⟩; exact h ⟨by omega, b, c⟩)]
theorem head_nil (r : ByteArray) (h : r.size = 0) : hd (bytesOf r) = none := by
  have : bytesOf r = [] := List.eq_nil_of_length_eq_zero (by rw [bytesOf_length]; exact h)
  rw [this]; rfl
theorem walkS_none {f : Nat} {l : List Int} {o : Nat} (h : hd l = none) : walkS f l o = [] := by cases f <;> simp [walkS, h]
theorem EI.step {p : ByteArray} {k : Nat} {r : ByteArray} {es : List Ent} (h : EI p k r es) (n : Nat) (e : Ent) (he : hd (bytesOf r) = some e) (hs : e.1.size = n) (hn : n + 10 ≤ r.size) : EI p (k + 1) (r.extract (n + 10) r.size) (es ++ [e]) := by
  obtain ⟨pre, f, h1, h2, h3, h4, rfl⟩ := h
  obtain ⟨f, rfl⟩ : ∃ j, f = j + 1 := ⟨f - 1, by omega⟩
  refine ⟨pre ++ [(e, endOf 2 pre, endOf 2 pre + (n + 10))], f, ?_, by simp [h2], by rw [ByteArray.size_extract]; omega, ?_, by simp⟩
  · rw [h1]
    have : endOf 2 (pre ++ [(e, endOf 2 pre, endOf 2 pre + (n + 10))]) = endOf 2 pre + (n + 10) := by simp [endOf]
    rw [this, bytesOf_tail]
    simp only [walkS, he, hs, List.append_assoc, List.cons_append, List.nil_append]
  · have : endOf 2 (pre ++ [(e, endOf 2 pre, endOf 2 pre + (n + 10))]) = endOf 2 pre + (n + 10) := by simp [endOf]
    rw [this, ByteArray.size_extract]; omega
theorem EI.stop {p : ByteArray} {k : Nat} {r : ByteArray} {es : List Ent} (h : EI p k r es) (he : hd (bytesOf r) = none) (N : Nat) (hN : countOf (bytesOf p) = N) (hk : k < N) : okB (bytesOf p) = false := by
  obtain ⟨pre, f, h1, h2, h3, h4, rfl⟩ := h
  unfold okB
  rw [h1, walkS_none he, hN, List.append_nil, h2]
  have : decide ((N : Int) = k) = false := by simp; omega
  rw [this]; simp
theorem EI.full {p : ByteArray} {k : Nat} {r : ByteArray} {es : List Ent} (h : EI p k r es) (hN : countOf (bytesOf p) = k) (hr : r.size = 0) : okB (bytesOf p) = true ∧ (spots (bytesOf p)).map (·.1) = es := by
  obtain ⟨pre, f, h1, h2, h3, h4, rfl⟩ := h
  rw [walkS_none (head_nil r hr), List.append_nil] at h1
  unfold okB
  rw [h1, hN, h2, bytesOf_length]
  simp; omega
theorem EI.more {p : ByteArray} {k : Nat} {r : ByteArray} {es : List Ent} (h : EI p k r es) (hN : countOf (bytesOf p) = k) (hr : 0 < r.size) : okB (bytesOf p) = false := by
  obtain ⟨pre, f, h1, h2, h3, h4, rfl⟩ := h
  unfold okB
  rw [hN, h1, bytesOf_length]
  by_cases hw : walkS f (bytesOf r) (endOf 2 pre) = []
  · rw [hw, List.append_nil]
    have : decide (endOf 2 pre = p.size) = false := by simp; omega
    rw [this]; simp
  · have : 0 < (walkS f (bytesOf r) (endOf 2 pre)).length := List.length_pos_iff.2 hw
    have : decide ((k : Int) = (pre ++ walkS f (bytesOf r) (endOf 2 pre)).length) = false := by simp [h2]; omega
    rw [this]; simp
theorem ok_short {p : ByteArray} (h : p.size < 2) : okB (bytesOf p) = false := by
  unfold okB; rw [countOf_short h]; simp
theorem ok_many {p : ByteArray} (h : ¬ p.size < 2) (h2 : ¬ byteN p 0 * 256 + byteN p 1 ≤ 200) : okB (bytesOf p) = false := by
  unfold okB; rw [countOf_long h, if_neg h2]; simp

theorem full_ne2 {r : ByteArray} (h : 0 < r.size) : ¬ r.toList = [] := by
  intro e
  rw [ByteArray.toList_eq] at e
  have := data_length r
  rw [e] at this
  simp at this; omega
theorem full_ne {r : ByteArray} (h : 0 < r.size) : r.toList.isEmpty = false := by
  rw [List.isEmpty_eq_false_iff]; exact full_ne2 h

set_option maxHeartbeats 2000000 in
theorem refEnts_any (p : ByteArray) (hp : p.size ≤ 1000000) (w : World) : Calls Try.prog 16 #[.string p] w (EntsPost (okB (bytesOf p)) ((spots (bytesOf p)).map (·.1)) w) := by
  obtain ⟨i0, hi, hz0, hz1, hz2⟩ := info_parts info35
  by_cases h : p.size < 2
  · have HO := Lib.hid (ok_short h)
    go_enter Try.func16, Try.ntmps16
    go_wp2_with fail
    go_ret2
    exact ⟨⟨_, _, rfl, .inr ⟨HO.out, rfl, rfl⟩⟩, Below.refl _ _⟩
  · obtain ⟨a, ha⟩ : ∃ a, byteN p 0 = a := ⟨_, rfl⟩
    obtain ⟨b, hb⟩ : ∃ b, byteN p 1 = b := ⟨_, rfl⟩
    have hx0 := ix_nat p 0 a 0 rfl (by omega) ha
    have hx1 := ix_nat p 1 b 1 rfl (by omega) hb
    have ra := byteN_range p 0
    have rb := byteN_range p 1
    rw [ha] at ra
    rw [hb] at rb
    by_cases h200 : 256 * a + b ≤ 200
    · obtain ⟨N, hN⟩ : ∃ N : Nat, 256 * a + b = N := ⟨(256 * a + b).toNat, by omega⟩
      have HC := Lib.hid (show countOf (bytesOf p) = N by rw [countOf_long h, ha, hb, if_pos (by omega)]; omega)
      have HN := Lib.hid hN
      have HE := Lib.hid (EI.start (show 2 ≤ p.size by omega))
      have hN2 : N ≤ 200 := by omega
      clear hN ha hb
      go_enter Try.func16, Try.ntmps16
      go_wp2_with fail
      go_quiet (fail)
      go_wp2_with fail
      rw [HN.out]
      generalize hwq : w.drewN nq = w1
      have hB1 : Below w.heap.size w w1 := by rw [← hwq]; exact below_drewN (Below.refl _ _) _
      have hz1' := hB1.size
      clear hwq ra rb hx0 hx1 h200
      go_loopw [5, 6, 7, 8, 9, 10] (fun v r i _ _ _ wr => ∃ (k : Nat) (q : ByteArray) (es : List Ent), k ≤ N ∧ i = .int .i64 k ∧ r = .string q ∧ EI p k q es ∧ wr.ownsRow w1.heap.size 35 2 v k (es.flatMap entC) ∧ Below w1.heap.size w1 wr) (fun _ _ i _ _ _ _ => N - (intOf i).toNat)
      case atStart => exact ⟨0, _, [], by omega, rfl, rfl, HE.out, World.ownsRow_nil _ _ _ _, Below.refl _ _⟩
      case round =>
        obtain ⟨k, r, es, hk, rfl, rfl, he, hro, hB⟩ := hrel
        have HI := Lib.hid he
        have hzr := hB.size
        have hrs := he.small
        obtain ⟨A4, c4, rfl⟩ := own_slice hro
        have HQ := Lib.hid hro
        clear he hro
        by_cases hlt : k < N
        · by_cases hr0 : r.size = 0
          · obtain rfl : r = ⟨#[]⟩ := by
              have : bytesOf r = bytesOf ⟨#[]⟩ := List.eq_nil_of_length_eq_zero (by rw [bytesOf_length]; exact hr0)
              exact bytesOf_inj this
            have HO := Lib.hid (HI.out.stop (head_nil _ hr0) N HC.out hlt)
            clear hr0
            go_wp2_with fail
            go_ret2
            exact ⟨⟨_, _, rfl, .inr ⟨HO.out, rfl, rfl⟩⟩, hB1.trans (hB.mono hz1')⟩
          · have hne : r.toList.isEmpty = false := full_ne (by omega)
            have hne2 : ¬ r.toList = [] := full_ne2 (by omega)
            obtain ⟨m, hm⟩ : ∃ m : Nat, byteN r 0 = m := ⟨(byteN r 0).toNat, by have := byteN_range r 0; omega⟩
            have hmr := byteN_range r 0
            rw [hm] at hmr
            have hy0 := ix_nat r 0 m 0 rfl (by omega) hm
            by_cases h64 : m ≤ 64
            · by_cases hend : 9 + m < r.size
              · obtain ⟨x, hx⟩ : ∃ x : Nat, byteN r (9 + m) = x := ⟨(byteN r (9 + m)).toNat, by have := byteN_range r (9 + m); omega⟩
                have hy1 := ix_nat r (9 + m) x ((m : Int) + 9) (by omega) hend hx
                have hxr := byteN_range r (9 + m)
                rw [hx] at hxr
                by_cases hback : x = m + 9
                · have hhd := head_yes r m hm h64 hend (by rw [hx, hback]; simp)
                  have HS := Lib.hid (HI.out.step m _ hhd (by show (r.extract 1 (1 + m)).size = m; rw [ByteArray.size_extract]; omega) (by omega))
                  have hbk : ((x : Int) != (m : Int) + 9) = false := by simp; omega
                  clear hm hx hback hhd
                  go_wp2_with fail
                  obtain ⟨wo, rfl⟩ : ∃ wo : World, wo = wr := ⟨_, rfl⟩
                  go_loopw [9, 10] (fun u i wr => ∃ j : Nat, j ≤ 8 ∧ i = .int .i64 j ∧ u = .int .u64 (val (((bytesOf r).drop (1 + m)).take j)) ∧ wr = wo) (fun _ i _ => 8 - (intOf i).toNat)
                  case atStart => exact ⟨0, by omega, rfl, rfl, rfl⟩
                  case round =>
                    obtain ⟨j, hj, rfl, rfl, rfl⟩ := hrel
                    by_cases hjl : j < 8
                    · obtain ⟨y, hy⟩ : ∃ y, byteN r (1 + m + j) = y := ⟨_, rfl⟩
                      have hx3 := ix_nat r (1 + m + j) y ((1 : Int) + m + j) (by omega) (by omega) hy
                      have hyr := byteN_range r (1 + m + j)
                      rw [hy] at hyr
                      go_wp2_with fail
                      go_roundw
                      case rel =>
                        refine ⟨j + 1, by omega, by go_num, ?_, True.intro⟩
                        have hv := val_bound r (1 + m) j (by omega)
                        have hpw : ((256 ^ j : Nat) : Int) ≤ 72057594037927936 := by
                          have : 256 ^ j ≤ 256 ^ 7 := Nat.pow_le_pow_right (by omega) (by omega)
                          omega
                        rw [or_step _ y hv.1 (by omega) hyr, val_take r (1 + m) j (by omega), hy]
                      case measure => simp [intOf]; omega
                    · obtain rfl : j = 8 := by omega
                      obtain ⟨em, hem⟩ : ∃ em, r.extract 1 (1 + m) = em := ⟨_, rfl⟩
                      obtain ⟨es', hes⟩ : ∃ es', wrap64 (val (((bytesOf r).drop (1 + m)).take 8)) = es' := ⟨_, rfl⟩
                      rw [hem, hes] at HS
                      have hcn := cells_new wr 35 (entC (em, es'))
                      have HCN := Lib.hid hcn
                      have hsz : w1.heap.size ≤ (wr.alloc (.cells #[.string em, .int .i64 es'] 35)).heap.size := by simp; omega
                      have HBa := Lib.hid (hB.alloc hzr (.cells #[.string em, .int .i64 es'] 35))
                      clear hcn
                      go_wp2_with (at_builtin; refine wpList_append_own _ rfl _ _ 22 rfl w1.heap.size 35 i0 _ 2 24 Try.underlying22 hi hz0 hz1 hz2 rfl (by decide) _ _ _ rfl (HQ.out.alloc _) ⟨wr.heap.size, 0, none⟩ 1 1 (entC (em, es')) rfl rfl HCN.out (by simp [entC, Value.oneCell']) (by unfold maxLen; omega) (by omega) hsz ?_; intro v6 w6 hO6 hG6 _)
                      have hB6 := HBa.out.grown hG6 hsz (fun b e => (HQ.out.lt b e).1)
                      clear hG6 HCN HBa
                      go_wp2_with fail
                      go_roundw
                      case rel =>
                        refine ⟨k + 1, _, _, by omega, by go_num, rfl, HS.out, ?_, hB6⟩
                        simpa using hO6
                      case measure => simp [intOf]; omega
                · have HO := Lib.hid (HI.out.stop (head_no r m (by omega) hm (by rintro ⟨_, _, c⟩; rw [hx] at c; omega)) N HC.out hlt)
                  have hbk : ((x : Int) != (m : Int) + 9) = true := by simp; omega
                  clear hm hx
                  go_wp2_with fail
                  go_ret2
                  exact ⟨⟨_, _, rfl, .inr ⟨HO.out, rfl, rfl⟩⟩, hB1.trans (hB.mono hz1')⟩
              · have HO := Lib.hid (HI.out.stop (head_no r m (by omega) hm (by rintro ⟨_, c, _⟩; exact hend c)) N HC.out hlt)
                clear hm
                go_wp2_with fail
                go_ret2
                exact ⟨⟨_, _, rfl, .inr ⟨HO.out, rfl, rfl⟩⟩, hB1.trans (hB.mono hz1')⟩
            · have HO := Lib.hid (HI.out.stop (head_no r m (by omega) hm (by rintro ⟨c, _, _⟩; exact h64 c)) N HC.out hlt)
              clear hm
              go_wp2_with fail
              go_ret2
              exact ⟨⟨_, _, rfl, .inr ⟨HO.out, rfl, rfl⟩⟩, hB1.trans (hB.mono hz1')⟩
        · obtain rfl : k = N := by omega
          by_cases hr0 : r.size = 0
          · have HO := Lib.hid (HI.out.full HC.out hr0)
            have HL := Lib.hid HI.out.len
            obtain rfl : r = ⟨#[]⟩ := by
              have : bytesOf r = bytesOf ⟨#[]⟩ := List.eq_nil_of_length_eq_zero (by rw [bytesOf_length]; exact hr0)
              exact bytesOf_inj this
            clear hr0
            go_wp2_with fail
            go_ret2
            refine ⟨⟨_, _, rfl, .inl ⟨HO.out.1, rfl, ?_⟩⟩, hB1.trans (hB.mono hz1')⟩
            rw [HO.out.2, HL.out]
            exact own_mono HQ.out hz1'
          · have hne : r.toList.isEmpty = false := full_ne (by omega)
            have hne2 : ¬ r.toList = [] := full_ne2 (by omega)
            have HO := Lib.hid (HI.out.more HC.out (by omega))
            go_wp2_with fail
            go_ret2
            exact ⟨⟨_, _, rfl, .inr ⟨HO.out, rfl, rfl⟩⟩, hB1.trans (hB.mono hz1')⟩
    · have HO := Lib.hid (ok_many h (by rw [ha, hb]; omega))
      clear ha hb
      go_enter Try.func16, Try.ntmps16
      go_wp2_with fail
      go_quiet (fail)
      go_wp2
      go_ret2
      exact ⟨⟨_, _, rfl, .inr ⟨HO.out, rfl, rfl⟩⟩, below_drewN (Below.refl _ _) _⟩

end Go.Proofs.Ytcjjeookfnmjcaa
