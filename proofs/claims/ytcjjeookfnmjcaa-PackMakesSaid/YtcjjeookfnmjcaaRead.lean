import Derived.Test.YtcjjeookfnmjcaaPack
import Derived.Laws.BitsAllLaws
namespace Go.Proofs.Ytcjjeookfnmjcaa
open Go.RowKit Go.Proofs.YtcjjeookfnmjcaaW.PrintWords
set_option linter.unusedVariables false

/-! ### Bytes of a string -/
def byteN (s : ByteArray) (j : Nat) : Int := (bytesOf s)[j]?.getD 0
theorem byteN_range (s : ByteArray) (j : Nat) : 0 ≤ byteN s j ∧ byteN s j ≤ 255 := by
  unfold byteN
  cases h : (bytesOf s)[j]? with
  | none => simp
  | some b => exact bytesOf_bytes s b (List.mem_of_getElem? h)
theorem ix_str (s : ByteArray) (i : Int) (h0 : 0 ≤ i) (h1 : i < s.size) (wx : World) : (Instr.index 9 (.string s) (.int .i64 i)).run Try.prog wx = .ok (.int .u8 (byteN s i.toNat)) wx := by
  rw [run_index_string wx 9 s .i64 i Try.underlying9, dif_pos ⟨h0, h1⟩]
  have hl : i.toNat < s.data.toList.length := by rw [data_length]; omega
  unfold byteN bytesOf
  rw [List.getElem?_map, List.getElem?_eq_getElem hl]
  simp [ByteArray.getElem_eq_getElem_data]
theorem bytesOf_extract (s : ByteArray) (a b : Nat) : bytesOf (s.extract a b) = ((bytesOf s).drop a).take (b - a) := by
  simp [bytesOf, ByteArray.data_extract]
theorem strOf_sub (s : ByteArray) (a k : Nat) : strOfNums (((bytesOf s).drop a).take k) = s.extract a (a + k) := by
  rw [← strOf_bytesOf (s.extract a (a + k)), bytesOf_extract]; simp

/-- The entry at a place, and its length; 0: there is none. -/
def readS (p : ByteArray) (at_ : Nat) : Ent × Int := match hd ((bytesOf p).drop at_) with | none => ((⟨#[]⟩, 0), 0) | some e => (e, (e.1.size : Int) + 10)

theorem hd_drop (p : ByteArray) (a : Nat) (h : a < p.size) : hd ((bytesOf p).drop a) =
    if byteN p a ≤ 64 ∧ a + 9 + (byteN p a).toNat < p.size ∧ byteN p (a + 9 + (byteN p a).toNat) = byteN p a + 9 then
      some (p.extract (a + 1) (a + 1 + (byteN p a).toNat), wrap64 (val (((bytesOf p).drop (a + 1 + (byteN p a).toNat)).take 8))) else none := by
  have hl : a < (bytesOf p).length := by rw [bytesOf_length]; exact h
  rw [List.drop_eq_getElem_cons hl]
  have hb : (bytesOf p)[a] = byteN p a := by simp [byteN, List.getElem?_eq_getElem hl]
  have hr := byteN_range p a
  rw [hb]
  simp only [hd, List.getElem?_drop, List.drop_drop, List.length_drop, bytesOf_length, strOf_sub]
  have e1 : a + 1 + ((byteN p a).toNat + 8) = a + 9 + (byteN p a).toNat := by omega
  rw [e1]
  have e2 : (bytesOf p)[a + 9 + (byteN p a).toNat]?.getD 0 = byteN p (a + 9 + (byteN p a).toNat) := rfl
  rw [e2]
  by_cases hc : byteN p a ≤ 64 ∧ a + 9 + (byteN p a).toNat < p.size ∧ byteN p (a + 9 + (byteN p a).toNat) = byteN p a + 9
  · rw [if_pos hc, if_pos ⟨hc.1, by omega, hc.2.2⟩]
  · rw [if_neg hc, if_neg (by rintro ⟨h1, h2, h3⟩; exact hc ⟨h1, by omega, h3⟩)]

theorem readS_out (p : ByteArray) (a : Nat) (h : p.size ≤ a) : readS p a = ((⟨#[]⟩, 0), 0) := by
  unfold readS; rw [List.drop_eq_nil_of_le (by rw [bytesOf_length]; exact h)]; rfl
theorem readS_no (p : ByteArray) (a : Nat) (h : a < p.size) (hc : ¬ (byteN p a ≤ 64 ∧ a + 9 + (byteN p a).toNat < p.size ∧ byteN p (a + 9 + (byteN p a).toNat) = byteN p a + 9)) : readS p a = ((⟨#[]⟩, 0), 0) := by
  unfold readS; rw [hd_drop p a h, if_neg hc]
theorem readS_yes (p : ByteArray) (a n : Nat) (h : a < p.size) (hn : byteN p a = n) (h1 : n ≤ 64) (h2 : a + 9 + n < p.size) (h3 : byteN p (a + 9 + n) = n + 9) :
    readS p a = ((p.extract (a + 1) (a + 1 + n), wrap64 (val (((bytesOf p).drop (a + 1 + n)).take 8))), (n : Int) + 10) := by
  unfold readS; rw [hd_drop p a h, hn, Int.toNat_natCast, if_pos ⟨by omega, h2, h3⟩]
  have : (p.extract (a + 1) (a + 1 + n)).size = n := by rw [ByteArray.size_extract]; omega
  simp [this]

theorem ix_nat (s : ByteArray) (a : Nat) (n i : Int) (hi : i = a) (h1 : a < s.size) (hn : byteN s a = n) (wx : World) : (Instr.index 9 (.string s) (.int .i64 i)).run Try.prog wx = .ok (.int .u8 n) wx := by
  subst hi
  rw [ix_str s a (by omega) (by omega)]
  simp [hn]

theorem val_snoc (l : List Int) (x : Int) : val (l ++ [x]) = val l * 256 + x := by simp [val]
theorem val_take (s : ByteArray) (o k : Nat) (h : o + k < s.size) : val (((bytesOf s).drop o).take (k + 1)) = val (((bytesOf s).drop o).take k) * 256 + byteN s (o + k) := by
  have hl : k < ((bytesOf s).drop o).length := by rw [List.length_drop, bytesOf_length]; omega
  rw [List.take_succ_eq_append_getElem hl, val_snoc]
  congr 1
  unfold byteN
  rw [List.getElem_drop, List.getElem?_eq_getElem (by rw [bytesOf_length]; exact h)]
  rfl
theorem val_bound (s : ByteArray) (o k : Nat) (h : o + k ≤ s.size) : 0 ≤ val (((bytesOf s).drop o).take k) ∧ val (((bytesOf s).drop o).take k) < ((256 ^ k : Nat) : Int) := by
  induction k with
  | zero => simp [val]
  | succ k ih =>
    have ih := ih (by omega)
    rw [val_take s o k (by omega)]
    have := byteN_range s (o + k)
    rw [Nat.pow_succ]
    omega
theorem or_step (v x : Int) (h0 : 0 ≤ v) (h1 : v < 72057594037927936) (hx : 0 ≤ x ∧ x ≤ 255) : bits .or .u64 (IntKind.u64.wrap (v * 256)) x = v * 256 + x := by
  have hw : IntKind.u64.wrap (v * 256) = v * 256 := by simp [IntKind.wrap, IntKind.signed, IntKind.bits]; omega
  rw [hw, u64_or _ _ (by omega) (by omega) (by omega) (by omega), nat_join8 _ _ (by omega) (by omega)]
  omega

set_option maxHeartbeats 1000000 in
theorem read_any (p : ByteArray) (a : Nat) (hp : p.size ≤ 1000000) (ha : a ≤ 1000000000) (w : World) :
    Calls Try.prog 32 #[.string p, .int .i64 a] w fun e w' => e = .returned (.tuple #[.agg #[.string (readS p a).1.1, .int .i64 (readS p a).1.2], .int .i64 (readS p a).2]) ∧ Below w.heap.size w w' := by
  have HB := Lib.hid ((Below.refl w.heap.size w).alloc (Nat.le_refl _) (.cells #[.string ⟨#[]⟩, .int .i64 0] 35))
  by_cases h : a < p.size
  · have hr := byteN_range p a
    obtain ⟨n, hn⟩ : ∃ n : Nat, byteN p a = n := ⟨(byteN p a).toNat, by omega⟩
    have hn1 : n ≤ 255 := by omega
    have hx0 := ix_nat p a n a rfl h hn
    by_cases h64 : n ≤ 64
    · by_cases hend : a + 9 + n < p.size
      · have hr2 := byteN_range p (a + 9 + n)
        obtain ⟨b, hb⟩ : ∃ b : Nat, byteN p (a + 9 + n) = b := ⟨(byteN p (a + 9 + n)).toNat, by omega⟩
        have hx1 := ix_nat p (a + 9 + n) b ((a : Int) + 9 + n) (by omega) hend hb
        have hb1 : b ≤ 255 := by omega
        by_cases hback : b = n + 9
        · have hR := Lib.hid (readS_yes p a n h hn h64 hend (by rw [hb, hback]; simp))
          have hx2 := ix_nat p (a + 9 + n) (9 + n) ((a : Int) + 9 + n) (by omega) hend (by rw [hb]; omega)
          have HH := Lib.hid hn
          clear hr hr2 hn hb hx1
          go_enter Try.func32, Try.ntmps32
          go_wp2_with fail
          go_loopw [8, 41] (fun u i wr => ∃ k : Nat, k ≤ 8 ∧ i = .int .i64 k ∧ u = .int .u64 (val (((bytesOf p).drop (a + 1 + n)).take k)) ∧ wr = w.alloc (.cells #[.string ⟨#[]⟩, .int .i64 0] 35)) (fun _ i _ => 8 - (intOf i).toNat)
          case atStart => exact ⟨0, by omega, rfl, rfl, rfl⟩
          case round =>
            obtain ⟨k, hk, rfl, rfl, rfl⟩ := hrel
            by_cases hlt : k < 8
            · obtain ⟨x, hx⟩ : ∃ x, byteN p (a + 1 + n + k) = x := ⟨_, rfl⟩
              have hx3 := ix_nat p (a + 1 + n + k) x ((a : Int) + 1 + n + k) (by omega) (by omega) hx
              have hxr := byteN_range p (a + 1 + n + k)
              rw [hx] at hxr
              go_wp2_with fail
              go_roundw
              case rel =>
                refine ⟨k + 1, by omega, by go_num, ?_, True.intro⟩
                have hv := val_bound p (a + 1 + n) k (by omega)
                have hpw : ((256 ^ k : Nat) : Int) ≤ 72057594037927936 := by
                  have : 256 ^ k ≤ 256 ^ 7 := Nat.pow_le_pow_right (by omega) (by omega)
                  omega
                rw [or_step _ x hv.1 (by omega) hxr, val_take p (a + 1 + n) k (by omega), hx]
              case measure => simp [intOf]; omega
            · obtain rfl : k = 8 := by omega
              go_wp2
              refine bodyPost_ret (v := .tuple #[.agg #[.string (p.extract (a + 1) (a + 1 + n)), .int .i64 (wrap64 (val (((bytesOf p).drop (a + 1 + n)).take 8)))], .int .i64 (n + 10)]) (by simp [results, Try.results32, go_sem]; omega) rfl ⟨by rw [hR.out], ?_⟩
              exact (Below.refl _ _).alloc (Nat.le_refl _) _

        · have hR := Lib.hid (readS_no p a h (by rintro ⟨c1, c2, c3⟩; rw [hn, Int.toNat_natCast, hb] at c3; omega))
          have hq : ((b : Int) != 9 + (n : Int)) = true := by simp; omega
          clear hr hr2 hn hb
          go_enter Try.func32, Try.ntmps32
          go_wp2_with fail
          refine bodyPost_ret (v := .tuple #[.agg #[.string ⟨#[]⟩, .int .i64 0], .int .i64 0]) (by simp [results, Try.results32, go_sem]) rfl ⟨by rw [hR.out], ?_⟩
          exact HB.out
      · have hR := Lib.hid (readS_no p a h (by rintro ⟨c1, c2, c3⟩; rw [hn] at c2; omega))
        clear hr hn
        go_enter Try.func32, Try.ntmps32
        go_wp2_with fail
        refine bodyPost_ret (v := .tuple #[.agg #[.string ⟨#[]⟩, .int .i64 0], .int .i64 0]) (by simp [results, Try.results32, go_sem]) rfl ⟨by rw [hR.out], ?_⟩
        exact HB.out
    · have hR := Lib.hid (readS_no p a h (by rintro ⟨c1, c2, c3⟩; rw [hn] at c1; omega))
      clear hr hn
      go_enter Try.func32, Try.ntmps32
      go_wp2_with fail
      refine bodyPost_ret (v := .tuple #[.agg #[.string ⟨#[]⟩, .int .i64 0], .int .i64 0]) (by simp [results, Try.results32, go_sem]) rfl ⟨by rw [hR.out], ?_⟩
      exact HB.out
  · have hR := Lib.hid (readS_out p a (by omega))
    go_enter Try.func32, Try.ntmps32
    go_wp2_with fail
    refine bodyPost_ret (v := .tuple #[.agg #[.string ⟨#[]⟩, .int .i64 0], .int .i64 0]) (by simp [results, Try.results32, go_sem]) rfl ⟨by rw [hR.out], ?_⟩
    exact HB.out

end Go.Proofs.Ytcjjeookfnmjcaa
