import Derived.Test.YtcjjeookfnmjcaaWWords
namespace Go.Proofs.Ytcjjeookfnmjcaa
open Go.RowKit Go.Proofs.YtcjjeookfnmjcaaW.PrintWords
set_option linter.unusedVariables false

/-! ### Entries and their bytes, in plain lists of numbers -/
abbrev Ent := ByteArray × Int
abbrev Spot := Ent × Nat × Nat
/-- The byte j places up from the lowest. -/
def dig (n : Int) (j : Nat) : Int := n / (256 ^ j : Nat) % 256
def be8 (n : Int) : List Int := [dig n 7, dig n 6, dig n 5, dig n 4, dig n 3, dig n 2, dig n 1, dig n 0]
def val (l : List Int) : Int := l.foldl (fun s b => s * 256 + b) 0
def entB (e : Ent) : List Int := (e.1.size : Int) :: (bytesOf e.1 ++ (be8 e.2 ++ [(e.1.size : Int) + 9]))
def packB (l : List Ent) : List Int := (l.length : Int) / 256 :: (l.length : Int) % 256 :: l.flatMap entB
def FineE (e : Ent) : Prop := e.1.size ≤ 64 ∧ -9223372036854775808 ≤ e.2 ∧ e.2 ≤ 9223372036854775807
def Fine (l : List Ent) : Prop := l.length ≤ 200 ∧ ∀ e, e ∈ l → FineE e
def Bytes (l : List Int) : Prop := ∀ b, b ∈ l → 0 ≤ b ∧ b ≤ 255

theorem bytesOf_bytes (s : ByteArray) : Bytes (bytesOf s) := by
  intro b hb
  obtain ⟨x, _, rfl⟩ := List.mem_map.1 hb
  have := x.toNat_lt
  omega
theorem strOf_bytesOf (s : ByteArray) : strOfNums (bytesOf s) = s := by
  unfold strOfNums bytesOf
  rw [List.map_map]
  have : (fun n : Int => UInt8.ofNat n.toNat) ∘ (fun b : UInt8 => (b.toNat : Int)) = id := by funext b; simp
  rw [this]; simp
theorem bytesOf_strOf {l : List Int} (h : Bytes l) : bytesOf (strOfNums l) = l := by
  unfold strOfNums bytesOf
  simp only [List.map_map]
  have : ∀ l : List Int, Bytes l → l.map ((fun b : UInt8 => (b.toNat : Int)) ∘ fun n : Int => UInt8.ofNat n.toNat) = l := by
    intro l
    induction l with
    | nil => intro _; rfl
    | cons b l ih =>
      intro h
      rw [List.map_cons, ih (fun x hx => h x (List.mem_cons_of_mem _ hx))]
      have hb := h b (by simp)
      congr 1
      simp only [Function.comp]
      rw [UInt8.toNat_ofNat_of_lt' (by show b.toNat < 256; omega)]
      omega
  exact this l h
theorem bytesOf_inj {s t : ByteArray} (h : bytesOf s = bytesOf t) : s = t := by rw [← strOf_bytesOf s, h, strOf_bytesOf]
theorem strOf_size (l : List Int) : (strOfNums l).size = l.length := strOfNums_size l

theorem dig_range (n : Int) (j : Nat) : 0 ≤ dig n j ∧ dig n j ≤ 255 := by unfold dig; omega
theorem be8_length (n : Int) : (be8 n).length = 8 := rfl
theorem entB_length (e : Ent) : (entB e).length = e.1.size + 10 := by
  simp [entB, bytesOf_length, be8_length]
theorem entB_bytes {e : Ent} (h : FineE e) : Bytes (entB e) := by
  intro b hb
  unfold FineE at h
  simp only [entB, List.mem_cons, List.mem_append, List.not_mem_nil, or_false] at hb
  rcases hb with rfl | hb | hb | rfl
  · omega
  · exact bytesOf_bytes _ b hb
  · simp only [be8, List.mem_cons, List.not_mem_nil, or_false] at hb
    rcases hb with rfl | rfl | rfl | rfl | rfl | rfl | rfl | rfl <;> exact dig_range _ _
  · omega

theorem val8 (b0 b1 b2 b3 b4 b5 b6 b7 : Int) : val [b0, b1, b2, b3, b4, b5, b6, b7] =
    b0 * 72057594037927936 + b1 * 281474976710656 + b2 * 1099511627776 + b3 * 4294967296 + b4 * 16777216 + b5 * 65536 + b6 * 256 + b7 := by
  simp only [val, List.foldl_cons, List.foldl_nil]; omega

theorem dig_eq (n : Int) : dig n 0 = n % 256 ∧ dig n 1 = n / 256 % 256 ∧ dig n 2 = n / 65536 % 256 ∧ dig n 3 = n / 16777216 % 256 ∧ dig n 4 = n / 4294967296 % 256 ∧
    dig n 5 = n / 1099511627776 % 256 ∧ dig n 6 = n / 281474976710656 % 256 ∧ dig n 7 = n / 72057594037927936 % 256 := by
  simp [dig]

theorem val_be8 (n : Int) (h1 : -9223372036854775808 ≤ n) (h2 : n ≤ 9223372036854775807) : wrap64 (val (be8 n)) = n := by
  obtain ⟨e0, e1, e2, e3, e4, e5, e6, e7⟩ := dig_eq n
  rw [be8, val8, e0, e1, e2, e3, e4, e5, e6, e7]
  unfold wrap64
  omega

theorem dig_wrap (U : Int) (h0 : 0 ≤ U) (h1 : U < 18446744073709551616) : be8 (wrap64 U) = be8 U := by
  obtain ⟨e0, e1, e2, e3, e4, e5, e6, e7⟩ := dig_eq (wrap64 U)
  obtain ⟨f0, f1, f2, f3, f4, f5, f6, f7⟩ := dig_eq U
  have hw : wrap64 U = U ∨ wrap64 U = U - 18446744073709551616 := by unfold wrap64; omega
  rw [be8, be8, e0, e1, e2, e3, e4, e5, e6, e7, f0, f1, f2, f3, f4, f5, f6, f7]
  clear e0 e1 e2 e3 e4 e5 e6 e7 f0 f1 f2 f3 f4 f5 f6 f7
  rcases hw with h | h
  · rw [h]
  · rw [h]
    have g0 : (U - 18446744073709551616) % 256 = U % 256 := by omega
    have g1 : (U - 18446744073709551616) / 256 % 256 = U / 256 % 256 := by omega
    have g2 : (U - 18446744073709551616) / 65536 % 256 = U / 65536 % 256 := by omega
    have g3 : (U - 18446744073709551616) / 16777216 % 256 = U / 16777216 % 256 := by omega
    have g4 : (U - 18446744073709551616) / 4294967296 % 256 = U / 4294967296 % 256 := by omega
    have g5 : (U - 18446744073709551616) / 1099511627776 % 256 = U / 1099511627776 % 256 := by omega
    have g6 : (U - 18446744073709551616) / 281474976710656 % 256 = U / 281474976710656 % 256 := by omega
    have g7 : (U - 18446744073709551616) / 72057594037927936 % 256 = U / 72057594037927936 % 256 := by omega
    rw [g0, g1, g2, g3, g4, g5, g6, g7]

theorem horner (a b : Int) (h : 0 ≤ b ∧ b ≤ 255) : (a * 256 + b) / 256 = a ∧ (a * 256 + b) % 256 = b := by omega
theorem div_step (x : Int) : x / 65536 = x / 256 / 256 ∧ x / 16777216 = x / 256 / 256 / 256 ∧ x / 4294967296 = x / 256 / 256 / 256 / 256 ∧ x / 1099511627776 = x / 256 / 256 / 256 / 256 / 256 ∧
    x / 281474976710656 = x / 256 / 256 / 256 / 256 / 256 / 256 ∧ x / 72057594037927936 = x / 256 / 256 / 256 / 256 / 256 / 256 / 256 := by
  refine ⟨?_, ?_, ?_, ?_, ?_, ?_⟩ <;> (repeat rw [Int.ediv_ediv_of_nonneg (by omega)]) <;> rfl

theorem be8_val (b0 b1 b2 b3 b4 b5 b6 b7 : Int) (h0 : 0 ≤ b0 ∧ b0 ≤ 255) (h1 : 0 ≤ b1 ∧ b1 ≤ 255) (h2 : 0 ≤ b2 ∧ b2 ≤ 255) (h3 : 0 ≤ b3 ∧ b3 ≤ 255) (h4 : 0 ≤ b4 ∧ b4 ≤ 255) (h5 : 0 ≤ b5 ∧ b5 ≤ 255) (h6 : 0 ≤ b6 ∧ b6 ≤ 255) (h7 : 0 ≤ b7 ∧ b7 ≤ 255) :
    be8 (wrap64 (val [b0, b1, b2, b3, b4, b5, b6, b7])) = [b0, b1, b2, b3, b4, b5, b6, b7] := by
  have hr : 0 ≤ val [b0, b1, b2, b3, b4, b5, b6, b7] ∧ val [b0, b1, b2, b3, b4, b5, b6, b7] < 18446744073709551616 := by rw [val8]; omega
  rw [dig_wrap _ hr.1 hr.2]
  obtain ⟨f0, f1, f2, f3, f4, f5, f6, f7⟩ := dig_eq (val [b0, b1, b2, b3, b4, b5, b6, b7])
  obtain ⟨d2, d3, d4, d5, d6, d7⟩ := div_step (val [b0, b1, b2, b3, b4, b5, b6, b7])
  rw [be8, f0, f1, f2, f3, f4, f5, f6, f7, d2, d3, d4, d5, d6, d7]
  clear f0 f1 f2 f3 f4 f5 f6 f7 d2 d3 d4 d5 d6 d7 hr
  simp only [val, List.foldl_cons, List.foldl_nil]
  rw [(horner _ b7 h7).1, (horner _ b7 h7).2, (horner _ b6 h6).1, (horner _ b6 h6).2, (horner _ b5 h5).1, (horner _ b5 h5).2, (horner _ b4 h4).1, (horner _ b4 h4).2,
    (horner _ b3 h3).1, (horner _ b3 h3).2, (horner _ b2 h2).1, (horner _ b2 h2).2, (horner _ b1 h1).1, (horner _ b1 h1).2, (horner _ b0 h0).2]
theorem val_range (b0 b1 b2 b3 b4 b5 b6 b7 : Int) (h0 : 0 ≤ b0 ∧ b0 ≤ 255) (h1 : 0 ≤ b1 ∧ b1 ≤ 255) (h2 : 0 ≤ b2 ∧ b2 ≤ 255) (h3 : 0 ≤ b3 ∧ b3 ≤ 255) (h4 : 0 ≤ b4 ∧ b4 ≤ 255) (h5 : 0 ≤ b5 ∧ b5 ≤ 255) (h6 : 0 ≤ b6 ∧ b6 ≤ 255) (h7 : 0 ≤ b7 ∧ b7 ≤ 255) :
    0 ≤ val [b0, b1, b2, b3, b4, b5, b6, b7] ∧ val [b0, b1, b2, b3, b4, b5, b6, b7] < 18446744073709551616 := by rw [val8]; omega

/-! ### Reading -/
/-- The entry at the head of some bytes. -/
def hd : List Int → Option Ent
  | [] => none
  | n :: t => if n ≤ 64 ∧ n.toNat + 9 ≤ t.length ∧ t[n.toNat + 8]?.getD 0 = n + 9 then some (strOfNums (t.take n.toNat), wrap64 (val ((t.drop n.toNat).take 8))) else none
/-- The entries that stand in line, and where. -/
def walkS : Nat → List Int → Nat → List Spot
  | 0, _, _ => []
  | k + 1, l, o => match hd l with
    | none => []
    | some e => (e, o, o + (e.1.size + 10)) :: walkS k (l.drop (e.1.size + 10)) (o + (e.1.size + 10))
def spotsOf : List Ent → Nat → List Spot
  | [], _ => []
  | e :: l, o => (e, o, o + (e.1.size + 10)) :: spotsOf l (o + (e.1.size + 10))
def endOf (o : Nat) (sp : List Spot) : Nat := (sp.getLast?.map (·.2.2)).getD o

theorem spotsOf_length (l : List Ent) : ∀ o, (spotsOf l o).length = l.length := by
  induction l with
  | nil => intro o; rfl
  | cons e l ih => intro o; simp [spotsOf, ih]
theorem spotsOf_ents (l : List Ent) : ∀ o, (spotsOf l o).map (·.1) = l := by
  induction l with
  | nil => intro o; rfl
  | cons e l ih => intro o; simp [spotsOf, ih]
theorem endOf_cons (o : Nat) (x : Spot) (xs : List Spot) : endOf o (x :: xs) = endOf x.2.2 xs := by
  unfold endOf
  rw [List.getLast?_cons]
  cases xs.getLast? <;> rfl
theorem endOf_spots (l : List Ent) : ∀ o, endOf o (spotsOf l o) = o + (l.flatMap entB).length := by
  induction l with
  | nil => intro o; simp [spotsOf, endOf]
  | cons e l ih =>
    intro o
    have h := ih (o + (e.1.size + 10))
    simp only [spotsOf, List.flatMap_cons, List.length_append, entB_length]
    rw [endOf_cons, h]; omega

theorem hd_ent (e : Ent) (h : FineE e) (rest : List Int) : hd (entB e ++ rest) = some e := by
  obtain ⟨m, s⟩ := e
  obtain ⟨h1, h2, h3⟩ := h
  dsimp only at h1 h2 h3
  have hm : (bytesOf m).length = m.size := bytesOf_length m
  have hn : ((m.size : Int)).toNat = m.size := by omega
  simp only [entB, List.cons_append, hd, hn, List.append_assoc, List.nil_append]
  have e1 : (bytesOf m ++ (be8 s ++ (((m.size : Int) + 9) :: rest))).take m.size = bytesOf m := by rw [← hm]; simp
  have e2 : (bytesOf m ++ (be8 s ++ (((m.size : Int) + 9) :: rest))).drop m.size = be8 s ++ (((m.size : Int) + 9) :: rest) := by rw [← hm]; simp
  have e3 : (be8 s ++ (((m.size : Int) + 9) :: rest)).take 8 = be8 s := by simp [be8]
  have e4 : (bytesOf m ++ (be8 s ++ (((m.size : Int) + 9) :: rest)))[m.size + 8]?.getD 0 = (m.size : Int) + 9 := by
    rw [List.getElem?_append_right (by omega), hm]
    simp [be8]
  rw [if_pos ⟨by omega, by simp [hm, be8_length]; omega, e4⟩, e1, e2, e3, strOf_bytesOf, val_be8 s h2 h3]

theorem list8 {l : List Int} (h : l.length = 8) : ∃ b0 b1 b2 b3 b4 b5 b6 b7, l = [b0, b1, b2, b3, b4, b5, b6, b7] := by
  match l, h with
  | [b0, b1, b2, b3, b4, b5, b6, b7], _ => exact ⟨_, _, _, _, _, _, _, _, rfl⟩

theorem hd_some {l : List Int} {e : Ent} (hb : Bytes l) (h : hd l = some e) : FineE e ∧ l = entB e ++ l.drop (e.1.size + 10) := by
  cases l with
  | nil => simp [hd] at h
  | cons n t =>
    simp only [hd] at h
    split at h
    · rename_i hc
      obtain ⟨c1, c2, c3⟩ := hc
      have hn := hb n (by simp)
      have ht : Bytes t := fun b hx => hb b (List.mem_cons_of_mem _ hx)
      cases h
      obtain ⟨k, rfl⟩ : ∃ k : Nat, n = k := ⟨n.toNat, by omega⟩
      simp only [Int.toNat_natCast] at c2 c3 ⊢
      have hl8 : ((t.drop k).take 8).length = 8 := by rw [List.length_take, List.length_drop]; omega
      obtain ⟨b0, b1, b2, b3, b4, b5, b6, b7, e8⟩ := list8 hl8
      have hm8 : ∀ b, b ∈ (t.drop k).take 8 → 0 ≤ b ∧ b ≤ 255 := fun b hx => ht b (List.mem_of_mem_drop (List.mem_of_mem_take hx))
      rw [e8] at hm8
      have hv := val_range b0 b1 b2 b3 b4 b5 b6 b7 (hm8 _ (by simp)) (hm8 _ (by simp)) (hm8 _ (by simp)) (hm8 _ (by simp)) (hm8 _ (by simp)) (hm8 _ (by simp)) (hm8 _ (by simp)) (hm8 _ (by simp))
      have hbe := be8_val b0 b1 b2 b3 b4 b5 b6 b7 (hm8 _ (by simp)) (hm8 _ (by simp)) (hm8 _ (by simp)) (hm8 _ (by simp)) (hm8 _ (by simp)) (hm8 _ (by simp)) (hm8 _ (by simp)) (hm8 _ (by simp))
      have hsz : (strOfNums (t.take k)).size = k := by rw [strOf_size, List.length_take]; omega
      refine ⟨⟨by dsimp only; rw [hsz]; omega, ?_, ?_⟩, ?_⟩
      · dsimp only; unfold wrap64; omega
      · dsimp only; unfold wrap64; omega
      · have htk : Bytes (t.take k) := fun b hx => ht b (List.mem_of_mem_take hx)
        simp only [entB, hsz, bytesOf_strOf htk, e8, hbe]
        rw [← e8]
        have e9 : [(k : Int) + 9] = (t.drop (k + 8)).take 1 := by
          have hlt : k + 8 < t.length := by omega
          rw [List.drop_eq_getElem_cons hlt]
          have : t[k + 8]?.getD 0 = t[k + 8] := by simp [List.getElem?_eq_getElem hlt]
          rw [this] at c3
          simp [c3]
        rw [e9]
        simp only [List.cons_append, List.append_assoc, show k + 10 = (k + 9) + 1 from rfl, List.drop_succ_cons]
        congr 1
        have d1 : (t.drop (k + 8)).take 1 ++ t.drop (k + 9) = t.drop (k + 8) := by
          have := List.take_append_drop 1 (t.drop (k + 8))
          rw [List.drop_drop] at this; exact this
        have d2 : (t.drop k).take 8 ++ t.drop (k + 8) = t.drop k := by
          have := List.take_append_drop 8 (t.drop k)
          rw [List.drop_drop] at this; exact this
        rw [d1, d2, List.take_append_drop]
    · cases h

theorem hd_nil : hd [] = none := rfl

/-- What stands in line: entries' bytes, and behind them no entry (or the fuel is used up). -/
theorem walkS_back (k : Nat) : ∀ (l : List Int) (o : Nat), Bytes l → ∃ (es : List Ent) (rest : List Int), walkS k l o = spotsOf es o ∧ (∀ e, e ∈ es → FineE e) ∧ l = es.flatMap entB ++ rest ∧ (es.length = k ∨ hd rest = none) := by
  induction k with
  | zero => intro l o _; exact ⟨[], l, rfl, by simp, by simp, .inl rfl⟩
  | succ k ih =>
    intro l o hb
    cases h : hd l with
    | none => exact ⟨[], l, by simp [walkS, h, spotsOf], by simp, by simp, .inr h⟩
    | some e =>
      obtain ⟨hf, hl⟩ := hd_some hb h
      obtain ⟨es, rest, h1, h2, h3, h4⟩ := ih (l.drop (e.1.size + 10)) (o + (e.1.size + 10)) (fun b hx => hb b (List.mem_of_mem_drop hx))
      refine ⟨e :: es, rest, by simp [walkS, h, spotsOf, h1], ?_, ?_, ?_⟩
      · intro x hx
        rcases List.mem_cons.1 hx with rfl | hx
        · exact hf
        · exact h2 x hx
      · rw [List.flatMap_cons, List.append_assoc, ← h3]; exact hl
      · rcases h4 with h4 | h4
        · exact .inl (by simp [h4])
        · exact .inr h4

theorem walkS_of (es : List Ent) : ∀ (k : Nat) (rest : List Int) (o : Nat), (∀ e, e ∈ es → FineE e) → hd rest = none → es.length ≤ k → walkS k (es.flatMap entB ++ rest) o = spotsOf es o := by
  induction es with
  | nil =>
    intro k rest o _ hr _
    cases k with
    | zero => rfl
    | succ k => simp [walkS, hr, spotsOf]
  | cons e es ih =>
    intro k rest o hf hr hk
    obtain ⟨k, rfl⟩ : ∃ j, k = j + 1 := ⟨k - 1, by simp at hk; omega⟩
    have h1 := hd_ent e (hf e (by simp)) (es.flatMap entB ++ rest)
    rw [List.flatMap_cons, List.append_assoc]
    simp only [walkS, h1, spotsOf]
    have : (entB e ++ (es.flatMap entB ++ rest)).drop (e.1.size + 10) = es.flatMap entB ++ rest := by rw [← entB_length e]; simp
    rw [this, ih k rest _ (fun x hx => hf x (List.mem_cons_of_mem _ hx)) hr (by simp at hk; omega)]

/-! ### A pack's bytes -/
/-- The spots of a text's bytes behind the head. -/
def spots (b : List Int) : List Spot := walkS b.length (b.drop 2) 2
def countOf (b : List Int) : Int := if b.length < 2 then -1 else if b[0]?.getD 0 * 256 + b[1]?.getD 0 ≤ 200 then b[0]?.getD 0 * 256 + b[1]?.getD 0 else -1
def okB (b : List Int) : Bool := decide (0 ≤ countOf b) && decide (countOf b = (spots b).length) && decide (endOf 2 (spots b) = b.length)

theorem packB_length (l : List Ent) : (packB l).length = 2 + (l.flatMap entB).length := by simp [packB]; omega
theorem flat_len (l : List Ent) : l.length ≤ (l.flatMap entB).length := by
  induction l with
  | nil => simp
  | cons e l ih => simp only [List.flatMap_cons, List.length_append, entB_length, List.length_cons]; omega
theorem packB_bytes {l : List Ent} (h : Fine l) : Bytes (packB l) := by
  obtain ⟨h1, h2⟩ := h
  intro b hb
  rcases List.mem_cons.1 hb with rfl | hb
  · omega
  rcases List.mem_cons.1 hb with rfl | hb
  · omega
  obtain ⟨e, he, hx⟩ := List.mem_flatMap.1 hb
  exact entB_bytes (h2 e he) b hx

theorem spots_pack (l : List Ent) (h : Fine l) : spots (packB l) = spotsOf l 2 := by
  unfold spots
  have h1 : (packB l).drop 2 = l.flatMap entB ++ [] := by simp [packB]
  rw [h1]
  exact walkS_of l _ [] 2 h.2 rfl (by rw [packB_length]; have := flat_len l; omega)
theorem count_pack (l : List Ent) (h : Fine l) : countOf (packB l) = l.length := by
  have h1 := h.1
  have h2 : ¬ (packB l).length < 2 := by rw [packB_length]; omega
  have h3 : (packB l)[0]?.getD 0 = (l.length : Int) / 256 := rfl
  have h4 : (packB l)[1]?.getD 0 = (l.length : Int) % 256 := rfl
  unfold countOf
  rw [if_neg h2, h3, h4, if_pos (by omega)]
  omega
theorem ok_pack (l : List Ent) (h : Fine l) : okB (packB l) = true := by
  unfold okB
  rw [count_pack l h, spots_pack l h, spotsOf_length, endOf_spots, packB_length]
  simp
/-- A text that is right is the pack of its entries. -/
theorem ok_is_pack (b : List Int) (hb : Bytes b) (h : okB b = true) : ∃ l, Fine l ∧ b = packB l := by
  simp only [okB, Bool.and_eq_true, decide_eq_true_eq] at h
  obtain ⟨⟨h1, h2⟩, h3⟩ := h
  have hlen : ¬ b.length < 2 := by intro hl; rw [countOf, if_pos hl] at h1; omega
  obtain ⟨es, rest, e1, e2, e3, e4⟩ := walkS_back b.length (b.drop 2) 2 (fun x hx => hb x (List.mem_of_mem_drop hx))
  have e1' : spots b = spotsOf es 2 := e1
  rw [e1', spotsOf_length] at h2
  rw [e1', endOf_spots] at h3
  have hc : countOf b = b[0]?.getD 0 * 256 + b[1]?.getD 0 ∧ b[0]?.getD 0 * 256 + b[1]?.getD 0 ≤ 200 := by
    unfold countOf at h1 ⊢
    rw [if_neg hlen] at h1 ⊢
    by_cases hx : b[0]?.getD 0 * 256 + b[1]?.getD 0 ≤ 200
    · rw [if_pos hx]; exact ⟨rfl, hx⟩
    · rw [if_neg hx] at h1; omega
  have hr : rest = [] := by
    have : (b.drop 2).length = (es.flatMap entB).length + rest.length := by rw [e3, List.length_append]
    rw [List.length_drop] at this
    exact List.eq_nil_of_length_eq_zero (by omega)
  refine ⟨es, ⟨by omega, e2⟩, ?_⟩
  match b, hlen with
  | b0 :: b1 :: t, _ =>
    have g0 := hb b0 (by simp)
    have g1 := hb b1 (by simp)
    simp only [List.getElem?_cons_zero, List.getElem?_cons_succ, Option.getD_some] at hc
    rw [hc.1] at h2
    simp only [List.drop_succ_cons, List.drop_zero, hr, List.append_nil] at e3
    simp only [packB]
    rw [e3]
    have q0 : b0 = (es.length : Int) / 256 := by omega
    have q1 : b1 = (es.length : Int) % 256 := by omega
    rw [← q0, ← q1]
theorem flat_inj : ∀ (l m : List Ent), (∀ e, e ∈ l → FineE e) → (∀ e, e ∈ m → FineE e) → l.flatMap entB = m.flatMap entB → l = m := by
  intro l
  induction l with
  | nil =>
    intro m _ _ h
    cases m with
    | nil => rfl
    | cons e m => have := congrArg List.length h; simp only [List.flatMap_nil, List.flatMap_cons, List.length_append, entB_length, List.length_nil] at this; omega
  | cons e l ih =>
    intro m hl hm h
    cases m with
    | nil => have := congrArg List.length h; simp only [List.flatMap_nil, List.flatMap_cons, List.length_append, entB_length, List.length_nil] at this; omega
    | cons f m =>
      rw [List.flatMap_cons, List.flatMap_cons] at h
      have h1 := hd_ent e (hl e (by simp)) (l.flatMap entB)
      have h2 := hd_ent f (hm f (by simp)) (m.flatMap entB)
      rw [h, h2] at h1
      cases h1
      rw [ih m (fun x hx => hl x (List.mem_cons_of_mem _ hx)) (fun x hx => hm x (List.mem_cons_of_mem _ hx)) (List.append_cancel_left h)]
theorem packB_inj {l m : List Ent} (hl : Fine l) (hm : Fine m) (h : packB l = packB m) : l = m :=
  flat_inj l m hl.2 hm.2 (by have := congrArg (List.drop 2) h; simpa [packB] using this)

end Go.Proofs.Ytcjjeookfnmjcaa
