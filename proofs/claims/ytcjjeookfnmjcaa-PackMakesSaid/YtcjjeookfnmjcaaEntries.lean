import Derived.Test.YtcjjeookfnmjcaaAll
namespace Go.Proofs.Ytcjjeookfnmjcaa
open Go.RowKit Go.Proofs.YtcjjeookfnmjcaaW.PrintWords
set_option linter.unusedVariables false

def entC (e : Ent) : List Value := [.string e.1, .int .i64 e.2]
theorem flat_get {α : Type} (f : α → List Value) (n : Nat) (hf : ∀ x, (f x).length = n) : ∀ (l : List α) (k j : Nat) (x : α), l[k]? = some x → j < n → (l.flatMap f)[k * n + j]? = (f x)[j]?
  | [], k, j, x, h, _ => by simp at h
  | y :: l, 0, j, x, h, hj => by
    obtain rfl : y = x := by simpa using h
    rw [List.flatMap_cons, Nat.zero_mul, Nat.zero_add, List.getElem?_append_left (by rw [hf]; exact hj)]
  | y :: l, k + 1, j, x, h, hj => by
    rw [List.flatMap_cons, List.getElem?_append_right (by rw [hf, Nat.succ_mul]; omega), hf]
    have := flat_get f n hf l k j x (by simpa using h) hj
    rw [← this]
    congr 1
    rw [Nat.succ_mul]; omega
theorem row_at {α : Type} (f : α → List Value) {w : World} {base n cap g : Nat} {e : TypeId} {size : Nat} {l : List α} (hf : ∀ x, (f x).length = size) (h : w.ownsRow base e size (.slice (some ⟨g, 0, none⟩) n cap) n (l.flatMap f)) (k : Nat) (hk : k < l.length) (j : Nat) (u : Value) (hu : (f (l[k]'hk))[j]? = some u) :
    w.cell? ⟨g, k * size + j, none⟩ = some u := by
  have hj : j < size := by rw [← hf (l[k]'hk)]; exact (List.getElem?_eq_some_iff.1 hu).1
  have h1 := h.cells (g := g) rfl (k * size + j) u (by rw [flat_get f size hf l k j (l[k]'hk) (List.getElem?_eq_getElem hk) hj]; exact hu)
  rw [Go.WideShapes.add_plain, Nat.zero_add] at h1
  exact h1
theorem own_at {w : World} {base n : Nat} {e : TypeId} {size : Nat} {v : Value} {xs : List Value} (h : w.ownsRow base e size v n xs) (hn : 0 < n) : ∃ g cap, v = .slice (some ⟨g, 0, none⟩) n cap := by
  obtain ⟨k, rfl⟩ : ∃ k, n = k + 1 := ⟨n - 1, by omega⟩
  exact ownsRow_succ h

theorem spot_at {w w' : World} {base n cap g : Nat} {l : List Spot} (h : w.ownsRow base 56 4 (.slice (some ⟨g, 0, none⟩) n cap) n (l.flatMap spotC)) (k : Nat) (hk : k < l.length) {B : Nat} (hB : Below B w w') (hg : g < B) :
    ∃ x, l[k]'hk = x ∧ w'.cell? ⟨g, k * 4, none⟩ = some (.string x.1.1) ∧ w'.cell? ⟨g, k * 4 + 1, none⟩ = some (.int .i64 x.1.2) ∧ w'.cell? ⟨g, k * 4 + 2, none⟩ = some (.int .i64 x.2.1) ∧ w'.cell? ⟨g, k * 4 + 3, none⟩ = some (.int .i64 x.2.2) :=
  ⟨_, rfl, (hB.cell (p := ⟨g, k * 4, none⟩) hg).trans (row_at spotC (fun _ => rfl) h k hk 0 _ rfl), (hB.cell (p := ⟨g, k * 4 + 1, none⟩) hg).trans (row_at spotC (fun _ => rfl) h k hk 1 _ rfl),
    (hB.cell (p := ⟨g, k * 4 + 2, none⟩) hg).trans (row_at spotC (fun _ => rfl) h k hk 2 _ rfl), (hB.cell (p := ⟨g, k * 4 + 3, none⟩) hg).trans (row_at spotC (fun _ => rfl) h k hk 3 _ rfl)⟩

theorem info35 : (Try.prog.info? 35).map (fun i => (i.zero, i.size, i.bytes)) = some (some (.agg #[.string ⟨#[]⟩, .int .i64 0]), 2, 24) := by kernel_rfl

/-- A list of entries is handed back, or that there is none. -/
def EntsPost (ok : Bool) (l : List Ent) (w : World) (e : Ending) (w' : World) : Prop :=
  (∃ v i, e = .returned (.tuple #[v, .int .i64 i]) ∧ ((ok = true ∧ i = 0 ∧ w'.ownsRow w.heap.size 35 2 v l.length (l.flatMap entC)) ∨ (ok = false ∧ i = 50 ∧ v = .slice none 0 0))) ∧ Below w.heap.size w w'

theorem own_mono {w : World} {base base' : Nat} {e : TypeId} {size : Nat} {v : Value} {n : Nat} {xs : List Value} (h : w.ownsRow base e size v n xs) (hb : base' ≤ base) : w.ownsRow base' e size v n xs := by
  refine ⟨h.1, ?_⟩
  rcases h.2 with hn | ⟨g, cap, cur, hv, hg, rest⟩
  · exact .inl hn
  · exact .inr ⟨g, cap, cur, hv, by omega, rest⟩

set_option maxHeartbeats 1000000 in
theorem entries_any (p : ByteArray) (hp : p.size ≤ 1000000) (w : World) : Calls Try.prog 14 #[.string p] w (EntsPost (okB (bytesOf p)) ((spots (bytesOf p)).map (·.1)) w) := by
  obtain ⟨i0, hi, hz0, hz1, hz2⟩ := info_parts info35
  have hall := all_any p hp
  have hN := spots_small p hp
  obtain ⟨sp, hsp⟩ : ∃ sp, spots (bytesOf p) = sp := ⟨_, rfl⟩
  unfold AllPost at hall
  simp only [hsp] at hall hN ⊢
  clear hsp
  go_enter Try.func14, Try.ntmps14
  go_wp2_with fail
  refine (hall _).mono ?_
  rintro e w1 ⟨⟨v, i, rfl, (⟨hok, rfl, hrow⟩ | ⟨hok, rfl, rfl⟩)⟩, hb1⟩
  · have HO := Lib.hid hok
    obtain ⟨A, c, rfl⟩ := own_slice hrow
    have HR := Lib.hid hrow
    have hzw := hb1.size
    clear hok hrow
    go_wp2_with fail
    go_loopw [6, 19] (fun v i wr => ∃ k : Nat, k ≤ sp.length ∧ i = .int .i64 k ∧ wr.ownsRow w1.heap.size 35 2 v k ((sp.take k).flatMap fun s => entC s.1) ∧ Below w1.heap.size w1 wr) (fun _ i _ => sp.length - (intOf i).toNat)
    case atStart => exact ⟨0, by omega, rfl, World.ownsRow_nil _ _ _ _, Below.refl _ _⟩
    case round =>
      obtain ⟨k, hk, rfl, hro, hB⟩ := hrel
      have HQ := Lib.hid hro
      have hzr := hB.size
      obtain ⟨A4, c4, hv4⟩ := own_slice hro
      clear hro
      by_cases hlt : k < sp.length
      · have hrw := HR.out
        obtain ⟨g, cap, hvv⟩ := own_at hrw (by omega)
        cases hvv
        have hgl := (hrw.lt g rfl).2
        obtain ⟨x, hx, hc0, hc1, hc2, hc3⟩ := spot_at hrw k hlt hB hgl
        have HT := Lib.hid (show sp.take (k + 1) = sp.take k ++ [x] by rw [List.take_succ_eq_append_getElem hlt, hx])
        clear hrw hx
        have hsz : w1.heap.size ≤ ((wr.alloc (.cells #[.string x.1.1, .int .i64 x.1.2, .int .i64 x.2.1, .int .i64 x.2.2] 56)).alloc (.cells #[.string x.1.1, .int .i64 x.1.2] 35)).heap.size := by simp; omega
        have HBa := Lib.hid ((hB.alloc hzr (.cells #[.string x.1.1, .int .i64 x.1.2, .int .i64 x.2.1, .int .i64 x.2.2] 56)).alloc (by simp; omega) (.cells #[.string x.1.1, .int .i64 x.1.2] 35))
        have hcn := cells_new (wr.alloc (.cells #[.string x.1.1, .int .i64 x.1.2, .int .i64 x.2.1, .int .i64 x.2.2] 56)) 35 (entC x.1)
        rw [World.size_alloc] at hcn
        have HCN := Lib.hid hcn
        clear hcn
        go_wp2_with (at_builtin; refine wpList_append_own _ rfl _ _ 22 rfl w1.heap.size 35 i0 _ 2 24 Try.underlying22 hi hz0 hz1 hz2 rfl (by decide) _ _ _ rfl ((HQ.out.alloc _).alloc _) ⟨wr.heap.size + 1, 0, none⟩ 1 1 (entC x.1) rfl rfl HCN.out (by simp [entC, Value.oneCell']) (by unfold maxLen; omega) (by omega) hsz ?_; intro v6 w6 hO6 hG6 _)
        have hB6 := HBa.out.grown hG6 hsz (fun b e => (HQ.out.lt b e).1)
        clear hG6 HCN HBa
        go_wp2
        go_roundw
        case rel =>
          refine ⟨k + 1, by omega, by go_num, ?_, hB6⟩
          rw [HT.out]
          simpa using hO6
        case measure => simp [intOf]; omega
      · obtain rfl : k = sp.length := by omega
        have hroE := HQ.out
        go_wp2_with fail
        go_ret2
        refine ⟨⟨_, _, rfl, .inl ⟨HO.out, rfl, ?_⟩⟩, hb1.trans (hB.mono hb1.size)⟩
        rw [List.take_of_length_le (Nat.le_refl _)] at hroE
        have := own_mono hroE hb1.size
        simpa [List.flatMap_map] using this
  · have HO := Lib.hid hok
    clear hok
    go_wp2_with fail
    go_ret2
    exact ⟨⟨_, _, rfl, .inr ⟨HO.out, rfl, rfl⟩⟩, hb1⟩

end Go.Proofs.Ytcjjeookfnmjcaa
