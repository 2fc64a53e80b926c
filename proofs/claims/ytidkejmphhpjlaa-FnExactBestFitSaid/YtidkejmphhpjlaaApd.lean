/- append and clone on slices of blocks. Conditions: none. -/
import Derived.Test.YtidkejmphhpjlaaApx
import Derived.Test.YtidkejmphhpjlaaNew
import Derived.Test.YtidkejmphhpjlaaOpen
namespace Go.Proofs.Ytidkejmphhpjlaa.Wk
open Go.RowKit Go.Proofs.Ytidkejmphhpjlaa.Pl

theorem elem_Blk : ElemOf Try.prog 25 39 3 24 := by
  obtain ⟨i0, hi, hz0, hz1, hz2⟩ := info_parts info_Blk
  exact ⟨Try.underlying25, ⟨i0, _, hi, hz0, hz1, hz2, rfl⟩, by omega⟩

theorem Lst.shows {w : World} {B n : Nat} {A : Option Addr} {l : List Blk} (h : Lst w B A n l) : Shows w B 3 A n (cellsL l) := by
  refine ⟨by rw [cellsL_length, h.len], fun hn => ?_⟩
  obtain ⟨b, off, rfl, hb, _⟩ := h.cells 0 hn
  refine ⟨b, off, rfl, hb, fun j u hu => ?_⟩
  have hj : j < l.length * 3 := by
    rw [← cellsL_length]
    rcases Nat.lt_or_ge j (cellsL l).length with h1 | h1
    · exact h1
    · rw [List.getElem?_eq_none h1] at hu; cases hu
  obtain ⟨q, r, hr, rfl⟩ : ∃ q r, r < 3 ∧ j = q * 3 + r := ⟨j / 3, j % 3, Nat.mod_lt _ (by omega), by omega⟩
  have hk : q < l.length := by omega
  obtain ⟨b', off', e, _, c0, c1, c2⟩ := h.cells q (by rw [h.len]; exact hk)
  simp only [Option.some.injEq, Addr.mk.injEq, and_true] at e
  obtain ⟨rfl, rfl⟩ := e
  obtain ⟨g0, g1, g2⟩ := cellsL_get hk
  have hm : r = 0 ∨ r = 1 ∨ r = 2 := by omega
  rcases hm with rfl | rfl | rfl
  · rw [Nat.add_zero] at hu ⊢
    rw [c0, ← g0, hu]
  · rw [← Nat.add_assoc, c1, ← g1, hu]
  · rw [← Nat.add_assoc, c2, ← g2, hu]

theorem own_of {w : World} {B : Nat} {v : Value} {l : List Blk} {n : Nat} {xs : List Value} (h : w.ownsRow B 39 3 v n xs) (hn : n = l.length) (hx : xs = cellsL l) : Own w B v l := by
  subst hn hx; exact h

/-- append of a slice of blocks, in a plain region. -/
theorem append_blk {ops : Array Oper} {rest : List Oper} {o : Oper} {a : Act} {w : World} {Q : Exit → Act → World → Prop} (hgd : o.guard = none) (s x : Operand)
    (ho : o.op = .call { callee := .builtin .append, args := #[s, x], argTypes := #[25, 25] })
    (B B2 : Nat) (l l2 : List Blk) (v : Value) (A : Option Addr) (m c : Nat) (hs : a.eval s = v) (hown : Own w B v l) (hx : a.eval x = .slice A m c) (hr : Lst w B2 A m l2) (hn : l.length + m ≤ 2097152) (hB : B ≤ w.heap.size) (N : Nat) (hN : N = l.length + m)
    (h : ∀ A' c' w', Own w' B (.slice A' N c') (l ++ l2) → Below B w w' → w.grownBy w' v.ownBlock → ((Value.slice A' N c').ownBlock = v.ownBlock ∨ (Value.slice A' N c').ownBlock = some w.heap.size) → wpList Try.prog ops Q rest (a.put o.dst (.slice A' N c')) w') :
    wpList Try.prog ops Q (o :: rest) a w :=
  append_shown elem_Blk hgd s x ho B B2 v l.length m c (cellsL l) (cellsL l2) A hs hown hx hr.shows (cellsL_one _) (by unfold maxLen; omega) (by omega) hB N hN
    (fun A' c' w' h2 => h A' c' w' (own_of h2 (by rw [hN, List.length_append, hr.len]) (by rw [cellsL_append])))

/-- append of a slice of blocks, at a step of a region that draws its order. -/
theorem append_blk_step {ops : Array Oper} {o : Oper} {a : Act} {w : World} {K : Act → World → Prop} {Q : Exit → Act → World → Prop} {X : Prop} (hgd : o.guard = none) (s x : Operand)
    (ho : o.op = .call { callee := .builtin .append, args := #[s, x], argTypes := #[25, 25] })
    (B B2 : Nat) (l l2 : List Blk) (v : Value) (A : Option Addr) (m c : Nat) (hs : a.eval s = v) (hown : Own w B v l) (hx : a.eval x = .slice A m c) (hr : Lst w B2 A m l2) (hn : l.length + m ≤ 2097152) (hB : B ≤ w.heap.size) (N : Nat) (hN : N = l.length + m)
    (h : ∀ A' c' w', Own w' B (.slice A' N c') (l ++ l2) → Below B w w' → w.grownBy w' v.ownBlock → ((Value.slice A' N c').ownBlock = v.ownBlock ∨ (Value.slice A' N c').ownBlock = some w.heap.size) → K (a.put o.dst (.slice A' N c')) w') :
    if Region.wanted o (yielded ops a.tmps) = true then Oper.wp Try.prog o a w K Q else X :=
  append_step elem_Blk hgd s x ho B B2 v l.length m c (cellsL l) (cellsL l2) A hs hown hx hr.shows (cellsL_one _) (by unfold maxLen; omega) (by omega) hB N hN
    (fun A' c' w' h2 => h A' c' w' (own_of h2 (by rw [hN, List.length_append, hr.len]) (by rw [cellsL_append])))

theorem bk_one (b : Blk) : bk [b] 0 = b := rfl
/-- The one block of a literal. -/
theorem lst_one {w : World} {g : Nat} {s z : Int} {u : Bool} {T : TypeId} (h : Bk w g #[.int .i64 s, .int .i64 z, .bool u] T) : Lst w w.heap.size (some ⟨g, 0, none⟩) 1 [⟨s, z, u⟩] := by
  refine ⟨rfl, fun k hk => ?_⟩
  obtain rfl : k = 0 := by omega
  exact ⟨g, 0, rfl, h.lt, h.cell 0, h.cell 1, h.cell 2⟩

theorem lst_take {w : World} {B k n : Nat} {A : Option Addr} {l : List Blk} (h : Lst w B A n l) (hk : k ≤ n) : Lst w B A k (l.take k) := by
  have hl := h.len
  refine ⟨by simp; omega, fun j hj => ?_⟩
  obtain ⟨b', off', e, r⟩ := h.cells j (by omega)
  refine ⟨b', off', e, ?_⟩
  have hb : bk (l.take k) j = bk l j := by
    rw [bk_eq (by simp; omega), bk_eq (by omega)]; simp
  rw [hb]; exact r
theorem lst_drop {w : World} {B b off n k : Nat} {l : List Blk} (h : Lst w B (some ⟨b, off, none⟩) n l) (hk : k ≤ n) : Lst w B (some ⟨b, off + k * 3, none⟩) (n - k) (l.drop k) := by
  have hl := h.len
  refine ⟨by simp; omega, fun j hj => ?_⟩
  obtain ⟨b', off', e, r1, r2⟩ := h.cells (k + j) (by omega)
  simp only [Option.some.injEq, Addr.mk.injEq, and_true] at e
  obtain ⟨rfl, rfl⟩ := e
  refine ⟨b, off + k * 3, rfl, r1, ?_⟩
  have hb : bk (l.drop k) j = bk l (k + j) := by
    rw [bk_eq (by simp; omega), bk_eq (by omega)]; simp
  rw [hb, show off + k * 3 + j * 3 = off + (k + j) * 3 by omega]; exact r2
/-- An empty rest, wherever it lies. -/
theorem lst_end {w : World} {B n k : Nat} {A : Option Addr} {l : List Blk} (hl : l.length ≤ k) (hn : n ≤ k) : Lst w B A (n - k) (l.drop k) := by
  refine ⟨by rw [List.drop_eq_nil_of_le hl]; simp; omega, fun j hj => by omega⟩

/-- clone, whatever it is handed. -/
theorem clone_all (A : Option Addr) (n c B : Nat) (l : List Blk) (w : World) (h : Lst w B A n l) (hB : B ≤ w.heap.size) (hn : n ≤ 1048576) :
    Calls Try.prog 51 #[.slice A n c] w fun e w' => ∃ A' c', e = .returned (.slice A' n c') ∧ Own w' w.heap.size (.slice A' n c') l ∧ Below w.heap.size w w' := by
  have HK := Lib.hid (fun (w1 : World) (hb : Below w.heap.size w w1) => h.below hb hB)
  have HL := Lib.hid h.len
  clear h
  obtain ⟨i0, hi, hz0, hz1, hz2⟩ := info_parts info_Blk
  go_enter Try.func51, Try.ntmps51
  go_wp2_with (first
    | (at_make; refine wpList_make_own _ rfl _ _ 25 rfl w.heap.size 39 i0 _ 3 Try.underlying25 hi hz0 hz1 _ _ _ n rfl rfl rfl (by rw [hz2]; omega) (by unfold maxLen; omega) (Nat.le_refl _) ?_; intro w1 hown1 hgrow1; have hb1 : Below w.heap.size w w1 := ⟨hgrow1.os, hgrow1.tape, hgrow1.output, hgrow1.size, fun k hk => hgrow1.block k hk (by simp)⟩)
    | (at_builtin; refine append_blk (by rfl) _ _ (by rfl) w.heap.size B [] l _ A n c (by rfl) hown1 (by rfl) (HK.out _ hb1) (by simp; omega) hb1.size n (by simp) ?_; intro A' c' w2 hown2 hb2 _ _))
  go_ret
  exact ⟨A', c', rfl, by simpa using hown2, hb1.trans (hb2.mono (Nat.le_refl _))⟩

end Go.Proofs.Ytidkejmphhpjlaa.Wk
