/- Slices of blocks that the call itself made; the laws' copies. Conditions: none. -/
import Derived.Test.YtidkejmphhpjlaaBf
namespace Go.Proofs.Ytidkejmphhpjlaa.Wk
open Go.RowKit Go.Proofs.Ytidkejmphhpjlaa.Pl

/-- The cells of a list of blocks. -/
def cellsL (l : List Blk) : List Value := l.flatMap fun b => [.int .i64 b.s, .int .i64 b.z, .bool b.u]

theorem cellsL_nil : cellsL [] = [] := rfl
theorem cellsL_cons (b : Blk) (l : List Blk) : cellsL (b :: l) = .int .i64 b.s :: .int .i64 b.z :: .bool b.u :: cellsL l := rfl
theorem cellsL_append (a b : List Blk) : cellsL (a ++ b) = cellsL a ++ cellsL b := by simp [cellsL]
theorem cellsL_length (l : List Blk) : (cellsL l).length = l.length * 3 := by
  induction l with
  | nil => rfl
  | cons b r ih => rw [cellsL_cons]; simp only [List.length_cons, ih]; omega
theorem cellsL_one (l : List Blk) : ∀ u ∈ cellsL l, u.oneCell' = true := by
  induction l with
  | nil => intro u hu; simp [cellsL] at hu
  | cons b r ih =>
    intro u hu
    rw [cellsL_cons] at hu
    simp only [List.mem_cons] at hu
    rcases hu with rfl | rfl | rfl | hu
    · rfl
    · rfl
    · rfl
    · exact ih u hu
theorem cellsL_get {l : List Blk} {k : Nat} (h : k < l.length) : (cellsL l)[k * 3]? = some (.int .i64 (bk l k).s) ∧ (cellsL l)[k * 3 + 1]? = some (.int .i64 (bk l k).z) ∧ (cellsL l)[k * 3 + 2]? = some (.bool (bk l k).u) := by
  have hs : l = l.take k ++ bk l k :: l.drop (k + 1) := by rw [← drop_cons' h, List.take_append_drop]
  have hl : (cellsL (l.take k)).length = k * 3 := by rw [cellsL_length]; simp; omega
  have hc : cellsL l = cellsL (l.take k) ++ cellsL (bk l k :: l.drop (k + 1)) := by
    rw [← cellsL_append, ← hs]
  rw [cellsL_cons] at hc
  refine ⟨?_, ?_, ?_⟩
  · rw [hc, List.getElem?_append_right (by omega), hl, show k * 3 - k * 3 = 0 by omega]; rfl
  · rw [hc, List.getElem?_append_right (by omega), hl, show k * 3 + 1 - k * 3 = 1 by omega]; rfl
  · rw [hc, List.getElem?_append_right (by omega), hl, show k * 3 + 2 - k * 3 = 2 by omega]; rfl

/-- The value v is a slice of the call's own, from block number B on, that holds the list l. -/
def Own (w : World) (B : Nat) (v : Value) (l : List Blk) : Prop := w.ownsRow B 39 3 v l.length (cellsL l)

/-- Its form, and that it reads as the list. -/
theorem Own.lst {w : World} {B : Nat} {v : Value} {l : List Blk} (h : Own w B v l) : ∃ A c, v = .slice A l.length c ∧ Lst w w.heap.size A l.length l ∧ (A = none → l = []) := by
  rcases h.2 with ⟨hv, hn⟩ | ⟨g, cap, cur, hv, hB, hg, hnc, hcm, hs, ht⟩
  · have hl : l = [] := List.eq_nil_of_length_eq_zero hn
    subst hl
    exact ⟨none, 0, hv, ⟨rfl, fun k hk => by simp at hk⟩, fun _ => rfl⟩
  · refine ⟨some ⟨g, 0, none⟩, cap, hv, ⟨rfl, fun k hk => ⟨g, 0, rfl, (Array.getElem?_eq_some_iff.1 hg).1, ?_⟩⟩, fun h => by cases h⟩
    have hc : ∀ j u, (cellsL l)[j]? = some u → w.cell? ⟨g, 0 + j, none⟩ = some u := by
      intro j u hu
      rw [Nat.zero_add, cell_of_row w g j cur _ (0, 0) hg]
      rw [← ht, List.getElem?_take] at hu
      split at hu
      · simpa using hu
      · cases hu
    obtain ⟨h1, h2, h3⟩ := cellsL_get hk
    exact ⟨hc _ _ h1, hc _ _ h2, hc _ _ h3⟩

theorem Own.below {w w' : World} {B : Nat} {v : Value} {l : List Blk} (h : Own w B v l) (hb : Below w.heap.size w w') : Own w' B v l := by
  refine h.kept (row := none) ⟨hb.os, hb.tape, hb.output, hb.size, fun k hk _ => hb.block k hk⟩ ?_
  cases v.ownBlock
  · exact .inl rfl
  · exact .inr (by simp)

theorem owns_below {w w' : World} {B e size n : Nat} {v : Value} {xs : List Value} (h : w.ownsRow B e size v n xs) (hb : Below w.heap.size w w') : w'.ownsRow B e size v n xs := by
  refine h.kept (row := none) ⟨hb.os, hb.tape, hb.output, hb.size, fun k hk _ => hb.block k hk⟩ ?_
  cases v.ownBlock
  · exact .inl rfl
  · exact .inr (by simp)

theorem owns_cell {w : World} {B e size g n cap : Nat} {xs : List Value} (h : w.ownsRow B e size (.slice (some ⟨g, 0, none⟩) n cap) n xs) (j : Nat) (hj : j < n * size) : ∃ u, w.cell? ⟨g, j, none⟩ = some u := by
  rw [h.cellAt j hj]
  exact ⟨_, List.getElem?_eq_getElem (by rw [h.1]; exact hj)⟩

theorem Own.mono {w : World} {B B' : Nat} {v : Value} {l : List Blk} (h : Own w B v l) (hB : B' ≤ B) : Own w B' v l := by
  refine ⟨h.1, ?_⟩
  rcases h.2 with h2 | ⟨g, cap, cur, hv, hg, r⟩
  · exact .inl h2
  · exact .inr ⟨g, cap, cur, hv, by omega, r⟩

theorem Own.nil (w : World) (B : Nat) : Own w B (.slice none 0 0) [] := ⟨rfl, .inl ⟨rfl, rfl⟩⟩

theorem info_Blk : (Try.prog.info? 39).map (fun i => (i.zero, i.size, i.bytes)) = some (some (.agg #[.int .i64 0, .int .i64 0, .bool false]), 3, 24) := by kernel_rfl

end Go.Proofs.Ytidkejmphhpjlaa.Wk
