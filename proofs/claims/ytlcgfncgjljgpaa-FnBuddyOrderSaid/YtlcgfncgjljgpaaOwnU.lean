/- Slices of buddies of the call's own: what keeps them. Conditions: none. -/
import Derived.Test.YtlcgfncgjljgpaaMarkU
namespace Go.Proofs.Ytlcgfncgjljgpaa.Wu
open Go.RowKit Go.Proofs.Ytlcgfncgjljgpaa.Pl Go.Proofs.Ytlcgfncgjljgpaa.Wk

theorem own_lit (w : World) (s z : Int) (u : Bool) : Own (w.alloc (.cells #[.int .i64 s, .int .i64 z, .bool u] 44)) w.heap.size (.slice (some ⟨w.heap.size, 0, none⟩) 1 1) [⟨s, z, u⟩] :=
  ⟨rfl, .inr ⟨w.heap.size, 1, _, rfl, Nat.le_refl _, heap_alloc_new w _, Nat.le_refl _, by unfold maxLen; omega, rfl, rfl⟩⟩
theorem own_empty (w : World) : Own (w.alloc (.cells #[] 44)) w.heap.size (.slice (some ⟨w.heap.size, 0, none⟩) 0 0) [] :=
  ⟨rfl, .inr ⟨w.heap.size, 0, _, rfl, Nat.le_refl _, heap_alloc_new w _, Nat.le_refl _, by unfold maxLen; omega, rfl, rfl⟩⟩

theorem own_lst {w : World} {B : Nat} {A : Option Addr} {n c : Nat} {l : List Blk} (h : Own w B (.slice A n c) l) : Lst w w.heap.size A l.length l := by
  obtain ⟨A', c', e, hl, _⟩ := h.lst
  injection e with e1 e2 e3
  subst e1
  exact hl

theorem own_at {w : World} {B : Nat} {v : Value} {l : List Blk} (h : Own w B v l) : ∀ k, v.ownBlock = some k → B ≤ k ∧ k < w.heap.size := h.lt

/-- Writes to another block leave it. -/
theorem own_past {w w' : World} {B : Nat} {v : Value} {l : List Blk} {row : Option Nat} (h : Own w B v l) (hg : w.grownBy w' row) (hne : ∀ k, v.ownBlock = some k → row ≠ some k) : Own w' B v l := by
  refine h.kept hg ?_
  cases hv : v.ownBlock with
  | none => exact .inl rfl
  | some k => exact .inr (fun e => hne k hv e.symm)

end Go.Proofs.Ytlcgfncgjljgpaa.Wu
