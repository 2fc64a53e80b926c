/- The exact laws of functions that return blocks: common words. Conditions: none. -/
import Derived.Test.YtidkejmphhpjlaaApd
namespace Go.Proofs.Ytidkejmphhpjlaa.Wk
open Go.RowKit Go.Proofs.Ytidkejmphhpjlaa.Pl

/-- A call that returns the list R, in memory of its own, and the value x beside it. -/
def PostL (R : List Blk) (x : Value) (w : World) (e : Ending) (w' : World) : Prop :=
  ∃ A c, e = .returned (.tuple #[.slice A R.length c, x]) ∧ Own w' w.heap.size (.slice A R.length c) R ∧ Below w.heap.size w w'

theorem own_cap {w : World} {B : Nat} {A : Option Addr} {n c : Nat} {l : List Blk} (h : Own w B (.slice A n c) l) : l.length ≤ c := by
  obtain ⟨A', c', e, _, hc⟩ := row_form h
  injection e with _ _ e3
  omega

/-- A list in memory of the call's own, in a block from lo on and below hi. -/
structure Slot (w : World) (lo hi : Nat) (v : Value) (l : List Blk) : Prop where
  own : Own w lo v l
  top : ∀ k, v.ownBlock = some k → k < hi

theorem Own.slot {w : World} {B : Nat} {v : Value} {l : List Blk} (h : Own w B v l) : Slot w B w.heap.size v l := ⟨h, fun k hk => (own_at h k hk).2⟩
theorem Slot.below {w w' : World} {lo hi : Nat} {v : Value} {l : List Blk} (h : Slot w lo hi v l) (hb : Below w.heap.size w w') : Slot w' lo hi v l := ⟨h.own.below hb, h.top⟩
theorem Slot.past {w w' : World} {lo hi lo' hi' : Nat} {v v' : Value} {l l' : List Blk} (h : Slot w lo hi v l) (h' : Slot w lo' hi' v' l') (hg : w.grownBy w' v'.ownBlock) (hd : hi ≤ lo' ∨ hi' ≤ lo) : Slot w' lo hi v l :=
  ⟨own_past h.own hg (fun k hk e => by
    have a1 := h.top k hk
    have a2 := own_at h.own k hk
    have a3 := h'.top k e
    have a4 := own_at h'.own k e
    omega), h.top⟩
theorem Slot.lst {w : World} {lo hi n c : Nat} {A : Option Addr} {l : List Blk} (h : Slot w lo hi (.slice A n c) l) : Lst w w.heap.size A l.length l := own_lst h.own

end Go.Proofs.Ytidkejmphhpjlaa.Wk
