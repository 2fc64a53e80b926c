/- The reader in a longer draw, in regions that draw their order. Conditions: none. -/
import Derived.Test.YtlcgfncgjljgpaaDrg
namespace Go.Proofs.Ytlcgfncgjljgpaa.Wk
open Go.RowKit

/-- Since w only the reader's block g and new blocks have turned, and the reader stands. -/
structure Dr (g q : Nat) (w W : World) : Prop where
  gr : Gr g w W
  rd : Rg W g q

theorem Dr.refl {g q : Nat} {w : World} (h : Rg w g q) : Dr g q w w := ⟨Gr.refl g w, h⟩
theorem Dr.drew {g q : Nat} {w W : World} (h : Dr g q w W) : Dr g q w W.drew := ⟨h.gr.drew, h.rd.drew⟩
theorem Dr.alloc {g q : Nat} {w W : World} (h : Dr g q w W) (o : Obj) : Dr g q w (W.alloc o) := ⟨h.gr.alloc o, h.rd.alloc o⟩
theorem only_cell' {g : Nat} {w w' : World} (h : Only g w w') {b o : Nat} (hb : b < w.heap.size) (hg : b ≠ g) : w'.cell? ⟨b, o, none⟩ = w.cell? ⟨b, o, none⟩ :=
  World.cell?_of_block (w := w) (h.grown.block b hb (fun e => hg (by injection e)))

theorem pick_dr (g q : Nat) (m : Int) (w W : World) (h : Dr g q w W) (hq : q ≤ 1000000) : Calls Try.prog 45 #[.pointer (some ⟨g, 0, none⟩), .int .i64 m] W fun e w' =>
    ∃ x : Int, e = .returned (.int .i64 x) ∧ 0 ≤ x ∧ (x = 0 ∨ x < m) ∧ Dr g (q + 1) w w' ∧ (∀ b o, b ≠ g → w'.cell? ⟨b, o, none⟩ = W.cell? ⟨b, o, none⟩) ∧ w'.heap.size = W.heap.size := by
  refine (pick_g g q m W h.rd hq).mono ?_
  rintro e w' ⟨x, rfl, h0, h1, r, o⟩
  refine ⟨x, rfl, h0, h1, ⟨h.gr.only o, r⟩, fun b o' hb => ?_, o.size⟩
  by_cases hlt : b < W.heap.size
  · exact only_cell' o hlt hb
  · have e1 : W.heap[b]? = none := Array.getElem?_eq_none (by omega)
    have e2 : w'.heap[b]? = none := Array.getElem?_eq_none (by have := o.size; omega)
    exact World.cell?_of_block (w := W) (a := ⟨b, o', none⟩) (by show w'.heap[b]? = W.heap[b]?; rw [e1, e2])

end Go.Proofs.Ytlcgfncgjljgpaa.Wk
