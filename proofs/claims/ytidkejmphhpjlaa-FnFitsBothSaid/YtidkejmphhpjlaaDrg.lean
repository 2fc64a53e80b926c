/- The reader of a code in a longer draw: it stands in block g and has read at most q bytes; what a draw leaves as it was. Conditions: none. -/
import Derived.Test.YtidkejmphhpjlaaOpen
namespace Go.Proofs.Ytidkejmphhpjlaa.Wk
open Go.RowKit

/-- The reader stands in block g, and has read at most q bytes. -/
def Rg (w : World) (g q : Nat) : Prop := ∃ (A : Option Addr) (n c : Nat) (z : List Int) (p : Nat), p ≤ q ∧ Rdr w g A n c z p

theorem Rg.lt {w : World} {g q : Nat} (h : Rg w g q) : g < w.heap.size := by
  obtain ⟨A, n, c, z, p, hp, h⟩ := h
  exact (Array.getElem?_eq_some_iff.1 h.blk).1
theorem Rg.more {w : World} {g q q' : Nat} (h : Rg w g q) (hq : q ≤ q') : Rg w g q' := by
  obtain ⟨A, n, c, z, p, hp, h⟩ := h
  exact ⟨A, n, c, z, p, by omega, h⟩
/-- What keeps the blocks up to g keeps the reader. -/
theorem Rg.keep {w w' : World} {g q : Nat} (h : Rg w g q) (hk : ∀ k, k ≤ g → w'.heap[k]? = w.heap[k]?) : Rg w' g q := by
  obtain ⟨A, n, c, z, p, hp, h⟩ := h
  refine ⟨A, n, c, z, p, hp, (hk g (Nat.le_refl _)).trans h.blk, fun i hi => ?_, h.range, h.len⟩
  obtain ⟨b, off, rfl, hlt, hc⟩ := h.bytes i hi
  exact ⟨b, off, rfl, hlt, (World.cell?_of_block (a := ⟨b, off + i, none⟩) (hk b (Nat.le_of_lt hlt))).trans hc⟩
theorem Rg.below {w w' : World} {g q : Nat} (h : Rg w g q) (hb : Below w.heap.size w w') : Rg w' g q := h.keep fun k hk => hb.block k (Nat.lt_of_le_of_lt hk h.lt)
theorem Rg.below_ {w w' : World} {g q B : Nat} (h : Rg w g q) (hb : Below B w w') (hB : g < B) : Rg w' g q := h.keep fun k hk => hb.block k (by omega)
theorem Rg.alloc {w : World} {g q : Nat} (h : Rg w g q) (o : Obj) : Rg (w.alloc o) g q := h.keep fun k hk => Below.heap_alloc w o k (Nat.lt_of_le_of_lt hk h.lt)
theorem Rg.drew {w : World} {g q : Nat} (h : Rg w g q) : Rg w.drew g q := h.keep fun _ _ => rfl
theorem Rg.set_ {w : World} {g q : Nat} (h : Rg w g q) {p : Addr} (hp : g < p.block) (u : Value) : Rg (w.setCell p u) g q := h.keep fun k hk => Below.heap_setCell w p u k (by omega)
theorem Rg.row {w w' : World} {g q : Nat} {r : Option Nat} (h : Rg w g q) (hg : w.grownBy w' r) (hr : ∀ k, r = some k → g < k) : Rg w' g q :=
  h.keep fun k hk => hg.block k (Nat.lt_of_le_of_lt hk h.lt) (fun e => by have := hr k e.symm; omega)

/-- What pick hands back, and what it leaves. -/
def PickG (g q : Nat) (m : Int) (w : World) (e : Ending) (w' : World) : Prop :=
  ∃ x : Int, e = .returned (.int .i64 x) ∧ 0 ≤ x ∧ (x = 0 ∨ x < m) ∧ Rg w' g (q + 1) ∧ Only g w w'

theorem pick_g (g q : Nat) (m : Int) (w : World) (h : Rg w g q) (hq : q ≤ 1000000) : Calls Try.prog 55 #[.pointer (some ⟨g, 0, none⟩), .int .i64 m] w (PickG g q m w) := by
  obtain ⟨A, n, c, z, p, hp, h⟩ := h
  refine (pick_any g n c A z p m w h (by omega)).mono ?_
  rintro e w' ⟨x, rfl, h0, h1, hr, ho⟩
  exact ⟨x, rfl, h0, h1, ⟨A, n, c, z, p + 1, by omega, hr⟩, ho⟩
theorem odd_g (g q : Nat) (m : Int) (w : World) (h : Rg w g q) (hq : q ≤ 1000000) (hm : 1 ≤ m) (hm' : m ≤ 1000) : Calls Try.prog 60 #[.pointer (some ⟨g, 0, none⟩), .int .i64 m] w fun e w' =>
    ∃ b : Bool, e = .returned (.bool b) ∧ Rg w' g (q + 1) ∧ Only g w w' := by
  obtain ⟨A, n, c, z, p, hp, h⟩ := h
  refine (odd_any g n c A z p m w h (by omega) hm hm').mono ?_
  rintro e w' ⟨b, rfl, hr, ho⟩
  exact ⟨b, rfl, ⟨A, n, c, z, p + 1, by omega, hr⟩, ho⟩
/-- The reader as l20Open leaves it. -/
def OpenG (w : World) (e : Ending) (w' : World) : Prop := e = .returned (.pointer (some ⟨w.heap.size, 0, none⟩)) ∧ Rg w' w.heap.size 0 ∧ Below w.heap.size w w' ∧ w'.heap.size = w.heap.size + 1
theorem open_g {a : Option Addr} {len cap : Nat} {z : List Int} {w : World} (h : IsRow .u8 w a len cap z) : Calls Try.prog 50 #[.slice a len cap] w (OpenG w) := by
  refine (open_any h).mono ?_
  rintro e w' ⟨A, n, c, z', rfl, hr, hb, hs⟩
  exact ⟨rfl, ⟨A, n, c, z', 0, Nat.le_refl _, hr⟩, hb, hs⟩

/-- Since w, only block g and new blocks have turned. -/
structure Gr (g : Nat) (w w' : World) : Prop where
  grown : w.grownBy w' (some g)

theorem Gr.refl (g : Nat) (w : World) : Gr g w w := ⟨⟨rfl, rfl, rfl, Nat.le_refl _, fun _ _ _ => rfl⟩⟩
theorem Gr.size {g : Nat} {w w' : World} (h : Gr g w w') : w.heap.size ≤ w'.heap.size := h.grown.size
theorem Gr.only {g : Nat} {w a b : World} (h : Gr g w a) (ho : Only g a b) : Gr g w b :=
  ⟨⟨ho.grown.os.trans h.grown.os, ho.grown.tape.trans h.grown.tape, ho.grown.output.trans h.grown.output, Nat.le_trans h.grown.size ho.grown.size,
    fun k hk hne => (ho.grown.block k (Nat.lt_of_lt_of_le hk h.grown.size) hne).trans (h.grown.block k hk hne)⟩⟩
theorem Gr.trans {g : Nat} {w a b : World} (h : Gr g w a) (ho : Gr g a b) : Gr g w b :=
  ⟨⟨ho.grown.os.trans h.grown.os, ho.grown.tape.trans h.grown.tape, ho.grown.output.trans h.grown.output, Nat.le_trans h.grown.size ho.grown.size,
    fun k hk hne => (ho.grown.block k (Nat.lt_of_lt_of_le hk h.grown.size) hne).trans (h.grown.block k hk hne)⟩⟩
theorem Gr.below {g B : Nat} {w a b : World} (h : Gr g w a) (hb : Below B a b) (hB : w.heap.size ≤ B) : Gr g w b :=
  ⟨⟨hb.os.trans h.grown.os, hb.tape.trans h.grown.tape, hb.output.trans h.grown.output, Nat.le_trans h.grown.size hb.size,
    fun k hk hne => (hb.block k (by omega)).trans (h.grown.block k hk hne)⟩⟩
theorem Gr.alloc {g : Nat} {w a : World} (h : Gr g w a) (o : Obj) : Gr g w (a.alloc o) :=
  ⟨⟨h.grown.os, h.grown.tape, h.grown.output, Nat.le_trans h.grown.size (by simp), fun k hk hne => (Below.heap_alloc a o k (Nat.lt_of_lt_of_le hk h.grown.size)).trans (h.grown.block k hk hne)⟩⟩
theorem Gr.set_ {g : Nat} {w a : World} (h : Gr g w a) {p : Addr} (hp : w.heap.size ≤ p.block) (u : Value) : Gr g w (a.setCell p u) :=
  ⟨⟨h.grown.os, h.grown.tape, h.grown.output, by simpa [World.setCell] using h.grown.size, fun k hk hne => (Below.heap_setCell a p u k (by omega)).trans (h.grown.block k hk hne)⟩⟩
theorem Gr.drew {g : Nat} {w a : World} (h : Gr g w a) : Gr g w a.drew := ⟨⟨h.grown.os, h.grown.tape, h.grown.output, h.grown.size, h.grown.block⟩⟩
theorem Gr.of_only {g : Nat} {w a : World} (h : Only g w a) : Gr g w a := ⟨h.grown⟩
/-- Where the reader itself is new, all that was there is as it was. -/
theorem Below.of_gr {B g : Nat} {w a b : World} (hb : RowKit.Below B w a) (h : Gr g a b) (hB : B ≤ a.heap.size) (hg : B ≤ g) : RowKit.Below B w b :=
  hb.grown h.grown hB (fun k hk => by injection hk with hk; omega)

end Go.Proofs.Ytidkejmphhpjlaa.Wk
