/- What draws by l20Blocks. Conditions: none. -/
import Derived.Test.YtidkejmphhpjlaaDrf
import Derived.Deep.DrawnRows
namespace Go.Proofs.Ytidkejmphhpjlaa.Wk
open Go.RowKit Go.Proofs.Ytidkejmphhpjlaa.Pl

/-- Since w only the reader's block g and new blocks have turned, and the reader stands. -/
structure Dr (g q : Nat) (w W : World) : Prop where
  gr : Gr g w W
  rd : Rg W g q

theorem Dr.refl {g q : Nat} {w : World} (h : Rg w g q) : Dr g q w w := ⟨Gr.refl g w, h⟩
theorem Dr.drew {g q : Nat} {w W : World} (h : Dr g q w W) : Dr g q w W.drew := ⟨h.gr.drew, h.rd.drew⟩
theorem Dr.alloc {g q : Nat} {w W : World} (h : Dr g q w W) (o : Obj) : Dr g q w (W.alloc o) := ⟨h.gr.alloc o, h.rd.alloc o⟩
theorem own_gr {g B : Nat} {w W : World} {v : Value} {l : List Blk} (h : Own w B v l) (hG : Gr g w W) (hg : g < B) : Own W B v l :=
  own_past h hG.grown (fun k hk e => by have := own_at h k hk; injection e with e; omega)

theorem only_cell' {g : Nat} {w w' : World} (h : Only g w w') {b o : Nat} (hb : b < w.heap.size) (hg : b ≠ g) : w'.cell? ⟨b, o, none⟩ = w.cell? ⟨b, o, none⟩ :=
  World.cell?_of_block (w := w) (h.grown.block b hb (fun e => hg (by injection e)))

theorem pick_dr (g q : Nat) (m : Int) (w W : World) (h : Dr g q w W) (hq : q ≤ 1000000) : Calls Try.prog 55 #[.pointer (some ⟨g, 0, none⟩), .int .i64 m] W fun e w' =>
    ∃ x : Int, e = .returned (.int .i64 x) ∧ 0 ≤ x ∧ (x = 0 ∨ x < m) ∧ Dr g (q + 1) w w' ∧ (∀ b o, b ≠ g → w'.cell? ⟨b, o, none⟩ = W.cell? ⟨b, o, none⟩) ∧ w'.heap.size = W.heap.size := by
  refine (pick_g g q m W h.rd hq).mono ?_
  rintro e w' ⟨x, rfl, h0, h1, r, o⟩
  refine ⟨x, rfl, h0, h1, ⟨h.gr.only o, r⟩, fun b o' hb => ?_, o.size⟩
  by_cases hlt : b < W.heap.size
  · exact only_cell' o hlt hb
  · have e1 : W.heap[b]? = none := Array.getElem?_eq_none (by omega)
    have e2 : w'.heap[b]? = none := Array.getElem?_eq_none (by have := o.size; omega)
    exact World.cell?_of_block (w := W) (a := ⟨b, o', none⟩) (by show w'.heap[b]? = W.heap[b]?; rw [e1, e2])

/-- The third pick of l20Ask, and what the two tables hold then. -/
theorem ask8 (x y : Int) (g q : Nat) (w W : World) (h : Dr g q w W) (hq : q ≤ 1000000) : Calls Try.prog 55 #[.pointer (some ⟨g, 0, none⟩), .int .i64 8] W fun e w' =>
    ∃ (k j : Nat) (v : Int), e = .returned (.int .i64 k) ∧ (0 : Int) ≤ (k : Int) ∧ (k : Int) < 8 ∧ (0 : Int) ≤ (j : Int) ∧ (j : Int) < 4 ∧
      (#[.int .i64 0, .int .i64 0, .int .i64 0, .int .i64 0, .int .i64 1, .int .i64 1, .int .i64 2, .int .i64 3] : Array Value)[k]? = some (.int .i64 j) ∧ (#[.int .i64 (1 + x), .int .i64 (1 + y), .int .i64 0, .int .i64 257] : Array Value)[j]? = some (.int .i64 v) ∧
      Dr g (q + 1) w w' ∧ (∀ b o, b ≠ g → w'.cell? ⟨b, o, none⟩ = W.cell? ⟨b, o, none⟩) ∧ w'.heap.size = W.heap.size := by
  refine (pick_dr g q 8 w W h hq).mono ?_
  rintro e w' ⟨a, rfl, h0, h1, d, hc, hs⟩
  obtain ⟨k, rfl⟩ := Int.eq_ofNat_of_zero_le h0
  have hk : k = 0 ∨ k = 1 ∨ k = 2 ∨ k = 3 ∨ k = 4 ∨ k = 5 ∨ k = 6 ∨ k = 7 := by omega
  rcases hk with rfl | rfl | rfl | rfl | rfl | rfl | rfl | rfl
  · exact ⟨0, 0, 1 + x, rfl, by omega, by omega, by omega, by omega, rfl, rfl, d, hc, hs⟩
  · exact ⟨1, 0, 1 + x, rfl, by omega, by omega, by omega, by omega, rfl, rfl, d, hc, hs⟩
  · exact ⟨2, 0, 1 + x, rfl, by omega, by omega, by omega, by omega, rfl, rfl, d, hc, hs⟩
  · exact ⟨3, 0, 1 + x, rfl, by omega, by omega, by omega, by omega, rfl, rfl, d, hc, hs⟩
  · exact ⟨4, 1, 1 + y, rfl, by omega, by omega, by omega, by omega, rfl, rfl, d, hc, hs⟩
  · exact ⟨5, 1, 1 + y, rfl, by omega, by omega, by omega, by omega, rfl, rfl, d, hc, hs⟩
  · exact ⟨6, 2, 0, rfl, by omega, by omega, by omega, by omega, rfl, rfl, d, hc, hs⟩
  · exact ⟨7, 3, 257, rfl, by omega, by omega, by omega, by omega, rfl, rfl, d, hc, hs⟩

attribute [local go_sem ↓] Go.wp_at_zero Go.wp_at_succ

/-- Blocks that were drawn, and a number of words. -/
def AskP (g q : Nat) (w : World) (e : Ending) (w' : World) : Prop :=
  ∃ (A : Option Addr) (n c : Nat) (l : List Blk) (t z : Int), e = .returned (.tuple #[.slice A n c, .int .i64 t, .int .i64 z]) ∧ Own w' w.heap.size (.slice A n c) l ∧ 1 ≤ n ∧ n ≤ 15 ∧ 1 ≤ t ∧ t ≤ 65 ∧ Rg w' g (q + 110) ∧ Gr g w w'

theorem askP_of {g q q' : Nat} {w w1 W : World} {A : Option Addr} {n c : Nat} {l : List Blk} {t z : Int} (ho : Own w1 w.heap.size (.slice A n c) l) (hG : Gr g w w1) (hD : Dr g q' w1 W) (hg : g < w.heap.size) (hq : q' ≤ q + 110) (n1 : 1 ≤ n) (n2 : n ≤ 15) (t1 : 1 ≤ t) (t2 : t ≤ 65) :
    AskP g q w (.returned (.tuple #[.slice A n c, .int .i64 t, .int .i64 z])) W :=
  ⟨A, n, c, l, t, z, rfl, own_gr ho hD.gr hg, n1, n2, t1, t2, hD.rd.more hq, hG.trans hD.gr⟩

set_option maxRecDepth 100000 in
set_option maxHeartbeats 4000000 in
theorem l20Ask_any (g q : Nat) (w : World) (h : Rg w g q) (hq : q ≤ 800000) :
    Calls Try.prog 49 #[.pointer (some ⟨g, 0, none⟩)] w (AskP g q w) := by
  have hg := h.lt
  go_enter Try.func49, Try.ntmps49
  go_wp2_with fail
  refine (l20Blocks_any g q 14 w h (by omega) (by omega) (by omega)).mono ?_
  rintro e w1 ⟨A, n, c, l, t, rfl, o1, n1, n2, t1, t2, r1, G1⟩
  have O1 := Lib.hid o1
  have D1 := Dr.refl r1
  have HG := Lib.hid G1
  have hs := G1.size
  have u1 : ¬ w1.heap.size = g := by omega
  have u2 : ¬ w1.heap.size + 1 = g := by omega
  clear o1 r1 G1 h
  go_wp2_with fail
  go_region_with (first
    | ((with_reducible refine (ask8 x2 x3 g (q + 100 + 1 + 1) w1 _ (by first | exact D3 | exact D3.alloc _ | exact (D3.alloc _).alloc _) (by omega)).mono ?_); rintro e w4 ⟨k4, j4, v4, rfl, m1, m2, m3, m4, m5, m6, D4, hc4, hz4⟩)
    | ((with_reducible refine (pick_dr g (q + 100 + 1) 70 w1 _ (by first | exact D2 | exact D2.alloc _) (by omega)).mono ?_); rintro e w3 ⟨x3, rfl, a3, b3, D3, hc3, hz3⟩; have s3 : IntKind.i64.wrap (1 + x3) = 1 + x3 := IntWalk.i64_in _ (by omega); clear b3)
    | ((with_reducible refine (pick_dr g (q + 100) 9 w1 _ (by first | exact D1.drew | exact (D1.alloc _).drew) (by omega)).mono ?_); rintro e w2 ⟨x2, rfl, a2, b2, D2, hc2, hz2⟩; have s2 : IntKind.i64.wrap (1 + x2) = 1 + x2 := IntWalk.i64_in _ (by omega); clear b2))
  all_goals
    go_wp2
    refine bodyPost_ret (v := .tuple #[.slice A n c, .int .i64 t, .int .i64 v4]) (by simp [results, Try.results49, go_sem]) rfl ?_
    first
      | exact askP_of O1.out HG.out D4 hg (by omega) n1 n2 t1 t2
      | exact askP_of O1.out HG.out (D4.alloc _) hg (by omega) n1 n2 t1 t2
      | exact askP_of O1.out HG.out ((D4.alloc _).alloc _) hg (by omega) n1 n2 t1 t2

/-- Blocks, a total and a number of words that were drawn. -/
def DrawA (w : World) (e : Ending) (w' : World) : Prop :=
  ∃ (A : Option Addr) (n c : Nat) (l : List Blk) (t z : Int), e = .returned (.tuple #[.slice A n c, .int .i64 t, .int .i64 z]) ∧ Own w' w.heap.size (.slice A n c) l ∧ 1 ≤ n ∧ n ≤ 15 ∧ 1 ≤ t ∧ t ≤ 65 ∧ Below w.heap.size w w'

theorem dDrawBestFit {a : Option Addr} {len cap : Nat} {z : List Int} {w : World} (h : IsRow .u8 w a len cap z) : Calls Try.prog 26 #[.slice a len cap] w (DrawA w) := by
  have HO := Lib.hid (open_g h)
  clear h
  go_enter Try.func26, Try.ntmps26
  go_wp2_with fail
  refine HO.out.mono ?_
  rintro e w1 ⟨rfl, hr, hb, hs⟩
  have hB := hb.size
  clear hs
  go_wp2_with fail
  refine (l20Ask_any _ _ w1 hr (by omega)).mono ?_
  rintro e w2 ⟨A, n, c, l, t, z, rfl, o1, n1, n2, t1, t2, r1, G1⟩
  go_wp2
  exact bodyPost_ret (v := .tuple #[.slice A n c, .int .i64 t, .int .i64 z]) (by simp [results, Try.results26, go_sem]) rfl ⟨_, _, _, l, _, _, rfl, o1.mono hB, n1, n2, t1, t2, Below.of_gr hb G1 hB (Nat.le_refl _)⟩

end Go.Proofs.Ytidkejmphhpjlaa.Wk
