/- What draws by l20Blocks. Conditions: none. -/
import Derived.Test.YtofolkiikmnbhaaDrb
namespace Go.Proofs.Ytofolkiikmnbhaa.Wk
open Go.RowKit Go.Proofs.Ytofolkiikmnbhaa.Pl

/-- Since w only the reader's block g and new blocks have turned, and the reader stands. -/
structure Dr (g q : Nat) (w W : World) : Prop where
  gr : Gr g w W
  rd : Rg W g q

theorem Dr.refl {g q : Nat} {w : World} (h : Rg w g q) : Dr g q w w := ⟨Gr.refl g w, h⟩
theorem Dr.drew {g q : Nat} {w W : World} (h : Dr g q w W) : Dr g q w W.drew := ⟨h.gr.drew, h.rd.drew⟩
theorem Dr.alloc {g q : Nat} {w W : World} (h : Dr g q w W) (o : Obj) : Dr g q w (W.alloc o) := ⟨h.gr.alloc o, h.rd.alloc o⟩
theorem own_gr {g B : Nat} {w W : World} {v : Value} {l : List Blk} (h : Own w B v l) (hG : Gr g w W) (hg : g < B) : Own W B v l :=
  own_past h hG.grown (fun k hk e => by have := own_at h k hk; injection e with e; omega)

theorem only_cell' {g : Nat} {w w' : World} (h : Only g w w') {b o : Nat} (hb : b < w.heap.size) (hg : b ≠ g) : w'.cell? ⟨b, o, none⟩ = w.cell? ⟨b, o, none⟩ :=
  World.cell?_of_block (w := w) (h.grown.block b hb (fun e => hg (by injection e)))

theorem pick_dr (g q : Nat) (m : Int) (w W : World) (h : Dr g q w W) (hq : q ≤ 1000000) : Calls Try.prog 82 #[.pointer (some ⟨g, 0, none⟩), .int .i64 m] W fun e w' =>
    ∃ x : Int, e = .returned (.int .i64 x) ∧ 0 ≤ x ∧ (x = 0 ∨ x < m) ∧ Dr g (q + 1) w w' ∧ (∀ b o, b ≠ g → w'.cell? ⟨b, o, none⟩ = W.cell? ⟨b, o, none⟩) ∧ w'.heap.size = W.heap.size := by
  refine (pick_g g q m W h.rd hq).mono ?_
  rintro e w' ⟨x, rfl, h0, h1, r, o⟩
  refine ⟨x, rfl, h0, h1, ⟨h.gr.only o, r⟩, fun b o' hb => ?_, o.size⟩
  by_cases hlt : b < W.heap.size
  · exact only_cell' o hlt hb
  · have e1 : W.heap[b]? = none := Array.getElem?_eq_none (by omega)
    have e2 : w'.heap[b]? = none := Array.getElem?_eq_none (by have := o.size; omega)
    exact World.cell?_of_block (w := W) (a := ⟨b, o', none⟩) (by show w'.heap[b]? = W.heap[b]?; rw [e1, e2])

/-- The third pick of l20Ask, and what the two tables hold then. -/
theorem ask8 (x y : Int) (g q : Nat) (w W : World) (h : Dr g q w W) (hq : q ≤ 1000000) : Calls Try.prog 82 #[.pointer (some ⟨g, 0, none⟩), .int .i64 8] W fun e w' =>
    ∃ (k j : Nat) (v : Int), e = .returned (.int .i64 k) ∧ (0 : Int) ≤ (k : Int) ∧ (k : Int) < 8 ∧ (0 : Int) ≤ (j : Int) ∧ (j : Int) < 4 ∧
      (#[.int .i64 0, .int .i64 0, .int .i64 0, .int .i64 0, .int .i64 1, .int .i64 1, .int .i64 2, .int .i64 3] : Array Value)[k]? = some (.int .i64 j) ∧ (#[.int .i64 (1 + x), .int .i64 (1 + y), .int .i64 0, .int .i64 257] : Array Value)[j]? = some (.int .i64 v) ∧
      Dr g (q + 1) w w' ∧ (∀ b o, b ≠ g → w'.cell? ⟨b, o, none⟩ = W.cell? ⟨b, o, none⟩) ∧ w'.heap.size = W.heap.size := by
  refine (pick_dr g q 8 w W h hq).mono ?_
  rintro e w' ⟨a, rfl, h0, h1, d, hc, hs⟩
  obtain ⟨k, rfl⟩ := Int.eq_ofNat_of_zero_le h0
  have hk : k = 0 ∨ k = 1 ∨ k = 2 ∨ k = 3 ∨ k = 4 ∨ k = 5 ∨ k = 6 ∨ k = 7 := by omega
  rcases hk with rfl | rfl | rfl | rfl | rfl | rfl | rfl | rfl
  · exact ⟨0, 0, 1 + x, rfl, by omega, by omega, by omega, by omega, rfl, rfl, d, hc, hs⟩
  · exact ⟨1, 0, 1 + x, rfl, by omega, by omega, by omega, by omega, rfl, rfl, d, hc, hs⟩
  · exact ⟨2, 0, 1 + x, rfl, by omega, by omega, by omega, by omega, rfl, rfl, d, hc, hs⟩
  · exact ⟨3, 0, 1 + x, rfl, by omega, by omega, by omega, by omega, rfl, rfl, d, hc, hs⟩
  · exact ⟨4, 1, 1 + y, rfl, by omega, by omega, by omega, by omega, rfl, rfl, d, hc, hs⟩
  · exact ⟨5, 1, 1 + y, rfl, by omega, by omega, by omega, by omega, rfl, rfl, d, hc, hs⟩
  · exact ⟨6, 2, 0, rfl, by omega, by omega, by omega, by omega, rfl, rfl, d, hc, hs⟩
  · exact ⟨7, 3, 257, rfl, by omega, by omega, by omega, by omega, rfl, rfl, d, hc, hs⟩

/-- Blocks and a total that were drawn. -/
def DrawB (w : World) (e : Ending) (w' : World) : Prop :=
  ∃ (A : Option Addr) (n c : Nat) (l : List Blk) (t : Int), e = .returned (.tuple #[.slice A n c, .int .i64 t]) ∧ Own w' w.heap.size (.slice A n c) l ∧ 1 ≤ n ∧ n ≤ 258 ∧ 1 ≤ t ∧ t ≤ 65 ∧ Below w.heap.size w w'

theorem dDrawBlocksValid {a : Option Addr} {len cap : Nat} {z : List Int} {w : World} (h : IsRow .u8 w a len cap z) : Calls Try.prog 57 #[.slice a len cap] w (DrawB w) := by
  have HO := Lib.hid (open_g h)
  clear h
  go_enter Try.func57, Try.ntmps57
  go_wp2_with fail
  refine HO.out.mono ?_
  rintro e w1 ⟨rfl, hr, hb, hs⟩
  have hB := hb.size
  clear hs
  go_wp2_with fail
  refine (l20Blocks_any _ _ 2 w1 hr (by omega) (by omega) (by omega)).mono ?_
  rintro e w2 ⟨A, n, c, l, t, rfl, o1, n1, n2, t1, t2, r1, G1⟩
  go_wp2
  exact bodyPost_ret (v := .tuple #[.slice A n c, .int .i64 t]) (by simp [results, Try.results57, go_sem]) rfl ⟨_, _, _, l, _, rfl, o1.mono hB, n1, n2, t1, t2, Below.of_gr hb G1 hB (Nat.le_refl _)⟩

theorem dDrawFreeWords {a : Option Addr} {len cap : Nat} {z : List Int} {w : World} (h : IsRow .u8 w a len cap z) : Calls Try.prog 66 #[.slice a len cap] w (DrawB w) := by
  have HO := Lib.hid (open_g h)
  clear h
  go_enter Try.func66, Try.ntmps66
  go_wp2_with fail
  refine HO.out.mono ?_
  rintro e w1 ⟨rfl, hr, hb, hs⟩
  have hB := hb.size
  clear hs
  go_wp2_with fail
  refine (l20Blocks_any _ _ 9 w1 hr (by omega) (by omega) (by omega)).mono ?_
  rintro e w2 ⟨A, n, c, l, t, rfl, o1, n1, n2, t1, t2, r1, G1⟩
  go_wp2
  exact bodyPost_ret (v := .tuple #[.slice A n c, .int .i64 t]) (by simp [results, Try.results66, go_sem]) rfl ⟨_, _, _, l, _, rfl, o1.mono hB, n1, n2, t1, t2, Below.of_gr hb G1 hB (Nat.le_refl _)⟩

theorem dDrawLargestFree {a : Option Addr} {len cap : Nat} {z : List Int} {w : World} (h : IsRow .u8 w a len cap z) : Calls Try.prog 65 #[.slice a len cap] w (DrawB w) := by
  have HO := Lib.hid (open_g h)
  clear h
  go_enter Try.func65, Try.ntmps65
  go_wp2_with fail
  refine HO.out.mono ?_
  rintro e w1 ⟨rfl, hr, hb, hs⟩
  have hB := hb.size
  clear hs
  go_wp2_with fail
  refine (l20Blocks_any _ _ 9 w1 hr (by omega) (by omega) (by omega)).mono ?_
  rintro e w2 ⟨A, n, c, l, t, rfl, o1, n1, n2, t1, t2, r1, G1⟩
  go_wp2
  exact bodyPost_ret (v := .tuple #[.slice A n c, .int .i64 t]) (by simp [results, Try.results65, go_sem]) rfl ⟨_, _, _, l, _, rfl, o1.mono hB, n1, n2, t1, t2, Below.of_gr hb G1 hB (Nat.le_refl _)⟩

theorem dDrawFragmented {a : Option Addr} {len cap : Nat} {z : List Int} {w : World} (h : IsRow .u8 w a len cap z) : Calls Try.prog 70 #[.slice a len cap] w (DrawB w) := by
  have HO := Lib.hid (open_g h)
  clear h
  go_enter Try.func70, Try.ntmps70
  go_wp2_with fail
  refine HO.out.mono ?_
  rintro e w1 ⟨rfl, hr, hb, hs⟩
  have hB := hb.size
  clear hs
  go_wp2_with fail
  refine (l20Blocks_any _ _ 9 w1 hr (by omega) (by omega) (by omega)).mono ?_
  rintro e w2 ⟨A, n, c, l, t, rfl, o1, n1, n2, t1, t2, r1, G1⟩
  go_wp2
  exact bodyPost_ret (v := .tuple #[.slice A n c, .int .i64 t]) (by simp [results, Try.results70, go_sem]) rfl ⟨_, _, _, l, _, rfl, o1.mono hB, n1, n2, t1, t2, Below.of_gr hb G1 hB (Nat.le_refl _)⟩

theorem dDrawSlideBlocks {a : Option Addr} {len cap : Nat} {z : List Int} {w : World} (h : IsRow .u8 w a len cap z) : Calls Try.prog 68 #[.slice a len cap] w (DrawB w) := by
  have HO := Lib.hid (open_g h)
  clear h
  go_enter Try.func68, Try.ntmps68
  go_wp2_with fail
  refine HO.out.mono ?_
  rintro e w1 ⟨rfl, hr, hb, hs⟩
  have hB := hb.size
  clear hs
  go_wp2_with fail
  refine (l20Blocks_any _ _ 9 w1 hr (by omega) (by omega) (by omega)).mono ?_
  rintro e w2 ⟨A, n, c, l, t, rfl, o1, n1, n2, t1, t2, r1, G1⟩
  go_wp2
  exact bodyPost_ret (v := .tuple #[.slice A n c, .int .i64 t]) (by simp [results, Try.results68, go_sem]) rfl ⟨_, _, _, l, _, rfl, o1.mono hB, n1, n2, t1, t2, Below.of_gr hb G1 hB (Nat.le_refl _)⟩

/-- Blocks, a total and a number that were drawn. -/
def DrawBlockAtP (w : World) (e : Ending) (w' : World) : Prop :=
  ∃ (A : Option Addr) (n c : Nat) (l : List Blk) (t x : Int), e = .returned (.tuple #[.slice A n c, .int .i64 t, .int .i64 x]) ∧ Own w' w.heap.size (.slice A n c) l ∧ 1 ≤ n ∧ n ≤ 258 ∧ 1 ≤ t ∧ t ≤ 65 ∧ -2 ≤ x ∧ x ≤ 300 ∧ Below w.heap.size w w'
set_option maxHeartbeats 1000000 in
theorem dDrawBlockAt {a : Option Addr} {len cap : Nat} {z : List Int} {w : World} (h : IsRow .u8 w a len cap z) : Calls Try.prog 63 #[.slice a len cap] w (DrawBlockAtP w) := by
  have HO := Lib.hid (open_g h)
  clear h
  go_enter Try.func63, Try.ntmps63
  go_wp2_with fail
  refine HO.out.mono ?_
  rintro e w1 ⟨rfl, hr, hb, hs⟩
  have hB := hb.size
  have hr0 := hr.lt
  clear hs
  go_wp2_with fail
  refine (l20Blocks_any _ _ 12 w1 hr (by omega) (by omega) (by omega)).mono ?_
  rintro e w2 ⟨A, n, c, l, t, rfl, o1, n1, n2, t1, t2, r1, G1⟩
  have O1 := Lib.hid o1
  have D1 := Dr.refl r1
  have B1 := Below.of_gr hb G1 hB (Nat.le_refl _)
  have hz1 := G1.size
  clear o1 G1 hr hb
  have hz0 : w.heap.size < w1.heap.size := hr0
  go_wp2_with fail
  refine (pick_dr _ _ _ w2 w2 D1 (by omega)).mono ?_
  rintro e w3 ⟨x2, rfl, a2, b2, D2, _, _⟩
  have b2' : x2 ≤ 66 := by omega
  go_wp2
  exact bodyPost_ret (v := .tuple #[.slice A n c, .int .i64 t, .int .i64 (x2 - 1)]) (by simp [results, Try.results63, go_sem]) rfl ⟨_, _, _, l, _, _, rfl, (own_gr O1.out (D2).gr hz0).mono hB, n1, n2, t1, t2, by omega, by omega, Below.of_gr B1 (D2).gr (by omega) (Nat.le_refl _)⟩

/-- Blocks, a total and a number that were drawn. -/
def DrawGiveBlockP (w : World) (e : Ending) (w' : World) : Prop :=
  ∃ (A : Option Addr) (n c : Nat) (l : List Blk) (t x : Int), e = .returned (.tuple #[.slice A n c, .int .i64 t, .int .i64 x]) ∧ Own w' w.heap.size (.slice A n c) l ∧ 1 ≤ n ∧ n ≤ 258 ∧ 1 ≤ t ∧ t ≤ 65 ∧ -2 ≤ x ∧ x ≤ 300 ∧ Below w.heap.size w w'
set_option maxHeartbeats 1000000 in
theorem dDrawGiveBlock {a : Option Addr} {len cap : Nat} {z : List Int} {w : World} (h : IsRow .u8 w a len cap z) : Calls Try.prog 64 #[.slice a len cap] w (DrawGiveBlockP w) := by
  have HO := Lib.hid (open_g h)
  clear h
  go_enter Try.func64, Try.ntmps64
  go_wp2_with fail
  refine HO.out.mono ?_
  rintro e w1 ⟨rfl, hr, hb, hs⟩
  have hB := hb.size
  have hr0 := hr.lt
  clear hs
  go_wp2_with fail
  refine (l20Blocks_any _ _ 14 w1 hr (by omega) (by omega) (by omega)).mono ?_
  rintro e w2 ⟨A, n, c, l, t, rfl, o1, n1, n2, t1, t2, r1, G1⟩
  have O1 := Lib.hid o1
  have D1 := Dr.refl r1
  have B1 := Below.of_gr hb G1 hB (Nat.le_refl _)
  have hz1 := G1.size
  clear o1 G1 hr hb
  have hz0 : w.heap.size < w1.heap.size := hr0
  go_wp2_with fail
  refine (pick_dr _ _ _ w2 w2 D1 (by omega)).mono ?_
  rintro e w3 ⟨x2, rfl, a2, b2, D2, _, _⟩
  have b2' : x2 ≤ 258 := by omega
  clear b2
  go_wp2_with fail
  refine (pick_dr _ _ _ w2 w3 D2 (by omega)).mono ?_
  rintro e w4 ⟨x3, rfl, a3, b3, D3, _, _⟩
  have b3' : x3 ≤ 13 := by omega
  clear b3
  go_wp2
  exact bodyPost_ret (v := .tuple #[.slice A n c, .int .i64 t, .int .i64 (x2 - x3 / 13)]) (by simp [results, Try.results64, go_sem]) rfl ⟨_, _, _, l, _, _, rfl, (own_gr O1.out (D3).gr hz0).mono hB, n1, n2, t1, t2, by omega, by omega, Below.of_gr B1 (D3).gr (by omega) (Nat.le_refl _)⟩

end Go.Proofs.Ytofolkiikmnbhaa.Wk
