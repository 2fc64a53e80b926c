/- What draws by l20Ask. Conditions: none. -/
import Derived.Test.YtofolkiikmnbhaaDrk
import Derived.Test.YtofolkiikmnbhaaFirst
namespace Go.Proofs.Ytofolkiikmnbhaa.Wk
open Go.RowKit Go.Proofs.Ytofolkiikmnbhaa.Pl

/-- Blocks, a total and a number of words that were drawn. -/
def DrawA (w : World) (e : Ending) (w' : World) : Prop :=
  ∃ (A : Option Addr) (n c : Nat) (l : List Blk) (t z : Int), e = .returned (.tuple #[.slice A n c, .int .i64 t, .int .i64 z]) ∧ Own w' w.heap.size (.slice A n c) l ∧ 1 ≤ n ∧ n ≤ 258 ∧ 1 ≤ t ∧ t ≤ 65 ∧ Below w.heap.size w w'

theorem dDrawFirstFit {a : Option Addr} {len cap : Nat} {z : List Int} {w : World} (h : IsRow .u8 w a len cap z) : Calls Try.prog 62 #[.slice a len cap] w (DrawA w) := by
  have HO := Lib.hid (open_g h)
  clear h
  go_enter Try.func62, Try.ntmps62
  go_wp2_with fail
  refine HO.out.mono ?_
  rintro e w1 ⟨rfl, hr, hb, hs⟩
  have hB := hb.size
  clear hs
  go_wp2_with fail
  refine (l20Ask_any _ _ w1 hr (by omega)).mono ?_
  rintro e w2 ⟨A, n, c, l, t, z, rfl, o1, n1, n2, t1, t2, r1, G1⟩
  go_wp2
  exact bodyPost_ret (v := .tuple #[.slice A n c, .int .i64 t, .int .i64 z]) (by simp [results, Try.results62, go_sem]) rfl ⟨_, _, _, l, _, _, rfl, o1.mono hB, n1, n2, t1, t2, Below.of_gr hb G1 hB (Nat.le_refl _)⟩

theorem dDrawBestFit {a : Option Addr} {len cap : Nat} {z : List Int} {w : World} (h : IsRow .u8 w a len cap z) : Calls Try.prog 41 #[.slice a len cap] w (DrawA w) := by
  have HO := Lib.hid (open_g h)
  clear h
  go_enter Try.func41, Try.ntmps41
  go_wp2_with fail
  refine HO.out.mono ?_
  rintro e w1 ⟨rfl, hr, hb, hs⟩
  have hB := hb.size
  clear hs
  go_wp2_with fail
  refine (l20Ask_any _ _ w1 hr (by omega)).mono ?_
  rintro e w2 ⟨A, n, c, l, t, z, rfl, o1, n1, n2, t1, t2, r1, G1⟩
  go_wp2
  exact bodyPost_ret (v := .tuple #[.slice A n c, .int .i64 t, .int .i64 z]) (by simp [results, Try.results41, go_sem]) rfl ⟨_, _, _, l, _, _, rfl, o1.mono hB, n1, n2, t1, t2, Below.of_gr hb G1 hB (Nat.le_refl _)⟩

theorem dDrawTakeSliding {a : Option Addr} {len cap : Nat} {z : List Int} {w : World} (h : IsRow .u8 w a len cap z) : Calls Try.prog 69 #[.slice a len cap] w (DrawA w) := by
  have HO := Lib.hid (open_g h)
  clear h
  go_enter Try.func69, Try.ntmps69
  go_wp2_with fail
  refine HO.out.mono ?_
  rintro e w1 ⟨rfl, hr, hb, hs⟩
  have hB := hb.size
  clear hs
  go_wp2_with fail
  refine (l20Ask_any _ _ w1 hr (by omega)).mono ?_
  rintro e w2 ⟨A, n, c, l, t, z, rfl, o1, n1, n2, t1, t2, r1, G1⟩
  go_wp2
  exact bodyPost_ret (v := .tuple #[.slice A n c, .int .i64 t, .int .i64 z]) (by simp [results, Try.results69, go_sem]) rfl ⟨_, _, _, l, _, _, rfl, o1.mono hB, n1, n2, t1, t2, Below.of_gr hb G1 hB (Nat.le_refl _)⟩

/-- Blocks, a total, a block's number and a number of words that were drawn. -/
def DrawT (w : World) (e : Ending) (w' : World) : Prop :=
  ∃ (A : Option Addr) (n c : Nat) (l : List Blk) (t k z : Int), e = .returned (.tuple #[.slice A n c, .int .i64 t, .int .i64 k, .int .i64 z]) ∧ Own w' w.heap.size (.slice A n c) l ∧ 1 ≤ n ∧ n ≤ 258 ∧ 1 ≤ t ∧ t ≤ 65 ∧ Below w.heap.size w w'

/-- FirstFit of the reference gives some number. -/
theorem sFirst_some (A : Option Addr) (n c : Nat) (l : List Blk) (t z : Int) (w : World) (h : Lst w w.heap.size A n l) (hn : n ≤ 1125899906842624) : ∃ r : Int, Calls Try.prog 48 #[.slice A n c, .int .i64 t, .int .i64 z] w fun e w' => e = .returned (.int .i64 r) ∧ Below w.heap.size w w' := by
  by_cases hv : V l t
  · exact ⟨_, sFirst_yes A n c l t z w h hv⟩
  · exact ⟨_, sFirst_no A n c l t z w h hv hn⟩

set_option maxHeartbeats 2000000 in
theorem dDrawTakeBlock {a : Option Addr} {len cap : Nat} {z : List Int} {w : World} (h : IsRow .u8 w a len cap z) : Calls Try.prog 67 #[.slice a len cap] w (DrawT w) := by
  have HO := Lib.hid (open_g h)
  clear h
  go_enter Try.func67, Try.ntmps67
  go_wp2_with fail
  refine HO.out.mono ?_
  rintro e w1 ⟨rfl, hr, hb, hs⟩
  have hB := hb.size
  have hz0 : w.heap.size < w1.heap.size := hr.lt
  clear hs
  go_wp2_with fail
  refine (l20Ask_any _ _ w1 hr (by omega)).mono ?_
  rintro e w2 ⟨A, n, c, l, t, z, rfl, o1, n1, n2, t1, t2, r1, G1⟩
  have O1 := Lib.hid o1
  have D1 := Dr.refl r1
  have B1 := Below.of_gr hb G1 hB (Nat.le_refl _)
  have hz1 := G1.size
  clear o1 G1 hr hb r1
  go_wp2_with fail
  refine (pick_dr _ _ _ w2 w2 D1 (by omega)).mono ?_
  rintro e w3 ⟨x2, rfl, a2, b2, D2, _, _⟩
  have b2' : x2 ≤ 258 := by omega
  clear b2
  go_wp2_with fail
  refine (pick_dr _ _ _ w2 w3 D2 (by omega)).mono ?_
  rintro e w4 ⟨x3, rfl, a3, b3, D3, _, _⟩
  have b3' : x3 ≤ 13 := by omega
  clear b3
  go_wp2_with fail
  refine (pick_dr _ _ _ w2 w4 D3 (by omega)).mono ?_
  rintro e w5 ⟨x4, rfl, a4, b4, D4, _, _⟩
  have hx4 : x4 = 0 ∨ x4 = 1 := by omega
  have O5 := own_gr O1.out D4.gr hz0
  have B5 := Below.of_gr B1 D4.gr (by omega) (Nat.le_refl _)
  clear a4 b4 D1 D2 D3 B1
  rcases hx4 with rfl | rfl
  · obtain ⟨r, CR⟩ := sFirst_some A n c l t z w5 (by have e := (own_form O5).1; have := own_lst O5; rw [← e] at this; exact this) (by omega)
    have CH := Lib.hid CR
    clear CR
    go_wp2_with fail
    refine CH.out.mono ?_
    rintro e w6 ⟨rfl, b6⟩
    go_wp2
    exact bodyPost_ret (v := .tuple #[.slice A n c, .int .i64 t, .int .i64 r, .int .i64 z]) (by simp [results, Try.results67, go_sem]) rfl ⟨_, _, _, l, _, _, _, rfl, (O5.below b6).mono hB, n1, n2, t1, t2, B5.trans (b6.mono B5.size)⟩
  · go_wp2
    exact bodyPost_ret (v := .tuple #[.slice A n c, .int .i64 t, .int .i64 (x2 - x3 / 13), .int .i64 z]) (by simp [results, Try.results67, go_sem]) rfl ⟨_, _, _, l, _, _, _, rfl, O5.mono hB, n1, n2, t1, t2, B5⟩

end Go.Proofs.Ytofolkiikmnbhaa.Wk
