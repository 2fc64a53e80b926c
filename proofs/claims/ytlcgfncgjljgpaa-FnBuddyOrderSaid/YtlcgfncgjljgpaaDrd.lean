/- The draws of buddies. Conditions: none. -/
import Derived.Test.YtlcgfncgjljgpaaDru
import Derived.Test.YtlcgfncgjljgpaaDrx
import Derived.Deep.RegionWith
import Derived.Deep.DrawnRows
namespace Go.Proofs.Ytlcgfncgjljgpaa.Wu
open Go.RowKit Go.Proofs.Ytlcgfncgjljgpaa.Pl Go.Proofs.Ytlcgfncgjljgpaa.Wk

/-- Buddies and a power that were drawn. -/
def DrawU (w : World) (e : Ending) (w' : World) : Prop :=
  ∃ (A : Option Addr) (n c : Nat) (l : List Blk) (p : Int), e = .returned (.tuple #[.slice A n c, .int .i64 p]) ∧ Own w' w.heap.size (.slice A n c) l ∧ 1 ≤ n ∧ n ≤ 258 ∧ Below w.heap.size w w'
/-- Buddies, a power and a number that were drawn. -/
def DrawV (w : World) (e : Ending) (w' : World) : Prop :=
  ∃ (A : Option Addr) (n c : Nat) (l : List Blk) (p z : Int), e = .returned (.tuple #[.slice A n c, .int .i64 p, .int .i64 z]) ∧ Own w' w.heap.size (.slice A n c) l ∧ 1 ≤ n ∧ n ≤ 258 ∧ Below w.heap.size w w'

theorem dDrawBuddiesValid {a : Option Addr} {len cap : Nat} {z : List Int} {w : World} (h : IsRow .u8 w a len cap z) : Calls Try.prog 30 #[.slice a len cap] w (DrawU w) := by
  have HO := Lib.hid (open_g h)
  clear h
  go_enter Try.func30, Try.ntmps30
  go_wp2_with fail
  refine HO.out.mono ?_
  rintro e w1 ⟨rfl, hr, hb, hs⟩
  have hB := hb.size
  clear hs
  go_wp2_with fail
  refine (l20Buddies_any _ _ 2 w1 hr (by omega) (by omega) (by omega)).mono ?_
  rintro e w2 ⟨A, n, c, l, p, rfl, o1, n1, n2, r1, G1⟩
  go_wp2
  exact bodyPost_ret (v := .tuple #[.slice A n c, .int .i64 p]) (by simp [results, Try.results30, go_sem]) rfl ⟨_, _, _, l, _, rfl, o1.mono hB, n1, n2, Below.of_gr hb G1 hB (Nat.le_refl _)⟩

theorem dDrawBuddyFree {a : Option Addr} {len cap : Nat} {z : List Int} {w : World} (h : IsRow .u8 w a len cap z) : Calls Try.prog 33 #[.slice a len cap] w (DrawU w) := by
  have HO := Lib.hid (open_g h)
  clear h
  go_enter Try.func33, Try.ntmps33
  go_wp2_with fail
  refine HO.out.mono ?_
  rintro e w1 ⟨rfl, hr, hb, hs⟩
  have hB := hb.size
  clear hs
  go_wp2_with fail
  refine (l20Buddies_any _ _ 9 w1 hr (by omega) (by omega) (by omega)).mono ?_
  rintro e w2 ⟨A, n, c, l, p, rfl, o1, n1, n2, r1, G1⟩
  go_wp2
  exact bodyPost_ret (v := .tuple #[.slice A n c, .int .i64 p]) (by simp [results, Try.results33, go_sem]) rfl ⟨_, _, _, l, _, rfl, o1.mono hB, n1, n2, Below.of_gr hb G1 hB (Nat.le_refl _)⟩

attribute [local go_sem ↓] Go.wp_at_zero Go.wp_at_succ

/-- The third pick of DrawBuddyTake, and what the two tables hold then. -/
theorem ask8 (x y : Int) (g q : Nat) (w W : World) (h : Dr g q w W) (hq : q ≤ 1000000) : Calls Try.prog 45 #[.pointer (some ⟨g, 0, none⟩), .int .i64 8] W fun e w' =>
    ∃ (k j : Nat) (v : Int), e = .returned (.int .i64 k) ∧ (0 : Int) ≤ (k : Int) ∧ (k : Int) < 8 ∧ (0 : Int) ≤ (j : Int) ∧ (j : Int) < 4 ∧
      (#[.int .i64 0, .int .i64 0, .int .i64 0, .int .i64 0, .int .i64 1, .int .i64 1, .int .i64 2, .int .i64 3] : Array Value)[k]? = some (.int .i64 j) ∧ (#[.int .i64 (1 + x), .int .i64 (1 + y), .int .i64 0, .int .i64 257] : Array Value)[j]? = some (.int .i64 v) ∧
      Dr g (q + 1) w w' ∧ (∀ b o, b ≠ g → w'.cell? ⟨b, o, none⟩ = W.cell? ⟨b, o, none⟩) ∧ w'.heap.size = W.heap.size := by
  refine (pick_dr g q 8 w W h hq).mono ?_
  rintro e w' ⟨a, rfl, h0, h1, d, hc, hs⟩
  obtain ⟨k, rfl⟩ := Int.eq_ofNat_of_zero_le h0
  have hk : k = 0 ∨ k = 1 ∨ k = 2 ∨ k = 3 ∨ k = 4 ∨ k = 5 ∨ k = 6 ∨ k = 7 := by omega
  rcases hk with rfl | rfl | rfl | rfl | rfl | rfl | rfl | rfl
  · exact ⟨0, 0, 1 + x, rfl, by omega, by omega, by omega, by omega, rfl, rfl, d, hc, hs⟩
  · exact ⟨1, 0, 1 + x, rfl, by omega, by omega, by omega, by omega, rfl, rfl, d, hc, hs⟩
  · exact ⟨2, 0, 1 + x, rfl, by omega, by omega, by omega, by omega, rfl, rfl, d, hc, hs⟩
  · exact ⟨3, 0, 1 + x, rfl, by omega, by omega, by omega, by omega, rfl, rfl, d, hc, hs⟩
  · exact ⟨4, 1, 1 + y, rfl, by omega, by omega, by omega, by omega, rfl, rfl, d, hc, hs⟩
  · exact ⟨5, 1, 1 + y, rfl, by omega, by omega, by omega, by omega, rfl, rfl, d, hc, hs⟩
  · exact ⟨6, 2, 0, rfl, by omega, by omega, by omega, by omega, rfl, rfl, d, hc, hs⟩
  · exact ⟨7, 3, 257, rfl, by omega, by omega, by omega, by omega, rfl, rfl, d, hc, hs⟩
/-- The fourth pick of DrawBuddyGive, and what the table holds then. -/
theorem ask4 (x y v : Int) (g q : Nat) (w W : World) (h : Dr g q w W) (hq : q ≤ 1000000) : Calls Try.prog 45 #[.pointer (some ⟨g, 0, none⟩), .int .i64 4] W fun e w' =>
    ∃ (k : Nat) (u : Int), e = .returned (.int .i64 k) ∧ (0 : Int) ≤ (k : Int) ∧ (k : Int) < 4 ∧
      (#[.int .i64 x, .int .i64 y, .int .i64 v, .int .i64 (-1)] : Array Value)[k]? = some (.int .i64 u) ∧
      Dr g (q + 1) w w' ∧ (∀ b o, b ≠ g → w'.cell? ⟨b, o, none⟩ = W.cell? ⟨b, o, none⟩) ∧ w'.heap.size = W.heap.size := by
  refine (pick_dr g q 4 w W h hq).mono ?_
  rintro e w' ⟨a, rfl, h0, h1, d, hc, hs⟩
  obtain ⟨k, rfl⟩ := Int.eq_ofNat_of_zero_le h0
  have hk : k = 0 ∨ k = 1 ∨ k = 2 ∨ k = 3 := by omega
  rcases hk with rfl | rfl | rfl | rfl
  · exact ⟨0, x, rfl, by omega, by omega, rfl, d, hc, hs⟩
  · exact ⟨1, y, rfl, by omega, by omega, rfl, d, hc, hs⟩
  · exact ⟨2, v, rfl, by omega, by omega, rfl, d, hc, hs⟩
  · exact ⟨3, -1, rfl, by omega, by omega, rfl, d, hc, hs⟩
/-- A pick among n, as a place. -/
theorem pick_at (g q n : Nat) (hn : 0 < n) (w W : World) (h : Dr g q w W) (hq : q ≤ 1000000) : Calls Try.prog 45 #[.pointer (some ⟨g, 0, none⟩), .int .i64 n] W fun e w' =>
    ∃ k : Nat, e = .returned (.int .i64 k) ∧ (0 : Int) ≤ (k : Int) ∧ (k : Int) < n ∧ Dr g (q + 1) w w' ∧ (∀ b o, b ≠ g → w'.cell? ⟨b, o, none⟩ = W.cell? ⟨b, o, none⟩) ∧ w'.heap.size = W.heap.size := by
  refine (pick_dr g q n w W h hq).mono ?_
  rintro e w' ⟨a, rfl, h0, h1, d, hc, hs⟩
  obtain ⟨k, rfl⟩ := Int.eq_ofNat_of_zero_le h0
  exact ⟨k, rfl, h0, by omega, d, hc, hs⟩

theorem drawV_of {g q' : Nat} {w w0 w1 W : World} {A : Option Addr} {n c : Nat} {l : List Blk} {p z : Int} (ho : Own w1 w0.heap.size (.slice A n c) l) (hb : Below w.heap.size w w0) (hG : Gr g w0 w1) (hD : Dr g q' w1 W) (hg : g < w0.heap.size) (hwg : w.heap.size ≤ g) (n1 : 1 ≤ n) (n2 : n ≤ 258) :
    DrawV w (.returned (.tuple #[.slice A n c, .int .i64 p, .int .i64 z])) W :=
  ⟨A, n, c, l, p, z, rfl, (own_gr ho hD.gr hg).mono hb.size, n1, n2, Below.of_gr hb (hG.trans hD.gr) hb.size hwg⟩

set_option maxRecDepth 100000 in
set_option maxHeartbeats 4000000 in
theorem dDrawBuddyTake {a : Option Addr} {len cap : Nat} {z : List Int} {w : World} (h : IsRow .u8 w a len cap z) : Calls Try.prog 36 #[.slice a len cap] w (DrawV w) := by
  have HO := Lib.hid (open_g h)
  clear h
  go_enter Try.func36, Try.ntmps36
  go_wp2_with fail
  refine HO.out.mono ?_
  rintro e w0 ⟨rfl, hr, hb, hs⟩
  have hg := hr.lt
  clear hs
  go_wp2_with fail
  refine (l20Buddies_any _ _ 14 w0 hr (by omega) (by omega) (by omega)).mono ?_
  rintro e w1 ⟨A, n, c, l, p, rfl, o1, n1, n2, r1, G1⟩
  have hwg : w.heap.size ≤ w.heap.size := Nat.le_refl _
  obtain ⟨g, hG⟩ : ∃ g, w.heap.size = g := ⟨_, rfl⟩
  have hb' : Below w.heap.size w w0 := hb
  have hwg' : w.heap.size ≤ g := by omega
  rw [hG] at hg r1 G1 ⊢
  have O1 := Lib.hid o1
  have D1 := Dr.refl r1
  have HG := Lib.hid G1
  have hs := G1.size
  have u1 : ¬ w1.heap.size = g := by omega
  have u2 : ¬ w1.heap.size + 1 = g := by omega
  have HB := Lib.hid hb'
  clear o1 r1 G1 hr hb hG hb' hwg HO
  go_wp2_with fail
  go_region_with (first
    | ((with_reducible refine (ask8 x2 x3 g (0 + 100 + 1 + 1) w1 _ (by first | exact D3 | exact D3.alloc _ | exact (D3.alloc _).alloc _) (by omega)).mono ?_); rintro e w4 ⟨k4, j4, v4, rfl, m1, m2, m3, m4, m5, m6, D4, hc4, hz4⟩)
    | ((with_reducible refine (pick_dr g (0 + 100 + 1) 256 w1 _ (by first | exact D2 | exact D2.alloc _) (by omega)).mono ?_); rintro e w3 ⟨x3, rfl, a3, b3, D3, hc3, hz3⟩; have s3 : IntKind.i64.wrap (1 + x3) = 1 + x3 := IntWalk.i64_in _ (by omega); clear b3)
    | ((with_reducible refine (pick_dr g (0 + 100) 9 w1 _ (by first | exact D1.drew | exact (D1.alloc _).drew) (by omega)).mono ?_); rintro e w2 ⟨x2, rfl, a2, b2, D2, hc2, hz2⟩; have s2 : IntKind.i64.wrap (1 + x2) = 1 + x2 := IntWalk.i64_in _ (by omega); clear b2))
  all_goals
    go_wp2
    refine bodyPost_ret (v := .tuple #[.slice A n c, .int .i64 p, .int .i64 v4]) (by simp [results, Try.results36, go_sem]) rfl ?_
    first
      | exact drawV_of O1.out HB.out HG.out D4 hg hwg' n1 n2
      | exact drawV_of O1.out HB.out HG.out (D4.alloc _) hg hwg' n1 n2
      | exact drawV_of O1.out HB.out HG.out ((D4.alloc _).alloc _) hg hwg' n1 n2

end Go.Proofs.Ytlcgfncgjljgpaa.Wu
