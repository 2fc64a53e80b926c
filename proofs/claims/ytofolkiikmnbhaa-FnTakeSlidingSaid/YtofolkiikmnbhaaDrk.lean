/- l20Ask: blocks and a number of words are drawn. Conditions: none. -/
import Derived.Test.YtofolkiikmnbhaaDra
import Derived.Deep.DrawnRows
namespace Go.Proofs.Ytofolkiikmnbhaa.Wk
open Go.RowKit Go.Proofs.Ytofolkiikmnbhaa.Pl

attribute [local go_sem ↓] Go.wp_at_zero Go.wp_at_succ

/-- Blocks that were drawn, and a number of words. -/
def AskP (g q : Nat) (w : World) (e : Ending) (w' : World) : Prop :=
  ∃ (A : Option Addr) (n c : Nat) (l : List Blk) (t z : Int), e = .returned (.tuple #[.slice A n c, .int .i64 t, .int .i64 z]) ∧ Own w' w.heap.size (.slice A n c) l ∧ 1 ≤ n ∧ n ≤ 258 ∧ 1 ≤ t ∧ t ≤ 65 ∧ Rg w' g (q + 110) ∧ Gr g w w'

theorem askP_of {g q q' : Nat} {w w1 W : World} {A : Option Addr} {n c : Nat} {l : List Blk} {t z : Int} (ho : Own w1 w.heap.size (.slice A n c) l) (hG : Gr g w w1) (hD : Dr g q' w1 W) (hg : g < w.heap.size) (hq : q' ≤ q + 110) (n1 : 1 ≤ n) (n2 : n ≤ 258) (t1 : 1 ≤ t) (t2 : t ≤ 65) :
    AskP g q w (.returned (.tuple #[.slice A n c, .int .i64 t, .int .i64 z])) W :=
  ⟨A, n, c, l, t, z, rfl, own_gr ho hD.gr hg, n1, n2, t1, t2, hD.rd.more hq, hG.trans hD.gr⟩

set_option maxRecDepth 100000 in
set_option maxHeartbeats 4000000 in
theorem l20Ask_any (g q : Nat) (w : World) (h : Rg w g q) (hq : q ≤ 800000) :
    Calls Try.prog 80 #[.pointer (some ⟨g, 0, none⟩)] w (AskP g q w) := by
  have hg := h.lt
  go_enter Try.func80, Try.ntmps80
  go_wp2_with fail
  refine (l20Blocks_any g q 14 w h (by omega) (by omega) (by omega)).mono ?_
  rintro e w1 ⟨A, n, c, l, t, rfl, o1, n1, n2, t1, t2, r1, G1⟩
  have O1 := Lib.hid o1
  have D1 := Dr.refl r1
  have HG := Lib.hid G1
  have hs := G1.size
  have u1 : ¬ w1.heap.size = g := by omega
  have u2 : ¬ w1.heap.size + 1 = g := by omega
  clear o1 r1 G1 h
  go_wp2_with fail
  go_region_with (first
    | ((with_reducible refine (ask8 x2 x3 g (q + 100 + 1 + 1) w1 _ (by first | exact D3 | exact D3.alloc _ | exact (D3.alloc _).alloc _) (by omega)).mono ?_); rintro e w4 ⟨k4, j4, v4, rfl, m1, m2, m3, m4, m5, m6, D4, hc4, hz4⟩)
    | ((with_reducible refine (pick_dr g (q + 100 + 1) 70 w1 _ (by first | exact D2 | exact D2.alloc _) (by omega)).mono ?_); rintro e w3 ⟨x3, rfl, a3, b3, D3, hc3, hz3⟩; have s3 : IntKind.i64.wrap (1 + x3) = 1 + x3 := IntWalk.i64_in _ (by omega); clear b3)
    | ((with_reducible refine (pick_dr g (q + 100) 9 w1 _ (by first | exact D1.drew | exact (D1.alloc _).drew) (by omega)).mono ?_); rintro e w2 ⟨x2, rfl, a2, b2, D2, hc2, hz2⟩; have s2 : IntKind.i64.wrap (1 + x2) = 1 + x2 := IntWalk.i64_in _ (by omega); clear b2))
  all_goals
    go_wp2
    refine bodyPost_ret (v := .tuple #[.slice A n c, .int .i64 t, .int .i64 v4]) (by simp [results, Try.results80, go_sem]) rfl ?_
    first
      | exact askP_of O1.out HG.out D4 hg (by omega) n1 n2 t1 t2
      | exact askP_of O1.out HG.out (D4.alloc _) hg (by omega) n1 n2 t1 t2
      | exact askP_of O1.out HG.out ((D4.alloc _).alloc _) hg (by omega) n1 n2 t1 t2

end Go.Proofs.Ytofolkiikmnbhaa.Wk
