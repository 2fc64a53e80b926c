/- DrawBuddyGive. Conditions: none. -/
import Derived.Test.YtlcgfncgjljgpaaDrd
namespace Go.Proofs.Ytlcgfncgjljgpaa.Wu
open Go.RowKit Go.Proofs.Ytlcgfncgjljgpaa.Pl Go.Proofs.Ytlcgfncgjljgpaa.Wk

attribute [local go_sem ↓] Go.wp_at_zero Go.wp_at_succ

set_option maxRecDepth 100000 in
set_option maxHeartbeats 8000000 in
theorem dDrawBuddyGive {a : Option Addr} {len cap : Nat} {z : List Int} {w : World} (h : IsRow .u8 w a len cap z) : Calls Try.prog 34 #[.slice a len cap] w (DrawV w) := by
  have HO := Lib.hid (open_g h)
  clear h
  go_enter Try.func34, Try.ntmps34
  go_wp2_with fail
  refine HO.out.mono ?_
  rintro e w0 ⟨rfl, hr, hb, hs⟩
  have hg := hr.lt
  clear hs
  go_wp2_with fail
  refine (l20Buddies_any _ _ 14 w0 hr (by omega) (by omega) (by omega)).mono ?_
  rintro e w1 ⟨A, n, c, l, p, rfl, o1, n1, n2, r1, G1⟩
  obtain ⟨g, hG⟩ : ∃ g, w.heap.size = g := ⟨_, rfl⟩
  have hwg' : w.heap.size ≤ g := by omega
  have hb' : Below w.heap.size w w0 := hb
  obtain ⟨gl, rfl, gl0, gl1⟩ := (own_form o1).2 (by omega)
  have hn0 : 0 < n := by omega
  rw [hG] at hg r1 G1 ⊢
  have O1 := Lib.hid o1
  have D1 := Dr.refl r1
  have HG := Lib.hid G1
  have hs := G1.size
  have u1 : ¬ w1.heap.size = g := by omega
  have u3 : ¬ gl = g := by omega
  have u4 : gl ≠ w1.heap.size := by omega
  have u5 : ¬ gl = w1.heap.size := by omega
  have HB := Lib.hid hb'
  have HCL := Lib.hid (fun (k : Nat) (hk : (k : Int) < n) => (own_cells O1.out (k := k) (by have := (own_form O1.out).1; omega)).1)
  clear o1 r1 G1 hr hb hG hb' HO
  go_wp2_with fail
  go_region_with (first
    | ((with_reducible refine (ask4 (bk l k2).s (bk l k3).s x4 g (0 + 100 + 1 + 1 + 1) w1 _ (by first | exact D4 | exact D4.alloc _) (by omega)).mono ?_); rintro e w5 ⟨k5, v5, rfl, m1, m2, m3, D5, hc5, hz5⟩)
    | ((with_reducible refine (pick_dr g (0 + 100 + 1 + 1) 256 w1 _ (by first | exact D3 | exact D3.alloc _) (by omega)).mono ?_); rintro e w4 ⟨x4, rfl, a4, b4, D4, hc4, hz4⟩; clear b4)
    | ((with_reducible refine (pick_at g (0 + 100 + 1) n hn0 w1 _ (by first | exact D2 | exact D2.alloc _) (by omega)).mono ?_); rintro e w3 ⟨k3, rfl, a3, b3, D3, hc3, hz3⟩; have f3 := HCL.out k3 b3)
    | ((with_reducible refine (pick_at g (0 + 100) n hn0 w1 _ (by first | exact D1.drew | exact (D1.alloc _).drew) (by omega)).mono ?_); rintro e w2 ⟨k2, rfl, a2, b2, D2, hc2, hz2⟩; have f2 := HCL.out k2 b2))
  all_goals
    go_wp2
    refine bodyPost_ret (v := .tuple #[.slice (some ⟨gl, 0, none⟩) n c, .int .i64 p, .int .i64 v5]) (by simp [results, Try.results34, go_sem]) rfl ?_
    first
      | exact drawV_of O1.out HB.out HG.out D5 hg hwg' n1 n2
      | exact drawV_of O1.out HB.out HG.out (D5.alloc _) hg hwg' n1 n2

end Go.Proofs.Ytlcgfncgjljgpaa.Wu
