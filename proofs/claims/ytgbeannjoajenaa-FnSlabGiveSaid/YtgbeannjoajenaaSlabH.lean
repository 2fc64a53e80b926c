/- Slabs: what draws by l20Slab; the law SlabValid: its walk. Conditions: none. -/
import Derived.Test.YtgbeannjoajenaaDrSlab
import Derived.Test.YtgbeannjoajenaaBfi
import Derived.Test.YtgbeannjoajenaaSlabB
import Derived.Deep.RegionWith
namespace Go.Proofs.Ytgbeannjoajenaa.Wk
open Go.RowKit

theorem dDrawSlabValid {a : Option Addr} {len cap : Nat} {z : List Int} {w : World} (h : IsRow .u8 w a len cap z) : Calls Try.prog 28 #[.slice a len cap] w fun e w' =>
    ∃ c u : Int, e = .returned (.agg #[.int .i64 c, .int .i64 u]) ∧ -1 ≤ c ∧ c ≤ 8 ∧ -1 ≤ u ∧ u ≤ 256 ∧ Below w.heap.size w w' := by
  have hrow : IsRow .u8 (w.alloc (.cells #[.int .i64 0, .int .i64 0] 28)) a len cap z := by
    rcases h with h | ⟨x, e, hl, hm, hz, hc, hw⟩
    · exact .inl h
    · exact .inr ⟨x, e, hl, hm, hz, fun i hi => by
        have hlt := World.block_lt_of_cell? w _ (hc i hi)
        rw [World.cell?_alloc_lt w _ _ hlt]
        exact hc i hi, hw⟩
  have HO := Lib.hid (open_any hrow)
  clear h hrow
  go_enter Try.func28, Try.ntmps28
  go_wp2_with fail
  refine HO.out.mono ?_
  rintro e w1 ⟨A, n, c0, z', rfl, hr, hb, hs⟩
  have RB := (Bk.new w #[.int .i64 0, .int .i64 0] 28).below hb (by simp)
  have hs' : w.heap.size + 1 + 1 ≤ w1.heap.size := by rw [hs]; simp
  have B1 := ((Below.refl w.heap.size w).alloc (Nat.le_refl _) _).trans (hb.mono (by simp))
  have hg : (w.alloc (.cells #[.int .i64 0, .int .i64 0] 28)).heap.size = w.heap.size + 1 := by simp
  rw [hg] at hr
  clear hb hs hg
  go_wp2_with fail
  refine (l20Slab_any _ _ _ _ _ _ _ _ hr (by omega) (by omega) (by omega)).mono ?_
  rintro e w2 ⟨c, u, rfl, q1, q2, q3, q4, p', _, hr2, G⟩
  have B2 := B1.grown G (by omega) (fun k hk => by injection hk with hk; omega)
  have RB2 := RB.gr G (by omega)
  have d0 : w2.cell? ⟨w.heap.size, 0, none⟩ = some (.int .i64 0) := RB2.cell 0
  have d1 : w2.cell? ⟨w.heap.size, 1, none⟩ = some (.int .i64 0) := RB2.cell 1
  have f0 := RB2.free 0
  have f1 := RB2.free 1
  go_wp2
  refine bodyPost_ret (v := .agg #[.int .i64 c, .int .i64 u]) (by simp [results, Try.results28, go_sem, d0, d1]) rfl ?_
  exact ⟨c, u, rfl, q1, q2, q3, q4, (B2.setCell (p := ⟨w.heap.size, _, none⟩) (Nat.le_refl _) _).setCell (p := ⟨w.heap.size, _, none⟩) (Nat.le_refl _) _⟩

theorem row_len' {w : World} {a : Option Addr} {len cap : Nat} {z : List Int} (h : IsRow .u8 w a len cap z) : len ≤ 9223372036854775807 := by
  rcases h with ⟨_, rfl, rfl, _⟩ | ⟨x, _, hl, hm, _⟩
  · omega
  · unfold maxLen at hm; omega

set_option maxHeartbeats 1000000 in
theorem FnSlabValid_walk {a : Option Addr} {len cap : Nat} {z : List Int} {w : World} (h : IsRow .u8 w a len cap z) : Calls Try.prog 10 #[.slice a len cap] w fun e w' => e = .returned (.bool true) ∧ Below w.heap.size w w' := by
  have hm := row_len' h
  have HD := Lib.hid (dDrawSlabValid h)
  clear h
  by_cases hl : len ≤ 1048576
  · have HV : ∀ c u : Int, ∃ b, (∀ w, Calls Try.prog 18 #[.agg #[.int .i64 c, .int .i64 u]] w fun e w' => e = .returned (.bool b) ∧ Below w.heap.size w w') ∧
        (∀ w, Calls Try.prog 16 #[.agg #[.int .i64 c, .int .i64 u]] w fun e w' => e = .returned (.bool b) ∧ Below w.heap.size w w') := by
      intro c u
      by_cases hv : SV c u
      · exact ⟨true, fun w => iSlabValid_yes c u w hv, fun w => sSlabValid_yes c u w hv⟩
      · exact ⟨false, fun w => iSlabValid_no c u w hv, fun w => sSlabValid_no c u w hv⟩
    have HH := Lib.hid HV
    clear HV
    go_enter Try.func10, Try.ntmps10
    go_wp2_with fail
    refine HD.out.mono ?_
    rintro e w1 ⟨c, u, rfl, c1, c2, c3, c4, b1⟩
    obtain ⟨b, hI, hS⟩ := HH.out c u
    have HI := Lib.hid hI
    have HS := Lib.hid hS
    have HB := Lib.hid (fun w => iSlabValid_no c 256 w (by unfold SV; omega))
    clear hI hS
    have B1 := b1.alloc b1.size (.cells #[.int .i64 c, .int .i64 u] 28)
    go_wp2_with fail
    refine (HI.out _).mono ?_
    rintro e w2 ⟨rfl, b2⟩
    have q2 := bcell b2
    have B2 := B1.trans (b2.mono (by have := b1.size; simp; omega))
    have z2 : w1.heap.size < w2.heap.size := by have := b2.size; simp at this; omega
    go_wp2_with fail
    refine (HS.out _).mono ?_
    rintro e w3 ⟨rfl, b3⟩
    have q3 := bcell b3
    have B3 := B2.trans (b3.mono B2.size)
    have z3 : w1.heap.size < w3.heap.size := by have := b3.size; omega
    go_wp2_with fail
    refine (HB.out _).mono ?_
    rintro e w4 ⟨rfl, b4⟩
    have B4 := (B3.alloc B3.size (.cells #[.int .i64 c, .int .i64 256] 28)).trans (b4.mono (by have := B3.size; simp; omega))
    go_wp2_with fail
    refine (alive_any _).mono ?_
    rintro e w5 ⟨rfl, b5⟩
    go_wp2
    go_ret
    exact ⟨rfl, B4.trans (b5.mono B4.size)⟩
  · go_enter Try.func10, Try.ntmps10
    go_wp2
    go_ret
    exact ⟨rfl, Below.refl _ _⟩

end Go.Proofs.Ytgbeannjoajenaa.Wk
