/- The law SlabTake: its walk. Conditions: the library's table holds what its text lays. -/
import Derived.Test.YtgbeannjoajenaaDoorSlt
import Derived.Test.YtgbeannjoajenaaDoorSlabGi
import Derived.Test.YtgbeannjoajenaaDoorDrSlab
import Derived.Test.YtgbeannjoajenaaDoorBfi
import Derived.Deep.RegionWith
import Derived.Deep.RegionHeld3
namespace Go.Proofs.YtgbeannjoajenaaDoor.Wk
open Go.RowKit

theorem row_len' {w : World} {a : Option Addr} {len cap : Nat} {z : List Int} (h : IsRow .u8 w a len cap z) : len ≤ 9223372036854775807 := by
  rcases h with ⟨_, rfl, rfl, _⟩ | ⟨x, _, hl, hm, _⟩
  · omega
  · unfold maxLen at hm; omega

theorem row_alloc {w : World} {a : Option Addr} {len cap : Nat} {z : List Int} (h : IsRow .u8 w a len cap z) (o : Obj) : IsRow .u8 (w.alloc o) a len cap z := by
  rcases h with h | ⟨x, e, hl, hm, hz, hc, hw⟩
  · exact .inl h
  · exact .inr ⟨x, e, hl, hm, hz, fun i hi => by
      have hlt := World.block_lt_of_cell? w _ (hc i hi)
      rw [World.cell?_alloc_lt w _ _ hlt]
      exact hc i hi, hw⟩

theorem dDrawSlabTake {a : Option Addr} {len cap : Nat} {z : List Int} {w : World} (h : IsRow .u8 w a len cap z) : Calls Tryd.prog 10 #[.slice a len cap] w fun e w' =>
    ∃ c u : Int, e = .returned (.agg #[.int .i64 c, .int .i64 u]) ∧ -1 ≤ c ∧ c ≤ 8 ∧ -1 ≤ u ∧ u ≤ 256 ∧ Below w.heap.size w w' := by
  have HO := Lib.hid (open_any (row_alloc h (.cells #[.int .i64 0, .int .i64 0] 24)))
  clear h
  go_enter Tryd.func10, Tryd.ntmps10
  go_wp2_with fail
  refine HO.out.mono ?_
  rintro e w1 ⟨A, n, c0, z', rfl, hr, hb, hs⟩
  have RB := (Bk.new w #[.int .i64 0, .int .i64 0] 24).below hb (by simp)
  have hs' : w.heap.size + 1 + 1 ≤ w1.heap.size := by rw [hs]; simp
  have B1 := ((Below.refl w.heap.size w).alloc (Nat.le_refl _) _).trans (hb.mono (by simp))
  have hg : (w.alloc (.cells #[.int .i64 0, .int .i64 0] 24)).heap.size = w.heap.size + 1 := by simp
  rw [hg] at hr
  clear hb hs hg
  go_wp2_with fail
  refine (l20Slab_any _ _ _ _ _ _ _ _ hr (by omega) (by omega) (by omega)).mono ?_
  rintro e w2 ⟨c, u, rfl, q1, q2, q3, q4, p', _, hr2, G⟩
  have B2 := B1.grown G (by omega) (fun k hk => by injection hk with hk; omega)
  have RB2 := RB.gr G (by omega)
  have d0 : w2.cell? ⟨w.heap.size, 0, none⟩ = some (.int .i64 0) := RB2.cell 0
  have d1 : w2.cell? ⟨w.heap.size, 1, none⟩ = some (.int .i64 0) := RB2.cell 1
  have f0 := RB2.free 0
  have f1 := RB2.free 1
  go_wp2
  refine bodyPost_ret (v := .agg #[.int .i64 c, .int .i64 u]) (by simp [results, Tryd.results10, go_sem, d0, d1]) rfl ?_
  exact ⟨c, u, rfl, q1, q2, q3, q4, (B2.setCell (p := ⟨w.heap.size, _, none⟩) (Nat.le_refl _) _).setCell (p := ⟨w.heap.size, _, none⟩) (Nat.le_refl _) _⟩

theorem low_tab2 : ∀ m : Fin 256, ∀ p : Fin 8, ((m.val : Int) / 2 ^ p.val % 2 = 0 ∧ ∀ q : Fin 8, q.val < p.val → (m.val : Int) / 2 ^ q.val % 2 = 1) → (m.val : Int) + 2 ^ p.val ≤ 255 ∧ ((m.val : Int) + 2 ^ p.val) / 2 ^ p.val % 2 = 1 ∧ (m.val : Int) % 2 ^ p.val = 2 ^ p.val - 1 := by decide +kernel
theorem low_more {u : Int} (h0 : 0 ≤ u) (h1 : u ≤ 255) {p : Nat} (h : Low u p) : u + 2 ^ p ≤ 255 ∧ (u + 2 ^ p) / 2 ^ p % 2 = 1 ∧ u % 2 ^ p = 2 ^ p - 1 := by
  obtain ⟨m, rfl⟩ := Int.eq_ofNat_of_zero_le h0
  exact low_tab2 ⟨m, by omega⟩ ⟨p, h.lt⟩ ⟨h.free, fun q hq => h.least q.val hq⟩

theorem iGive_any (c u : Int) (h : SV c u) (p : Nat) (hp : p < 8) (hb : u / 2 ^ p % 2 = 1) (w : World) : Calls Tryd.prog 13 #[.agg #[.int .i64 c, .int .i64 u], .int .i64 p] w fun e w' => e = .returned (.tuple #[.agg #[.int .i64 c, .int .i64 (u - 2 ^ p)], .bool true]) ∧ Below w.heap.size w w' := by
  have hc : p = 0 ∨ p = 1 ∨ p = 2 ∨ p = 3 ∨ p = 4 ∨ p = 5 ∨ p = 6 ∨ p = 7 := by omega
  rcases hc with rfl | rfl | rfl | rfl | rfl | rfl | rfl | rfl
  · exact iGive_yes0 c u w h (by simpa using hb)
  · exact iGive_yes1 c u w h (by simpa using hb)
  · exact iGive_yes2 c u w h (by simpa using hb)
  · exact iGive_yes3 c u w h (by simpa using hb)
  · exact iGive_yes4 c u w h (by simpa using hb)
  · exact iGive_yes5 c u w h (by simpa using hb)
  · exact iGive_yes6 c u w h (by simpa using hb)
  · exact iGive_yes7 c u w h (by simpa using hb)

set_option maxHeartbeats 4000000 in
theorem FnSlabTake_walk {a : Option Addr} {len cap : Nat} {z : List Int} {w : World} (h : IsRow .u8 w a len cap z) (hT : Tab w) : Calls Tryd.prog 5 #[.slice a len cap] w fun e w' => e = .returned (.bool true) ∧ Below w.heap.size w w' := by
  have hm := row_len' h
  have HD := Lib.hid (dDrawSlabTake h)
  have HT := Lib.hid hT
  clear h hT
  by_cases hl : len ≤ 1048576
  · go_enter Tryd.func5, Tryd.ntmps5
    go_wp2_with fail
    refine HD.out.mono ?_
    rintro e w1 ⟨c, u, rfl, c1, c2, c3, c4, b1⟩
    have B1 := b1.alloc b1.size (.cells #[.int .i64 c, .int .i64 u] 24)
    have T1 := Lib.hid (HT.out.below B1 HT.out.1)
    by_cases hy : SV c u ∧ ∃ p, Low u p
    · obtain ⟨hv, p, hp⟩ := hy
      have HTk := Lib.hid (tks_yes hv hp)
      have hp8 := hp.lt
      obtain ⟨m1, m2, m3⟩ := low_more hv.2.2.1 hv.2.2.2 hp
      have HF := Lib.hid hp.free
      obtain ⟨wp1, wp2, n1, n2⟩ := wrap_p hp8
      have HV2 : RowKit.Hid (SV c (u + 2 ^ p)) := Lib.hid ⟨hv.1, hv.2.1, by have := hv.2.2.1; omega, m1⟩
      have HG := Lib.hid (iGive_any c (u + 2 ^ p) HV2.out p hp8 m2)
      have ht1 := tmod_two hv.2.2.1 p
      have ht2 : u.tmod (2 ^ p) = u % 2 ^ p := Int.tmod_eq_emod_of_nonneg hv.2.2.1
      have hF0 := hp.free
      clear hp m2
      obtain ⟨N, hN⟩ : ∃ N : Int, 2 ^ p = N := ⟨_, rfl⟩
      rw [show u + 2 ^ p - 2 ^ p = u by omega] at HG
      rw [hN] at HTk HV2 HG m1 m3 ht2 n1 n2
      have wq : RowKit.Hid (IntKind.i64.wrap (2 ^ p) = N) := Lib.hid (by rw [wp1]; exact hN)
      have wn : RowKit.Hid (IntKind.i64.wrap (N - 1) = N - 1) := Lib.hid (IntWalk.i64_in _ (by omega))
      have HZ : RowKit.Hid ((u / 2 ^ p).tmod 2 = 0) := Lib.hid (by rw [ht1]; exact hF0)
      have HM2 := Lib.hid m3
      have HM : RowKit.Hid (u.tmod N = N - 1) := Lib.hid (by rw [ht2]; exact m3)
      obtain ⟨g1, g2, g3, g4⟩ := hv
      clear wp1 wp2 hN ht1 ht2 hF0 m3
      go_wp2_with fail
      refine (HTk.out.1 _ T1.out).mono ?_
      rintro e w2 ⟨rfl, b2⟩
      have q2 := bcell b2
      have B2 := B1.trans (b2.mono (by have := b1.size; simp; omega))
      have z2 : w1.heap.size < w2.heap.size := by have := b2.size; simp at this; omega
      go_wp2_with fail
      refine (HTk.out.2 _).mono ?_
      rintro e w3 ⟨rfl, b3⟩
      have q3 := bcell b3
      have B3 := (B2.alloc B2.size (.cells #[.int .i64 c, .int .i64 (u + N)] 24)).trans (b3.mono (by have := B2.size; simp; omega))
      have z3 : w2.heap.size < w3.heap.size := by have := b3.size; simp at this; omega
      have z3' : w1.heap.size < w3.heap.size := by omega
      go_wp2_with fail
      refine (HG.out _).mono ?_
      rintro e w4 ⟨rfl, b4⟩
      have q4 := bcell b4
      have B4 := (B3.alloc B3.size (.cells #[.int .i64 c, .int .i64 (u + N)] 24)).trans (b4.mono (by have := B3.size; simp; omega))
      have z4 : w3.heap.size < w4.heap.size := by have := b4.size; simp at this; omega
      have z4' : w2.heap.size < w4.heap.size := by omega
      have z4'' : w1.heap.size < w4.heap.size := by omega
      go_wp2_with fail
      obtain ⟨w6, hw6⟩ : ∃ w6, w6 = w4.alloc (.cells #[.int .i64 c, .int .i64 u] 24) := ⟨_, rfl⟩
      have X1 := (((((((Bk.new w1 #[.int .i64 c, .int .i64 u] 24).below b2 (by simp)).alloc (.cells #[.int .i64 c, .int .i64 (u + N)] 24)).below b3 (by simp; omega)).alloc (.cells #[.int .i64 c, .int .i64 (u + N)] 24)).below b4 (by simp; omega)).alloc (.cells #[.int .i64 c, .int .i64 u] 24))
      have X2 := (((((Bk.new w2 #[.int .i64 c, .int .i64 (u + N)] 24).below b3 (by simp)).alloc (.cells #[.int .i64 c, .int .i64 (u + N)] 24)).below b4 (by simp; omega)).alloc (.cells #[.int .i64 c, .int .i64 u] 24))
      have X3 := Bk.new w4 #[.int .i64 c, .int .i64 u] 24
      rw [← hw6] at X1 X2 X3
      have d0 : w6.cell? ⟨w1.heap.size, 0, none⟩ = some (.int .i64 c) := X1.cell 0
      have d1 : w6.cell? ⟨w1.heap.size, 1, none⟩ = some (.int .i64 u) := X1.cell 1
      have d2 : w6.cell? ⟨w2.heap.size, 0, none⟩ = some (.int .i64 c) := X2.cell 0
      have d3 : w6.cell? ⟨w2.heap.size, 1, none⟩ = some (.int .i64 (u + N)) := X2.cell 1
      have d4 : w6.cell? ⟨w4.heap.size, 0, none⟩ = some (.int .i64 c) := X3.cell 0
      have d5 : w6.cell? ⟨w4.heap.size, 1, none⟩ = some (.int .i64 u) := X3.cell 1
      have B6 : Below w.heap.size w w6 := by rw [hw6]; exact B4.alloc B4.size _
      have z6 : w1.heap.size < w6.heap.size := by rw [hw6]; simp; omega
      have z6' : w2.heap.size < w6.heap.size := by rw [hw6]; simp; omega
      have z6'' : w4.heap.size < w6.heap.size := by rw [hw6]; simp
      have wqa := wq.out
      have wna := wn.out
      have hza := HZ.out
      have hma := HM.out
      have hmb := HM2.out
      have hN0 : N ≠ 0 := fun e => by rw [e] at n1; exact absurd n1 (by decide)
      have hmin : min p 64 = p := Nat.min_eq_left (by omega)
      rw [← hw6]
      clear hw6 X1 X2 X3 q2 q3 q4 b2 b3 b4 B1 B2 B3 B4 z2 z3 z3' z4 z4' z4''
      go_region_held3 (fun w' => w'.cell? ⟨w1.heap.size, 0, none⟩ = some (.int .i64 c) ∧ w'.cell? ⟨w1.heap.size, 1, none⟩ = some (.int .i64 u) ∧ w'.cell? ⟨w2.heap.size, 0, none⟩ = some (.int .i64 c) ∧ w'.cell? ⟨w2.heap.size, 1, none⟩ = some (.int .i64 (u + N)) ∧ w'.cell? ⟨w4.heap.size, 0, none⟩ = some (.int .i64 c) ∧ w'.cell? ⟨w4.heap.size, 1, none⟩ = some (.int .i64 u)) (first | exact ⟨d0, d1, d2, d3, d4, d5⟩ | exact ⟨k0, k1, k2, k3, k4, k5⟩)
        (first | (refine (iSlabValid_yes c (u + N) _ HV2.out).mono ?_; rintro e w5 ⟨rfl, b5⟩; have q5 := bcell b5; have k0 := (q5 w1.heap.size 0 (by first | exact z6 | (simp; omega))).trans d0; have k1 := (q5 w1.heap.size 1 (by first | exact z6 | (simp; omega))).trans d1; have k2 := (q5 w2.heap.size 0 (by first | exact z6' | (simp; omega))).trans d2; have k3 := (q5 w2.heap.size 1 (by first | exact z6' | (simp; omega))).trans d3; have k4 := (q5 w4.heap.size 0 (by first | exact z6'' | (simp; omega))).trans d4; have k5 := (q5 w4.heap.size 1 (by first | exact z6'' | (simp; omega))).trans d5))
      go_wp2
      go_ret
      exact ⟨rfl, B6.drew.trans (b5.mono (by have := B6.size; simpa using this))⟩
    · have HTk : ∃ c' u', Tks c u c' u' (-1) false ∧ ((c' = 0 ∧ u' = 0) ∨ (c' = c ∧ u' = u)) := by
        by_cases hv : SV c u
        · rcases low_any hv.2.2.1 hv.2.2.2 with ⟨rfl, _⟩ | ⟨p, hp, _, _⟩
          · exact ⟨_, _, tks_full hv, .inr ⟨rfl, rfl⟩⟩
          · exact absurd ⟨hv, p, hp⟩ hy
        · exact ⟨_, _, tks_inv hv, .inl ⟨rfl, rfl⟩⟩
      obtain ⟨c', u', hk, hcu⟩ := HTk
      have HTk := Lib.hid hk
      clear hk hy
      by_cases h0 : c' = 0 ∧ u' = 0
      case' pos => obtain ⟨rfl, rfl⟩ := h0
      case' neg => obtain ⟨rfl, rfl⟩ := hcu.resolve_left h0
      all_goals
        go_wp2_with fail
        refine (HTk.out.1 _ T1.out).mono ?_
        rintro e w2 ⟨rfl, b2⟩
        have q2 := bcell b2
        have B2 := B1.trans (b2.mono (by have := b1.size; simp; omega))
        have z2 : w1.heap.size < w2.heap.size := by have := b2.size; simp at this; omega
        go_wp2_with fail
        refine (HTk.out.2 _).mono ?_
        rintro e w3 ⟨rfl, b3⟩
        have q3 := bcell b3
        have B3 := (B2.alloc B2.size (.cells #[.int .i64 _, .int .i64 _] 24)).trans (b3.mono (by have := B2.size; simp; omega))
        have z3 : w2.heap.size < w3.heap.size := by have := b3.size; simp at this; omega
        have z3' : w1.heap.size < w3.heap.size := by omega
        go_wp2_with fail
        all_goals
          refine (alive_any _).mono ?_
          rintro e w4 ⟨rfl, b4⟩
          go_wp2
          go_ret
          exact ⟨by first | rfl | (simp; done), (B3.alloc B3.size _).trans (b4.mono (by have := B3.size; simp; omega))⟩
  · go_enter Tryd.func5, Tryd.ntmps5
    go_wp2
    go_ret
    exact ⟨rfl, Below.refl _ _⟩

end Go.Proofs.YtgbeannjoajenaaDoor.Wk
