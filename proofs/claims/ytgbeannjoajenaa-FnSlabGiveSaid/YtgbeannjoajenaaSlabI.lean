/- Slabs: the law SlabGive: its walk. Conditions: none. -/
import Derived.Test.YtgbeannjoajenaaSlabF
import Derived.Test.YtgbeannjoajenaaSlabH
import Derived.Deep.RegionHeld3
namespace Go.Proofs.Ytgbeannjoajenaa.Wk
open Go.RowKit

theorem row_alloc {w : World} {a : Option Addr} {len cap : Nat} {z : List Int} (h : IsRow .u8 w a len cap z) (o : Obj) : IsRow .u8 (w.alloc o) a len cap z := by
  rcases h with h | ⟨x, e, hl, hm, hz, hc, hw⟩
  · exact .inl h
  · exact .inr ⟨x, e, hl, hm, hz, fun i hi => by
      have hlt := World.block_lt_of_cell? w _ (hc i hi)
      rw [World.cell?_alloc_lt w _ _ hlt]
      exact hc i hi, hw⟩

set_option maxHeartbeats 1000000 in
theorem dDrawSlabGive {a : Option Addr} {len cap : Nat} {z : List Int} {w : World} (h : IsRow .u8 w a len cap z) : Calls Try.prog 30 #[.slice a len cap] w fun e w' =>
    ∃ c u x : Int, e = .returned (.tuple #[.agg #[.int .i64 c, .int .i64 u], .int .i64 x]) ∧ -1 ≤ c ∧ c ≤ 8 ∧ -1 ≤ u ∧ u ≤ 256 ∧ -1 ≤ x ∧ x ≤ 8 ∧ Below w.heap.size w w' := by
  have HO := Lib.hid (open_any (row_alloc h (.cells #[.int .i64 0, .int .i64 0] 28)))
  clear h
  go_enter Try.func30, Try.ntmps30
  go_wp2_with fail
  refine HO.out.mono ?_
  rintro e w1 ⟨A, n, c0, z', rfl, hr, hb, hs⟩
  have RB := (Bk.new w #[.int .i64 0, .int .i64 0] 28).below hb (by simp)
  have hs' : w.heap.size + 1 + 1 ≤ w1.heap.size := by rw [hs]; simp
  have B1 := ((Below.refl w.heap.size w).alloc (Nat.le_refl _) _).trans (hb.mono (by simp))
  have hg : (w.alloc (.cells #[.int .i64 0, .int .i64 0] 28)).heap.size = w.heap.size + 1 := by simp
  rw [hg] at hr
  clear hb hs hg
  go_wp2_with fail
  refine (l20Slab_any _ _ _ _ _ _ _ _ hr (by omega) (by omega) (by omega)).mono ?_
  rintro e w2 ⟨c, u, rfl, q1, q2, q3, q4, p', hp', hr2, G⟩
  have B2 := B1.grown G (by omega) (fun k hk => by injection hk with hk; omega)
  have RB2 := RB.gr G (by omega)
  have z2 : w1.heap.size ≤ w2.heap.size := G.size
  have SB := Bk.new w2 #[.int .i64 c, .int .i64 u] 28
  have RB3 := RB2.alloc (.cells #[.int .i64 c, .int .i64 u] 28)
  have hr3 := rdr_alloc hr2 (.cells #[.int .i64 c, .int .i64 u] 28)
  have B3 := B2.alloc B2.size (.cells #[.int .i64 c, .int .i64 u] 28)
  obtain ⟨w3, hw3⟩ : ∃ w3, w3 = w2.alloc (.cells #[.int .i64 c, .int .i64 u] 28) := ⟨_, rfl⟩
  rw [← hw3] at SB RB3 hr3 B3
  have z3 : w2.heap.size + 1 ≤ w3.heap.size := by rw [hw3]; simp
  go_wp2_with fail
  rw [← hw3]
  clear hw3 RB RB2 hr hr2 G B1 B2
  have e0 : w3.cell? ⟨w2.heap.size, 0, none⟩ = some (.int .i64 c) := SB.cell 0
  have e1 : w3.cell? ⟨w2.heap.size, 1, none⟩ = some (.int .i64 u) := SB.cell 1
  have c0' : w3.cell? ⟨w.heap.size, 0, none⟩ = some (.int .i64 0) := RB3.cell 0
  have c1' : w3.cell? ⟨w.heap.size, 1, none⟩ = some (.int .i64 0) := RB3.cell 1
  have f0 := RB3.free 0
  have f1 := RB3.free 1
  have hr4 : Rdr w3.drew (w.heap.size + 1) A n c0 z' p' := ⟨hr3.blk, hr3.bytes, hr3.range, hr3.len⟩
  have RB4 : Bk w3.drew w.heap.size #[.int .i64 0, .int .i64 0] 28 := RB3
  have SB4 : Bk w3.drew w2.heap.size #[.int .i64 c, .int .i64 u] 28 := SB
  have B4 : Below w.heap.size w w3.drew := B3.drew
  go_region_with ((refine (pick_any _ _ _ _ _ _ _ _ hr4 (by omega)).mono ?_; rintro e w5 ⟨x, rfl, a1, a2, r5, o5⟩; have RB5 := RB4.only o5 (by omega); have SB5 := SB4.only o5 (by omega); have B5 := only_below B4 o5 (by have := B4.size; exact this) (by omega); have d0 : w5.cell? ⟨w2.heap.size, 0, none⟩ = some (.int .i64 c) := SB5.cell 0; have d1 : w5.cell? ⟨w2.heap.size, 1, none⟩ = some (.int .i64 u) := SB5.cell 1; have g0 : w5.cell? ⟨w.heap.size, 0, none⟩ = some (.int .i64 0) := RB5.cell 0; have g1 : w5.cell? ⟨w.heap.size, 1, none⟩ = some (.int .i64 0) := RB5.cell 1; have k0 := RB5.free 0; have k1 := RB5.free 1))
  all_goals
    have hx : IntKind.i64.wrap (x - 1) = x - 1 := IntWalk.i64_in _ (by omega)
    go_wp2
    refine bodyPost_ret (v := .tuple #[.agg #[.int .i64 c, .int .i64 u], .int .i64 (x - 1)]) (by simp [results, Try.results30, go_sem, g0, g1, hx]) rfl ?_
    exact ⟨c, u, x - 1, rfl, q1, q2, q3, q4, by omega, by omega, (B5.setCell (p := ⟨w.heap.size, _, none⟩) (Nat.le_refl _) _).setCell (p := ⟨w.heap.size, _, none⟩) (Nat.le_refl _) _⟩

/-- The place that was given is free. -/
theorem after_give {c u : Int} (h : SV c u) (p : Nat) (hp : p < 8) (hb : u / 2 ^ p % 2 = 1) : SV c (u - 2 ^ p) ∧ (u - 2 ^ p) / 2 ^ p % 2 = 0 := by
  obtain ⟨h1, h2, h3, h4⟩ := h
  have hc : p = 0 ∨ p = 1 ∨ p = 2 ∨ p = 3 ∨ p = 4 ∨ p = 5 ∨ p = 6 ∨ p = 7 := by omega
  unfold SV
  rcases hc with rfl | rfl | rfl | rfl | rfl | rfl | rfl | rfl <;> simp at hb ⊢ <;> omega

set_option maxHeartbeats 4000000 in
theorem FnSlabGive_walk {a : Option Addr} {len cap : Nat} {z : List Int} {w : World} (h : IsRow .u8 w a len cap z) : Calls Try.prog 12 #[.slice a len cap] w fun e w' => e = .returned (.bool true) ∧ Below w.heap.size w w' := by
  have hm := row_len' h
  have HD := Lib.hid (dDrawSlabGive h)
  clear h
  by_cases hl : len ≤ 1048576
  · go_enter Try.func12, Try.ntmps12
    go_wp2_with fail
    refine HD.out.mono ?_
    rintro e w1 ⟨c, u, p, rfl, c1, c2, c3, c4, c5, c6, b1⟩
    have B1 := b1.alloc b1.size (.cells #[.int .i64 c, .int .i64 u] 28)
    by_cases hv : SV c u
    · by_cases hb : (∃ k : Nat, p = k ∧ k < 8 ∧ u / 2 ^ k % 2 = 1)
      · obtain ⟨k, rfl, hk, hb⟩ := hb
        obtain ⟨N, hN⟩ : ∃ N : Int, N = 2 ^ k := ⟨_, rfl⟩
        have HG : Hid (Gives c u k c (u - N) true) := Lib.hid (by rw [hN]; exact gives_yes c u hv k hk hb)
        obtain ⟨hv2, hb2⟩ := after_give hv k hk hb
        rw [← hN] at hv2 hb2
        have hN0 : 1 ≤ N ∧ N ≤ 128 := by
          rw [hN]
          have hc : k = 0 ∨ k = 1 ∨ k = 2 ∨ k = 3 ∨ k = 4 ∨ k = 5 ∨ k = 6 ∨ k = 7 := by omega
          rcases hc with rfl | rfl | rfl | rfl | rfl | rfl | rfl | rfl <;> decide
        obtain ⟨n1, n2⟩ := hN0
        have HN : Hid (Gives c (u - N) k c (u - N) false) := Lib.hid (gives_no c (u - N) hv2 k hk (by rw [← hN]; exact hb2))
        have HW : Hid (IntKind.i64.wrap (2 ^ k) = N) := Lib.hid (by rw [← hN]; exact IntWalk.i64_in _ (by omega))
        have HS : Hid (SV c (u - N)) := Lib.hid hv2
        obtain ⟨g1, g2, g3, g4⟩ := hv
        obtain ⟨g5, g6, g7, g8⟩ := HS.out
        have hk7 : (k : Int) ≤ 7 := by omega
        clear hb hb2 hv2 hN
        go_wp2_with fail
        refine (HG.out.1 _).mono ?_
        rintro e w2 ⟨rfl, b2⟩
        have q2 := bcell b2
        have B2 := B1.trans (b2.mono (by have := b1.size; simp; omega))
        have z2 : w1.heap.size < w2.heap.size := by have := b2.size; simp at this; omega
        go_wp2_with fail
        refine (HG.out.2 _).mono ?_
        rintro e w3 ⟨rfl, b3⟩
        have q3 := bcell b3
        have B3 := (B2.alloc B2.size (.cells #[.int .i64 c, .int .i64 (u - N)] 28)).trans (b3.mono (by have := B2.size; simp; omega))
        have z3 : w2.heap.size < w3.heap.size := by have := b3.size; simp at this; omega
        have z3' : w1.heap.size < w3.heap.size := by omega
        go_wp2_with fail
        refine (HN.out.1 _).mono ?_
        rintro e w4 ⟨rfl, b4⟩
        have q4 := bcell b4
        have B4 := (B3.alloc B3.size (.cells #[.int .i64 c, .int .i64 (u - N)] 28)).trans (b4.mono (by have := B3.size; simp; omega))
        have z4 : w3.heap.size < w4.heap.size := by have := b4.size; simp at this; omega
        have z4' : w2.heap.size < w4.heap.size := by omega
        have z4'' : w1.heap.size < w4.heap.size := by omega
        go_wp2_with fail
        obtain ⟨w6, hw6⟩ : ∃ w6, w6 = w4.alloc (.cells #[.int .i64 c, .int .i64 (u - N)] 28) := ⟨_, rfl⟩
        have X1 := (((((((Bk.new w1 #[.int .i64 c, .int .i64 u] 28).below b2 (by simp)).alloc (.cells #[.int .i64 c, .int .i64 (u - N)] 28)).below b3 (by simp; omega)).alloc (.cells #[.int .i64 c, .int .i64 (u - N)] 28)).below b4 (by simp; omega)).alloc (.cells #[.int .i64 c, .int .i64 (u - N)] 28))
        have X2 := (((((Bk.new w2 #[.int .i64 c, .int .i64 (u - N)] 28).below b3 (by simp)).alloc (.cells #[.int .i64 c, .int .i64 (u - N)] 28)).below b4 (by simp; omega)).alloc (.cells #[.int .i64 c, .int .i64 (u - N)] 28))
        rw [← hw6] at X1 X2
        have d0 : w6.cell? ⟨w1.heap.size, 0, none⟩ = some (.int .i64 c) := X1.cell 0
        have d1 : w6.cell? ⟨w1.heap.size, 1, none⟩ = some (.int .i64 u) := X1.cell 1
        have d2 : w6.cell? ⟨w2.heap.size, 0, none⟩ = some (.int .i64 c) := X2.cell 0
        have d3 : w6.cell? ⟨w2.heap.size, 1, none⟩ = some (.int .i64 (u - N)) := X2.cell 1
        have hw8a := HW.out
        have hw8 : IntKind.i64.wrap (u - N) = u - N := IntWalk.i64_in _ (by omega)
        have B6 : Below w.heap.size w w6 := by rw [hw6]; exact B4.alloc B4.size _
        have z6 : w1.heap.size < w6.heap.size := by rw [hw6]; simp; omega
        have z6' : w2.heap.size < w6.heap.size := by rw [hw6]; simp; omega
        rw [← hw6]
        clear hw6 X1 X2 q2 q3 q4 b2 b3 b4 B1 B2 B3 B4 z2 z3 z3' z4 z4' z4''
        go_region_held3 (fun w' => w'.cell? ⟨w1.heap.size, 0, none⟩ = some (.int .i64 c) ∧ w'.cell? ⟨w1.heap.size, 1, none⟩ = some (.int .i64 u) ∧ w'.cell? ⟨w2.heap.size, 0, none⟩ = some (.int .i64 c) ∧ w'.cell? ⟨w2.heap.size, 1, none⟩ = some (.int .i64 (u - N))) (first | exact ⟨d0, d1, d2, d3⟩ | exact ⟨k0, k1, k2, k3⟩)
          (first | (refine (iSlabValid_yes c (u - N) _ HS.out).mono ?_; rintro e w5 ⟨rfl, b5⟩; have q5 := bcell b5; have k0 := (q5 w1.heap.size 0 (by first | exact z6 | (simp; omega))).trans d0; have k1 := (q5 w1.heap.size 1 (by first | exact z6 | (simp; omega))).trans d1; have k2 := (q5 w2.heap.size 0 (by first | exact z6' | (simp; omega))).trans d2; have k3 := (q5 w2.heap.size 1 (by first | exact z6' | (simp; omega))).trans d3))
        go_wp2
        go_ret
        exact ⟨rfl, B6.drew.trans (b5.mono (by have := B6.size; simpa using this))⟩
      · have HG : Hid (Gives c u p c u false) := by
          by_cases hp : p < 0 ∨ 7 < p
          · exact gives_out c u p hv hp
          · obtain ⟨k, rfl⟩ := Int.eq_ofNat_of_zero_le (show 0 ≤ p by omega)
            have h2 : u / 2 ^ k % 2 = 0 := by
              have : ¬ u / 2 ^ k % 2 = 1 := fun h => hb ⟨k, rfl, by omega, h⟩
              omega
            exact gives_no c u hv k (by omega) h2
        clear hb hv
        go_wp2_with fail
        refine (HG.out.1 _).mono ?_
        rintro e w2 ⟨rfl, b2⟩
        have q2 := bcell b2
        have B2 := B1.trans (b2.mono (by have := b1.size; simp; omega))
        have z2 : w1.heap.size < w2.heap.size := by have := b2.size; simp at this; omega
        go_wp2_with fail
        refine (HG.out.2 _).mono ?_
        rintro e w3 ⟨rfl, b3⟩
        have q3 := bcell b3
        have B3 := (B2.alloc B2.size (.cells #[.int .i64 c, .int .i64 u] 28)).trans (b3.mono (by have := B2.size; simp; omega))
        have z3 : w2.heap.size < w3.heap.size := by have := b3.size; simp at this; omega
        have z3' : w1.heap.size < w3.heap.size := by omega
        go_wp2_with fail
        all_goals
          refine (alive_any _).mono ?_
          rintro e w4 ⟨rfl, b4⟩
          go_wp2
          go_ret
          exact ⟨rfl, (B3.alloc B3.size _).trans (b4.mono (by have := B3.size; simp; omega))⟩
    · have HG := Lib.hid (gives_inv c u p hv)
      clear hv
      go_wp2_with fail
      refine (HG.out.1 _).mono ?_
      rintro e w2 ⟨rfl, b2⟩
      have q2 := bcell b2
      have B2 := B1.trans (b2.mono (by have := b1.size; simp; omega))
      have z2 : w1.heap.size < w2.heap.size := by have := b2.size; simp at this; omega
      go_wp2_with fail
      refine (HG.out.2 _).mono ?_
      rintro e w3 ⟨rfl, b3⟩
      have q3 := bcell b3
      have B3 := (B2.alloc B2.size (.cells #[.int .i64 0, .int .i64 0] 28)).trans (b3.mono (by have := B2.size; simp; omega))
      have z3 : w2.heap.size < w3.heap.size := by have := b3.size; simp at this; omega
      have z3' : w1.heap.size < w3.heap.size := by omega
      go_wp2_with fail
      refine (alive_any _).mono ?_
      rintro e w4 ⟨rfl, b4⟩
      go_wp2
      go_ret
      exact ⟨rfl, (B3.alloc B3.size (.cells #[.int .i64 0, .int .i64 0] 28)).trans (b4.mono (by have := B3.size; simp; omega))⟩
  · go_enter Try.func12, Try.ntmps12
    go_wp2
    go_ret
    exact ⟨rfl, Below.refl _ _⟩

end Go.Proofs.Ytgbeannjoajenaa.Wk
