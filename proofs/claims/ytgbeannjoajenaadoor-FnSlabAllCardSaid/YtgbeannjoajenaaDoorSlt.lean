/- SlabTake, of the program and of the reference. Conditions: the library's table holds what its text lays. -/
import Derived.Test.YtgbeannjoajenaaDoorTz
namespace Go.Proofs.YtgbeannjoajenaaDoor.Wk
open Go.RowKit

theorem wrap_p {p : Nat} (h : p < 8) : IntKind.i64.wrap (2 ^ p) = 2 ^ p ∧ wrap64 (2 ^ p) = 2 ^ p ∧ (1 : Int) ≤ 2 ^ p ∧ (2 : Int) ^ p ≤ 128 := by
  have t : ∀ m : Fin 8, IntKind.i64.wrap (2 ^ m.val) = 2 ^ m.val ∧ wrap64 (2 ^ m.val) = 2 ^ m.val ∧ (1 : Int) ≤ 2 ^ m.val ∧ (2 : Int) ^ m.val ≤ 128 := by decide +kernel
  exact t ⟨p, h⟩

theorem iTks_inv (c u : Int) (w : World) (h : ¬ SV c u) : Calls Tryd.prog 8 #[.agg #[.int .i64 c, .int .i64 u]] w fun e w' => e = .returned (.tuple #[.agg #[.int .i64 0, .int .i64 0], .int .i64 (-1), .bool false]) ∧ Below w.heap.size w w' := by
  have HV := Lib.hid h
  clear h
  go_enter Tryd.func8, Tryd.ntmps8
  go_wp2_with fail
  refine (iSlabValid_no c u _ HV.out).mono ?_
  rintro e w1 ⟨rfl, b1⟩
  have q1 := bcell b1
  have q2 := bfrozen b1
  have hz1 : w.heap.size + 1 < w1.heap.size := by have := b1.size; simp at this; omega
  have B1 := (((Below.refl w.heap.size w).alloc (Nat.le_refl _) _).alloc (by simp) _).trans (b1.mono (by simp; omega))
  go_wp2
  exact bodyPost_ret (v := .tuple #[.agg #[.int .i64 0, .int .i64 0], .int .i64 (-1), .bool false]) (by simp [results, Tryd.results8, go_sem, q1]) rfl ⟨rfl, (B1.setCell (p := ⟨w.heap.size + 1, _, none⟩) (by simp) _).setCell (p := ⟨w.heap.size + 1, _, none⟩) (by simp) _⟩

theorem xor_tab : ∀ m : Fin 256, bits .xor .u64 IntKind.u64.max (m.val : Int) = 18446744073709551615 - (m.val : Int) := by decide +kernel
theorem xor_u {u : Int} (h0 : 0 ≤ u) (h1 : u ≤ 255) : bits .xor .u64 IntKind.u64.max u = 18446744073709551615 - u := by
  obtain ⟨m, rfl⟩ := Int.eq_ofNat_of_zero_le h0
  exact xor_tab ⟨m, by omega⟩
theorem tz_xor {u : Int} (h0 : 0 ≤ u) (h1 : u ≤ 255) : ((18446744073709551615 - u : Int)).toNat < 18446744073709551616 ∧ ((18446744073709551615 - u : Int)).toNat ≠ 0 ∧ ((((18446744073709551615 - u : Int)).toNat : Nat) : Int) = 18446744073709551615 - u := by omega

set_option maxHeartbeats 1000000 in
theorem iTks_yes (c u : Int) (p : Nat) (w : World) (h : SV c u) (hp : Low u p) (hT : Tab w) : Calls Tryd.prog 8 #[.agg #[.int .i64 c, .int .i64 u]] w fun e w' => e = .returned (.tuple #[.agg #[.int .i64 c, .int .i64 (u + 2 ^ p)], .int .i64 p, .bool true]) ∧ Below w.heap.size w w' := by
  have HV := Lib.hid h
  obtain ⟨h1, h2, h3, h4⟩ := h
  obtain ⟨t1, t2, t3⟩ := tz_xor h3 h4
  have hor : bits .or .i64 u (2 ^ p) = u + 2 ^ p ∧ Lib.ctz 64 (18446744073709551615 - u).toNat = p := by
    rcases low_any h3 h4 with ⟨rfl, _⟩ | ⟨q, hq, e1, e2⟩
    · have := hp.free
      have hlt := hp.lt
      exfalso
      have t : ∀ m : Fin 8, (255 : Int) / 2 ^ m.val % 2 = 1 := by decide +kernel
      have := t ⟨p, hlt⟩
      simp only at this
      omega
    · obtain rfl := low_uniq hp hq
      exact ⟨e2, e1⟩
  obtain ⟨hor, hctz⟩ := hor
  have HC := Lib.hid (fun (w : World) (hT : Tab w) => tzU _ t1 t2 w hT)
  rw [hctz, t3, ← xor_u h3 h4] at HC
  have HT := Lib.hid hT
  have hp8 : p < 8 := hp.lt
  obtain ⟨wp1, wp2, n1, n2⟩ := wrap_p hp8
  have hp9 : ¬ (8 : Int) ≤ (p : Int) := by omega
  clear hT hp t1 t2 t3 hctz
  go_enter Tryd.func8, Tryd.ntmps8
  go_wp2_with fail
  refine (iSlabValid_yes c u _ HV.out).mono ?_
  rintro e w1 ⟨rfl, b1⟩
  have q1 := bcell b1
  have q2 := bfrozen b1
  have hz1 : w.heap.size + 1 < w1.heap.size := by have := b1.size; simp at this; omega
  have B1 := (((Below.refl w.heap.size w).alloc (Nat.le_refl _) _).alloc (by simp) _).trans (b1.mono (by simp; omega))
  go_wp2_with fail
  refine (HC.out w1 (HT.out.below B1 HT.out.1)).mono ?_
  rintro e w2 ⟨rfl, rfl⟩
  clear HC
  go_wp2
  go_region
  all_goals
    go_wp2
    exact bodyPost_ret (v := .tuple #[.agg #[.int .i64 c, .int .i64 (u + 2 ^ p)], .int .i64 p, .bool true]) (by simp [results, Tryd.results8, go_sem, q1]) rfl ⟨rfl, ((B1.setCell (p := ⟨w.heap.size + 1, _, none⟩) (by simp) _).setCell (p := ⟨w.heap.size + 1, _, none⟩) (by simp) _).drew⟩

set_option maxHeartbeats 1000000 in
theorem iTks_full (c : Int) (w : World) (h : SV c 255) (hT : Tab w) : Calls Tryd.prog 8 #[.agg #[.int .i64 c, .int .i64 255]] w fun e w' => e = .returned (.tuple #[.agg #[.int .i64 c, .int .i64 255], .int .i64 (-1), .bool false]) ∧ Below w.heap.size w w' := by
  have HV := Lib.hid h
  obtain ⟨h1, h2, h3, h4⟩ := h
  obtain ⟨t1, t2, t3⟩ := tz_xor h3 h4
  have hctz : Lib.ctz 64 ((18446744073709551615 : Int) - 255).toNat = 8 := by decide +kernel
  have HC := Lib.hid (fun (w : World) (hT : Tab w) => tzU _ t1 t2 w hT)
  rw [hctz, t3, ← xor_u h3 h4] at HC
  have HT := Lib.hid hT
  clear hT t1 t2 t3 hctz h3 h4
  obtain ⟨u, hu⟩ : ∃ u : Int, u = 255 := ⟨_, rfl⟩
  rw [← hu] at HC HV
  rw [← hu]
  clear hu
  go_enter Tryd.func8, Tryd.ntmps8
  go_wp2_with fail
  refine (iSlabValid_yes c u _ HV.out).mono ?_
  rintro e w1 ⟨rfl, b1⟩
  have hu0 : 0 ≤ u := HV.out.2.2.1
  have hu1 : u ≤ 255 := HV.out.2.2.2
  have q1 := bcell b1
  have q2 := bfrozen b1
  have hz1 : w.heap.size + 1 < w1.heap.size := by have := b1.size; simp at this; omega
  have B1 := (((Below.refl w.heap.size w).alloc (Nat.le_refl _) _).alloc (by simp) _).trans (b1.mono (by simp; omega))
  go_wp2_with fail
  refine (HC.out w1 (HT.out.below B1 HT.out.1)).mono ?_
  rintro e w2 ⟨rfl, rfl⟩
  clear HC
  go_wp2
  exact bodyPost_ret (v := .tuple #[.agg #[.int .i64 c, .int .i64 u], .int .i64 (-1), .bool false]) (by simp [results, Tryd.results8, go_sem, q1]) rfl ⟨rfl, (B1.setCell (p := ⟨w.heap.size + 1, _, none⟩) (by simp) _).setCell (p := ⟨w.heap.size + 1, _, none⟩) (by simp) _⟩

theorem sTks_inv (c u : Int) (w : World) (h : ¬ SV c u) : Calls Tryd.prog 6 #[.agg #[.int .i64 c, .int .i64 u]] w fun e w' => e = .returned (.tuple #[.agg #[.int .i64 0, .int .i64 0], .int .i64 (-1), .bool false]) ∧ Below w.heap.size w w' := by
  have HV := Lib.hid h
  clear h
  go_enter Tryd.func6, Tryd.ntmps6
  go_wp2_with fail
  refine (sSlabValid_no c u _ HV.out).mono ?_
  rintro e w1 ⟨rfl, b1⟩
  have q1 := bcell b1
  have q2 := bfrozen b1
  have hz1 : w.heap.size + 1 < w1.heap.size := by have := b1.size; simp at this; omega
  have B1 := (((Below.refl w.heap.size w).alloc (Nat.le_refl _) _).alloc (by simp) _).trans (b1.mono (by simp; omega))
  go_wp2
  exact bodyPost_ret (v := .tuple #[.agg #[.int .i64 0, .int .i64 0], .int .i64 (-1), .bool false]) (by simp [results, Tryd.results6, go_sem, q1]) rfl ⟨rfl, (B1.setCell (p := ⟨w.heap.size + 1, _, none⟩) (by simp) _).setCell (p := ⟨w.heap.size + 1, _, none⟩) (by simp) _⟩

theorem tmod_two {u : Int} (h0 : 0 ≤ u) (k : Nat) : (u / 2 ^ k).tmod 2 = u / 2 ^ k % 2 := Int.tmod_eq_emod_of_nonneg (Int.ediv_nonneg h0 (Int.le_of_lt (Int.pow_pos (by decide))))

set_option maxHeartbeats 2000000 in
theorem sTks_yes (c u : Int) (p : Nat) (w : World) (h : SV c u) (hp : Low u p) : Calls Tryd.prog 6 #[.agg #[.int .i64 c, .int .i64 u]] w fun e w' => e = .returned (.tuple #[.agg #[.int .i64 c, .int .i64 (u + 2 ^ p)], .int .i64 p, .bool true]) ∧ Below w.heap.size w w' := by
  have HV := Lib.hid h
  obtain ⟨h1, h2, h3, h4⟩ := h
  have hor : bits .or .i64 u (2 ^ p) = u + 2 ^ p := by
    rcases low_any h3 h4 with ⟨rfl, _⟩ | ⟨q, hq, e1, e2⟩
    · have := hp.free
      have hlt := hp.lt
      exfalso
      have t : ∀ m : Fin 8, (255 : Int) / 2 ^ m.val % 2 = 1 := by decide +kernel
      have := t ⟨p, hlt⟩
      simp only at this
      omega
    · obtain rfl := low_uniq hp hq
      exact e2
  have HP := Lib.hid hp
  have hp8 : p < 8 := hp.lt
  obtain ⟨wp1, wp2, n1, n2⟩ := wrap_p hp8
  clear hp
  go_enter Tryd.func6, Tryd.ntmps6
  go_wp2_with fail
  refine (sSlabValid_yes c u _ HV.out).mono ?_
  rintro e w1 ⟨rfl, b1⟩
  have q1 := bcell b1
  have q2 := bfrozen b1
  have hz1 : w.heap.size + 1 < w1.heap.size := by have := b1.size; simp at this; omega
  have B1 := (((Below.refl w.heap.size w).alloc (Nat.le_refl _) _).alloc (by simp) _).trans (b1.mono (by simp; omega))
  go_wp2
  go_loop [5] (fun i => ∃ k : Nat, k ≤ p ∧ i = .int .i64 k) (fun i => 8 - (intOf i).toNat)
  case atStart => exact ⟨0, Nat.zero_le _, rfl⟩
  case round =>
    obtain ⟨k, hk, rfl⟩ := hrel
    have hk8 : k < 8 := by omega
    have ht := tmod_two h3 k
    by_cases e : k = p
    · subst e
      have q9 : (u / 2 ^ k % 2 == 0) = true := by rw [beq_iff_eq]; exact HP.out.free
      go_wp2
      go_region
      all_goals
        go_wp2
        exact bodyPost_ret (v := .tuple #[.agg #[.int .i64 c, .int .i64 (u + 2 ^ k)], .int .i64 k, .bool true]) (by simp [results, Tryd.results6, go_sem, q1]) rfl ⟨rfl, ((B1.setCell (p := ⟨w.heap.size + 1, _, none⟩) (by simp) _).setCell (p := ⟨w.heap.size + 1, _, none⟩) (by simp) _).drew⟩
    · have q9 : (u / 2 ^ k % 2 == 0) = false := by rw [beq_eq_false_iff_ne, HP.out.least k (by omega)]; decide
      have hkp : k + 1 ≤ p := by omega
      clear wp1 wp2 hor
      go_wp2
      go_round
      case rel => exact ⟨k + 1, hkp, by go_num⟩
      case measure => simp [intOf]; omega

set_option maxHeartbeats 2000000 in
theorem sTks_full (c : Int) (w : World) (h : SV c 255) : Calls Tryd.prog 6 #[.agg #[.int .i64 c, .int .i64 255]] w fun e w' => e = .returned (.tuple #[.agg #[.int .i64 c, .int .i64 255], .int .i64 (-1), .bool false]) ∧ Below w.heap.size w w' := by
  have HV := Lib.hid h
  obtain ⟨h1, h2, h3, h4⟩ := h
  have hl : RowKit.Hid (∀ m : Fin 8, (255 : Int) / 2 ^ m.val % 2 = 1) := Lib.hid (by decide +kernel)
  obtain ⟨u, hu⟩ : ∃ u : Int, u = 255 := ⟨_, rfl⟩
  rw [← hu] at HV h3 hl
  rw [← hu]
  clear hu h4
  go_enter Tryd.func6, Tryd.ntmps6
  go_wp2_with fail
  refine (sSlabValid_yes c u _ HV.out).mono ?_
  rintro e w1 ⟨rfl, b1⟩
  have q1 := bcell b1
  have q2 := bfrozen b1
  have hz1 : w.heap.size + 1 < w1.heap.size := by have := b1.size; simp at this; omega
  have B1 := (((Below.refl w.heap.size w).alloc (Nat.le_refl _) _).alloc (by simp) _).trans (b1.mono (by simp; omega))
  go_wp2
  go_loop [5] (fun i => ∃ k : Nat, k ≤ 8 ∧ i = .int .i64 k) (fun i => 8 - (intOf i).toNat)
  case atStart => exact ⟨0, Nat.zero_le _, rfl⟩
  case round =>
    obtain ⟨k, hk, rfl⟩ := hrel
    have ht := tmod_two h3 k
    by_cases e : k < 8
    · have q9 : (u / 2 ^ k % 2 == 0) = false := by rw [beq_eq_false_iff_ne]; have := hl.out ⟨k, e⟩; simp only at this; rw [this]; decide
      go_wp2
      go_round
      case rel => exact ⟨k + 1, by omega, by go_num⟩
      case measure => simp [intOf]; omega
    · obtain rfl : k = 8 := by omega
      go_wp2
      exact bodyPost_ret (v := .tuple #[.agg #[.int .i64 c, .int .i64 u], .int .i64 (-1), .bool false]) (by simp [results, Tryd.results6, go_sem, q1]) rfl ⟨rfl, (B1.setCell (p := ⟨w.heap.size + 1, _, none⟩) (by simp) _).setCell (p := ⟨w.heap.size + 1, _, none⟩) (by simp) _⟩

/-- What SlabTake gives, for every slab: the program's and the reference's. -/
structure Tks (c u c' u' p : Int) (b : Bool) : Prop where
  i : ∀ w : World, Tab w → Calls Tryd.prog 8 #[.agg #[.int .i64 c, .int .i64 u]] w fun e w' => e = .returned (.tuple #[.agg #[.int .i64 c', .int .i64 u'], .int .i64 p, .bool b]) ∧ Below w.heap.size w w'
  s : ∀ w : World, Calls Tryd.prog 6 #[.agg #[.int .i64 c, .int .i64 u]] w fun e w' => e = .returned (.tuple #[.agg #[.int .i64 c', .int .i64 u'], .int .i64 p, .bool b]) ∧ Below w.heap.size w w'
theorem tks_inv {c u : Int} (h : ¬ SV c u) : Tks c u 0 0 (-1) false := ⟨fun w _ => iTks_inv c u w h, fun w => sTks_inv c u w h⟩
theorem tks_yes {c u : Int} {p : Nat} (h : SV c u) (hp : Low u p) : Tks c u c (u + 2 ^ p) p true := ⟨fun w hT => iTks_yes c u p w h hp hT, fun w => sTks_yes c u p w h hp⟩
theorem tks_full {c : Int} (h : SV c 255) : Tks c 255 c 255 (-1) false := ⟨fun w hT => iTks_full c w h hT, fun w => sTks_full c w h⟩
theorem tks_any (c u : Int) : ∃ c' u' p b, Tks c u c' u' p b := by
  by_cases h : SV c u
  · rcases low_any h.2.2.1 h.2.2.2 with ⟨rfl, _⟩ | ⟨p, hp, _, _⟩
    · exact ⟨_, _, _, _, tks_full h⟩
    · exact ⟨_, _, _, _, tks_yes h hp⟩
  · exact ⟨_, _, _, _, tks_inv h⟩

end Go.Proofs.YtgbeannjoajenaaDoor.Wk
