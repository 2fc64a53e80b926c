/- Slabs: SlabGive, of the program and of the reference. Conditions: none. -/
import Derived.Test.YtgbeannjoajenaaDoorSlabB
namespace Go.Proofs.YtgbeannjoajenaaDoor.Wk
open Go.RowKit

theorem bits_tab : ∀ m : Fin 256, ∀ p : Fin 8, bits .and .i64 ((m.val : Int) / 2 ^ p.val) 1 = (m.val : Int) / 2 ^ p.val % 2 ∧
    ((m.val : Int) / 2 ^ p.val % 2 = 1 → bits .andNot .i64 (m.val : Int) (2 ^ p.val) = (m.val : Int) - 2 ^ p.val) := by decide +kernel

theorem and_one {u : Int} (h0 : 0 ≤ u) (h1 : u ≤ 255) (p : Nat) (hp : p < 8) : bits .and .i64 (u / 2 ^ p) 1 = u / 2 ^ p % 2 := by
  obtain ⟨m, rfl⟩ := Int.eq_ofNat_of_zero_le h0
  exact (bits_tab ⟨m, by omega⟩ ⟨p, hp⟩).1
theorem and_not {u : Int} (h0 : 0 ≤ u) (h1 : u ≤ 255) (p : Nat) (hp : p < 8) (h : u / 2 ^ p % 2 = 1) : bits .andNot .i64 u (2 ^ p) = u - 2 ^ p := by
  obtain ⟨m, rfl⟩ := Int.eq_ofNat_of_zero_le h0
  exact (bits_tab ⟨m, by omega⟩ ⟨p, hp⟩).2 h

theorem iGive_inv (c u p : Int) (w : World) (h : ¬ SV c u) : Calls Tryd.prog 13 #[.agg #[.int .i64 c, .int .i64 u], .int .i64 p] w fun e w' => e = .returned (.tuple #[.agg #[.int .i64 0, .int .i64 0], .bool false]) ∧ Below w.heap.size w w' := by
  have HV := Lib.hid h
  clear h
  go_enter Tryd.func13, Tryd.ntmps13
  go_wp2_with fail
  refine (iSlabValid_no c u _ HV.out).mono ?_
  rintro e w1 ⟨rfl, b1⟩
  have q1 := bcell b1
  have q2 := bfrozen b1
  have hz1 : w.heap.size + 1 < w1.heap.size := by have := b1.size; simp at this; omega
  have B1 := (((Below.refl w.heap.size w).alloc (Nat.le_refl _) _).alloc (by simp) _).trans (b1.mono (by simp; omega))
  go_wp2
  exact bodyPost_ret (v := .tuple #[.agg #[.int .i64 0, .int .i64 0], .bool false]) (by simp [results, Tryd.results13, go_sem, q1]) rfl ⟨rfl, (B1.setCell (p := ⟨w.heap.size + 1, _, none⟩) (by simp) _).setCell (p := ⟨w.heap.size + 1, _, none⟩) (by simp) _⟩

theorem iGive_out (c u p : Int) (w : World) (h : SV c u) (hp : p < 0 ∨ 7 < p) : Calls Tryd.prog 13 #[.agg #[.int .i64 c, .int .i64 u], .int .i64 p] w fun e w' => e = .returned (.tuple #[.agg #[.int .i64 c, .int .i64 u], .bool false]) ∧ Below w.heap.size w w' := by
  have HV := Lib.hid h
  clear h
  rcases hp with hp | hp
  all_goals
    go_enter Tryd.func13, Tryd.ntmps13
    go_wp2_with fail
    refine (iSlabValid_yes c u _ HV.out).mono ?_
    rintro e w1 ⟨rfl, b1⟩
    have q1 := bcell b1
    have q2 := bfrozen b1
    have hz1 : w.heap.size + 1 < w1.heap.size := by have := b1.size; simp at this; omega
    have B1 := (((Below.refl w.heap.size w).alloc (Nat.le_refl _) _).alloc (by simp) _).trans (b1.mono (by simp; omega))
    go_wp2
    exact bodyPost_ret (v := .tuple #[.agg #[.int .i64 c, .int .i64 u], .bool false]) (by simp [results, Tryd.results13, go_sem, q1]) rfl ⟨rfl, (B1.setCell (p := ⟨w.heap.size + 1, _, none⟩) (by simp) _).setCell (p := ⟨w.heap.size + 1, _, none⟩) (by simp) _⟩

theorem iGive_yes0 (c u : Int) (w : World) (h : SV c u) (hb : u % 2 = 1) : Calls Tryd.prog 13 #[.agg #[.int .i64 c, .int .i64 u], .int .i64 0] w fun e w' => e = .returned (.tuple #[.agg #[.int .i64 c, .int .i64 (u - 1)], .bool true]) ∧ Below w.heap.size w w' := by
  have HV := Lib.hid h
  obtain ⟨h1, h2, h3, h4⟩ := h
  have e1 : (bits .and .i64 (u) 1 == 0) = false := by
    have := and_one h3 h4 0 (by omega)
    simp only [Int.pow_zero, Int.ediv_one] at this
    rw [this, hb]; rfl
  have e2 : bits .andNot .i64 u 1 = u - 1 := by
    have := and_not h3 h4 0 (by omega) (by simpa using hb)
    simpa using this
  clear hb
  go_enter Tryd.func13, Tryd.ntmps13
  go_wp2_with fail
  refine (iSlabValid_yes c u _ HV.out).mono ?_
  rintro e w1 ⟨rfl, b1⟩
  have q1 := bcell b1
  have q2 := bfrozen b1
  have hz1 : w.heap.size + 1 < w1.heap.size := by have := b1.size; simp at this; omega
  have B1 := (((Below.refl w.heap.size w).alloc (Nat.le_refl _) _).alloc (by simp) _).trans (b1.mono (by simp; omega))
  go_wp2
  go_region
  all_goals
    go_wp2
    exact bodyPost_ret (v := .tuple #[.agg #[.int .i64 c, .int .i64 (u - 1)], .bool true]) (by simp [results, Tryd.results13, go_sem, q1]) rfl ⟨rfl, ((B1.setCell (p := ⟨w.heap.size + 1, _, none⟩) (by simp) _).setCell (p := ⟨w.heap.size + 1, _, none⟩) (by simp) _).drew⟩

theorem iGive_no0 (c u : Int) (w : World) (h : SV c u) (hb : u % 2 = 0) : Calls Tryd.prog 13 #[.agg #[.int .i64 c, .int .i64 u], .int .i64 0] w fun e w' => e = .returned (.tuple #[.agg #[.int .i64 c, .int .i64 (u)], .bool false]) ∧ Below w.heap.size w w' := by
  have HV := Lib.hid h
  obtain ⟨h1, h2, h3, h4⟩ := h
  have e1 : (bits .and .i64 (u) 1 == 0) = true := by
    have := and_one h3 h4 0 (by omega)
    simp only [Int.pow_zero, Int.ediv_one] at this
    rw [this, hb]; rfl
  clear hb
  go_enter Tryd.func13, Tryd.ntmps13
  go_wp2_with fail
  refine (iSlabValid_yes c u _ HV.out).mono ?_
  rintro e w1 ⟨rfl, b1⟩
  have q1 := bcell b1
  have q2 := bfrozen b1
  have hz1 : w.heap.size + 1 < w1.heap.size := by have := b1.size; simp at this; omega
  have B1 := (((Below.refl w.heap.size w).alloc (Nat.le_refl _) _).alloc (by simp) _).trans (b1.mono (by simp; omega))
  go_wp2
  exact bodyPost_ret (v := .tuple #[.agg #[.int .i64 c, .int .i64 u], .bool false]) (by simp [results, Tryd.results13, go_sem, q1]) rfl ⟨rfl, (B1.setCell (p := ⟨w.heap.size + 1, _, none⟩) (by simp) _).setCell (p := ⟨w.heap.size + 1, _, none⟩) (by simp) _⟩

theorem iGive_yes1 (c u : Int) (w : World) (h : SV c u) (hb : u / 2 % 2 = 1) : Calls Tryd.prog 13 #[.agg #[.int .i64 c, .int .i64 u], .int .i64 1] w fun e w' => e = .returned (.tuple #[.agg #[.int .i64 c, .int .i64 (u - 2)], .bool true]) ∧ Below w.heap.size w w' := by
  have HV := Lib.hid h
  obtain ⟨h1, h2, h3, h4⟩ := h
  have e1 : (bits .and .i64 (u / 2) 1 == 0) = false := by
    have := and_one h3 h4 1 (by omega)
    simp only [Int.reducePow] at this
    rw [this, hb]; rfl
  have e2 : bits .andNot .i64 u 2 = u - 2 := by
    have := and_not h3 h4 1 (by omega) (by simpa using hb)
    simpa using this
  clear hb
  go_enter Tryd.func13, Tryd.ntmps13
  go_wp2_with fail
  refine (iSlabValid_yes c u _ HV.out).mono ?_
  rintro e w1 ⟨rfl, b1⟩
  have q1 := bcell b1
  have q2 := bfrozen b1
  have hz1 : w.heap.size + 1 < w1.heap.size := by have := b1.size; simp at this; omega
  have B1 := (((Below.refl w.heap.size w).alloc (Nat.le_refl _) _).alloc (by simp) _).trans (b1.mono (by simp; omega))
  go_wp2
  go_region
  all_goals
    go_wp2
    exact bodyPost_ret (v := .tuple #[.agg #[.int .i64 c, .int .i64 (u - 2)], .bool true]) (by simp [results, Tryd.results13, go_sem, q1]) rfl ⟨rfl, ((B1.setCell (p := ⟨w.heap.size + 1, _, none⟩) (by simp) _).setCell (p := ⟨w.heap.size + 1, _, none⟩) (by simp) _).drew⟩

theorem iGive_no1 (c u : Int) (w : World) (h : SV c u) (hb : u / 2 % 2 = 0) : Calls Tryd.prog 13 #[.agg #[.int .i64 c, .int .i64 u], .int .i64 1] w fun e w' => e = .returned (.tuple #[.agg #[.int .i64 c, .int .i64 (u)], .bool false]) ∧ Below w.heap.size w w' := by
  have HV := Lib.hid h
  obtain ⟨h1, h2, h3, h4⟩ := h
  have e1 : (bits .and .i64 (u / 2) 1 == 0) = true := by
    have := and_one h3 h4 1 (by omega)
    simp only [Int.reducePow] at this
    rw [this, hb]; rfl
  clear hb
  go_enter Tryd.func13, Tryd.ntmps13
  go_wp2_with fail
  refine (iSlabValid_yes c u _ HV.out).mono ?_
  rintro e w1 ⟨rfl, b1⟩
  have q1 := bcell b1
  have q2 := bfrozen b1
  have hz1 : w.heap.size + 1 < w1.heap.size := by have := b1.size; simp at this; omega
  have B1 := (((Below.refl w.heap.size w).alloc (Nat.le_refl _) _).alloc (by simp) _).trans (b1.mono (by simp; omega))
  go_wp2
  exact bodyPost_ret (v := .tuple #[.agg #[.int .i64 c, .int .i64 u], .bool false]) (by simp [results, Tryd.results13, go_sem, q1]) rfl ⟨rfl, (B1.setCell (p := ⟨w.heap.size + 1, _, none⟩) (by simp) _).setCell (p := ⟨w.heap.size + 1, _, none⟩) (by simp) _⟩

theorem iGive_yes2 (c u : Int) (w : World) (h : SV c u) (hb : u / 4 % 2 = 1) : Calls Tryd.prog 13 #[.agg #[.int .i64 c, .int .i64 u], .int .i64 2] w fun e w' => e = .returned (.tuple #[.agg #[.int .i64 c, .int .i64 (u - 4)], .bool true]) ∧ Below w.heap.size w w' := by
  have HV := Lib.hid h
  obtain ⟨h1, h2, h3, h4⟩ := h
  have e1 : (bits .and .i64 (u / 4) 1 == 0) = false := by
    have := and_one h3 h4 2 (by omega)
    simp only [Int.reducePow] at this
    rw [this, hb]; rfl
  have e2 : bits .andNot .i64 u 4 = u - 4 := by
    have := and_not h3 h4 2 (by omega) (by simpa using hb)
    simpa using this
  clear hb
  go_enter Tryd.func13, Tryd.ntmps13
  go_wp2_with fail
  refine (iSlabValid_yes c u _ HV.out).mono ?_
  rintro e w1 ⟨rfl, b1⟩
  have q1 := bcell b1
  have q2 := bfrozen b1
  have hz1 : w.heap.size + 1 < w1.heap.size := by have := b1.size; simp at this; omega
  have B1 := (((Below.refl w.heap.size w).alloc (Nat.le_refl _) _).alloc (by simp) _).trans (b1.mono (by simp; omega))
  go_wp2
  go_region
  all_goals
    go_wp2
    exact bodyPost_ret (v := .tuple #[.agg #[.int .i64 c, .int .i64 (u - 4)], .bool true]) (by simp [results, Tryd.results13, go_sem, q1]) rfl ⟨rfl, ((B1.setCell (p := ⟨w.heap.size + 1, _, none⟩) (by simp) _).setCell (p := ⟨w.heap.size + 1, _, none⟩) (by simp) _).drew⟩

theorem iGive_no2 (c u : Int) (w : World) (h : SV c u) (hb : u / 4 % 2 = 0) : Calls Tryd.prog 13 #[.agg #[.int .i64 c, .int .i64 u], .int .i64 2] w fun e w' => e = .returned (.tuple #[.agg #[.int .i64 c, .int .i64 (u)], .bool false]) ∧ Below w.heap.size w w' := by
  have HV := Lib.hid h
  obtain ⟨h1, h2, h3, h4⟩ := h
  have e1 : (bits .and .i64 (u / 4) 1 == 0) = true := by
    have := and_one h3 h4 2 (by omega)
    simp only [Int.reducePow] at this
    rw [this, hb]; rfl
  clear hb
  go_enter Tryd.func13, Tryd.ntmps13
  go_wp2_with fail
  refine (iSlabValid_yes c u _ HV.out).mono ?_
  rintro e w1 ⟨rfl, b1⟩
  have q1 := bcell b1
  have q2 := bfrozen b1
  have hz1 : w.heap.size + 1 < w1.heap.size := by have := b1.size; simp at this; omega
  have B1 := (((Below.refl w.heap.size w).alloc (Nat.le_refl _) _).alloc (by simp) _).trans (b1.mono (by simp; omega))
  go_wp2
  exact bodyPost_ret (v := .tuple #[.agg #[.int .i64 c, .int .i64 u], .bool false]) (by simp [results, Tryd.results13, go_sem, q1]) rfl ⟨rfl, (B1.setCell (p := ⟨w.heap.size + 1, _, none⟩) (by simp) _).setCell (p := ⟨w.heap.size + 1, _, none⟩) (by simp) _⟩

theorem iGive_yes3 (c u : Int) (w : World) (h : SV c u) (hb : u / 8 % 2 = 1) : Calls Tryd.prog 13 #[.agg #[.int .i64 c, .int .i64 u], .int .i64 3] w fun e w' => e = .returned (.tuple #[.agg #[.int .i64 c, .int .i64 (u - 8)], .bool true]) ∧ Below w.heap.size w w' := by
  have HV := Lib.hid h
  obtain ⟨h1, h2, h3, h4⟩ := h
  have e1 : (bits .and .i64 (u / 8) 1 == 0) = false := by
    have := and_one h3 h4 3 (by omega)
    simp only [Int.reducePow] at this
    rw [this, hb]; rfl
  have e2 : bits .andNot .i64 u 8 = u - 8 := by
    have := and_not h3 h4 3 (by omega) (by simpa using hb)
    simpa using this
  clear hb
  go_enter Tryd.func13, Tryd.ntmps13
  go_wp2_with fail
  refine (iSlabValid_yes c u _ HV.out).mono ?_
  rintro e w1 ⟨rfl, b1⟩
  have q1 := bcell b1
  have q2 := bfrozen b1
  have hz1 : w.heap.size + 1 < w1.heap.size := by have := b1.size; simp at this; omega
  have B1 := (((Below.refl w.heap.size w).alloc (Nat.le_refl _) _).alloc (by simp) _).trans (b1.mono (by simp; omega))
  go_wp2
  go_region
  all_goals
    go_wp2
    exact bodyPost_ret (v := .tuple #[.agg #[.int .i64 c, .int .i64 (u - 8)], .bool true]) (by simp [results, Tryd.results13, go_sem, q1]) rfl ⟨rfl, ((B1.setCell (p := ⟨w.heap.size + 1, _, none⟩) (by simp) _).setCell (p := ⟨w.heap.size + 1, _, none⟩) (by simp) _).drew⟩

theorem iGive_no3 (c u : Int) (w : World) (h : SV c u) (hb : u / 8 % 2 = 0) : Calls Tryd.prog 13 #[.agg #[.int .i64 c, .int .i64 u], .int .i64 3] w fun e w' => e = .returned (.tuple #[.agg #[.int .i64 c, .int .i64 (u)], .bool false]) ∧ Below w.heap.size w w' := by
  have HV := Lib.hid h
  obtain ⟨h1, h2, h3, h4⟩ := h
  have e1 : (bits .and .i64 (u / 8) 1 == 0) = true := by
    have := and_one h3 h4 3 (by omega)
    simp only [Int.reducePow] at this
    rw [this, hb]; rfl
  clear hb
  go_enter Tryd.func13, Tryd.ntmps13
  go_wp2_with fail
  refine (iSlabValid_yes c u _ HV.out).mono ?_
  rintro e w1 ⟨rfl, b1⟩
  have q1 := bcell b1
  have q2 := bfrozen b1
  have hz1 : w.heap.size + 1 < w1.heap.size := by have := b1.size; simp at this; omega
  have B1 := (((Below.refl w.heap.size w).alloc (Nat.le_refl _) _).alloc (by simp) _).trans (b1.mono (by simp; omega))
  go_wp2
  exact bodyPost_ret (v := .tuple #[.agg #[.int .i64 c, .int .i64 u], .bool false]) (by simp [results, Tryd.results13, go_sem, q1]) rfl ⟨rfl, (B1.setCell (p := ⟨w.heap.size + 1, _, none⟩) (by simp) _).setCell (p := ⟨w.heap.size + 1, _, none⟩) (by simp) _⟩

theorem iGive_yes4 (c u : Int) (w : World) (h : SV c u) (hb : u / 16 % 2 = 1) : Calls Tryd.prog 13 #[.agg #[.int .i64 c, .int .i64 u], .int .i64 4] w fun e w' => e = .returned (.tuple #[.agg #[.int .i64 c, .int .i64 (u - 16)], .bool true]) ∧ Below w.heap.size w w' := by
  have HV := Lib.hid h
  obtain ⟨h1, h2, h3, h4⟩ := h
  have e1 : (bits .and .i64 (u / 16) 1 == 0) = false := by
    have := and_one h3 h4 4 (by omega)
    simp only [Int.reducePow] at this
    rw [this, hb]; rfl
  have e2 : bits .andNot .i64 u 16 = u - 16 := by
    have := and_not h3 h4 4 (by omega) (by simpa using hb)
    simpa using this
  clear hb
  go_enter Tryd.func13, Tryd.ntmps13
  go_wp2_with fail
  refine (iSlabValid_yes c u _ HV.out).mono ?_
  rintro e w1 ⟨rfl, b1⟩
  have q1 := bcell b1
  have q2 := bfrozen b1
  have hz1 : w.heap.size + 1 < w1.heap.size := by have := b1.size; simp at this; omega
  have B1 := (((Below.refl w.heap.size w).alloc (Nat.le_refl _) _).alloc (by simp) _).trans (b1.mono (by simp; omega))
  go_wp2
  go_region
  all_goals
    go_wp2
    exact bodyPost_ret (v := .tuple #[.agg #[.int .i64 c, .int .i64 (u - 16)], .bool true]) (by simp [results, Tryd.results13, go_sem, q1]) rfl ⟨rfl, ((B1.setCell (p := ⟨w.heap.size + 1, _, none⟩) (by simp) _).setCell (p := ⟨w.heap.size + 1, _, none⟩) (by simp) _).drew⟩

theorem iGive_no4 (c u : Int) (w : World) (h : SV c u) (hb : u / 16 % 2 = 0) : Calls Tryd.prog 13 #[.agg #[.int .i64 c, .int .i64 u], .int .i64 4] w fun e w' => e = .returned (.tuple #[.agg #[.int .i64 c, .int .i64 (u)], .bool false]) ∧ Below w.heap.size w w' := by
  have HV := Lib.hid h
  obtain ⟨h1, h2, h3, h4⟩ := h
  have e1 : (bits .and .i64 (u / 16) 1 == 0) = true := by
    have := and_one h3 h4 4 (by omega)
    simp only [Int.reducePow] at this
    rw [this, hb]; rfl
  clear hb
  go_enter Tryd.func13, Tryd.ntmps13
  go_wp2_with fail
  refine (iSlabValid_yes c u _ HV.out).mono ?_
  rintro e w1 ⟨rfl, b1⟩
  have q1 := bcell b1
  have q2 := bfrozen b1
  have hz1 : w.heap.size + 1 < w1.heap.size := by have := b1.size; simp at this; omega
  have B1 := (((Below.refl w.heap.size w).alloc (Nat.le_refl _) _).alloc (by simp) _).trans (b1.mono (by simp; omega))
  go_wp2
  exact bodyPost_ret (v := .tuple #[.agg #[.int .i64 c, .int .i64 u], .bool false]) (by simp [results, Tryd.results13, go_sem, q1]) rfl ⟨rfl, (B1.setCell (p := ⟨w.heap.size + 1, _, none⟩) (by simp) _).setCell (p := ⟨w.heap.size + 1, _, none⟩) (by simp) _⟩

theorem iGive_yes5 (c u : Int) (w : World) (h : SV c u) (hb : u / 32 % 2 = 1) : Calls Tryd.prog 13 #[.agg #[.int .i64 c, .int .i64 u], .int .i64 5] w fun e w' => e = .returned (.tuple #[.agg #[.int .i64 c, .int .i64 (u - 32)], .bool true]) ∧ Below w.heap.size w w' := by
  have HV := Lib.hid h
  obtain ⟨h1, h2, h3, h4⟩ := h
  have e1 : (bits .and .i64 (u / 32) 1 == 0) = false := by
    have := and_one h3 h4 5 (by omega)
    simp only [Int.reducePow] at this
    rw [this, hb]; rfl
  have e2 : bits .andNot .i64 u 32 = u - 32 := by
    have := and_not h3 h4 5 (by omega) (by simpa using hb)
    simpa using this
  clear hb
  go_enter Tryd.func13, Tryd.ntmps13
  go_wp2_with fail
  refine (iSlabValid_yes c u _ HV.out).mono ?_
  rintro e w1 ⟨rfl, b1⟩
  have q1 := bcell b1
  have q2 := bfrozen b1
  have hz1 : w.heap.size + 1 < w1.heap.size := by have := b1.size; simp at this; omega
  have B1 := (((Below.refl w.heap.size w).alloc (Nat.le_refl _) _).alloc (by simp) _).trans (b1.mono (by simp; omega))
  go_wp2
  go_region
  all_goals
    go_wp2
    exact bodyPost_ret (v := .tuple #[.agg #[.int .i64 c, .int .i64 (u - 32)], .bool true]) (by simp [results, Tryd.results13, go_sem, q1]) rfl ⟨rfl, ((B1.setCell (p := ⟨w.heap.size + 1, _, none⟩) (by simp) _).setCell (p := ⟨w.heap.size + 1, _, none⟩) (by simp) _).drew⟩

theorem iGive_no5 (c u : Int) (w : World) (h : SV c u) (hb : u / 32 % 2 = 0) : Calls Tryd.prog 13 #[.agg #[.int .i64 c, .int .i64 u], .int .i64 5] w fun e w' => e = .returned (.tuple #[.agg #[.int .i64 c, .int .i64 (u)], .bool false]) ∧ Below w.heap.size w w' := by
  have HV := Lib.hid h
  obtain ⟨h1, h2, h3, h4⟩ := h
  have e1 : (bits .and .i64 (u / 32) 1 == 0) = true := by
    have := and_one h3 h4 5 (by omega)
    simp only [Int.reducePow] at this
    rw [this, hb]; rfl
  clear hb
  go_enter Tryd.func13, Tryd.ntmps13
  go_wp2_with fail
  refine (iSlabValid_yes c u _ HV.out).mono ?_
  rintro e w1 ⟨rfl, b1⟩
  have q1 := bcell b1
  have q2 := bfrozen b1
  have hz1 : w.heap.size + 1 < w1.heap.size := by have := b1.size; simp at this; omega
  have B1 := (((Below.refl w.heap.size w).alloc (Nat.le_refl _) _).alloc (by simp) _).trans (b1.mono (by simp; omega))
  go_wp2
  exact bodyPost_ret (v := .tuple #[.agg #[.int .i64 c, .int .i64 u], .bool false]) (by simp [results, Tryd.results13, go_sem, q1]) rfl ⟨rfl, (B1.setCell (p := ⟨w.heap.size + 1, _, none⟩) (by simp) _).setCell (p := ⟨w.heap.size + 1, _, none⟩) (by simp) _⟩

theorem iGive_yes6 (c u : Int) (w : World) (h : SV c u) (hb : u / 64 % 2 = 1) : Calls Tryd.prog 13 #[.agg #[.int .i64 c, .int .i64 u], .int .i64 6] w fun e w' => e = .returned (.tuple #[.agg #[.int .i64 c, .int .i64 (u - 64)], .bool true]) ∧ Below w.heap.size w w' := by
  have HV := Lib.hid h
  obtain ⟨h1, h2, h3, h4⟩ := h
  have e1 : (bits .and .i64 (u / 64) 1 == 0) = false := by
    have := and_one h3 h4 6 (by omega)
    simp only [Int.reducePow] at this
    rw [this, hb]; rfl
  have e2 : bits .andNot .i64 u 64 = u - 64 := by
    have := and_not h3 h4 6 (by omega) (by simpa using hb)
    simpa using this
  clear hb
  go_enter Tryd.func13, Tryd.ntmps13
  go_wp2_with fail
  refine (iSlabValid_yes c u _ HV.out).mono ?_
  rintro e w1 ⟨rfl, b1⟩
  have q1 := bcell b1
  have q2 := bfrozen b1
  have hz1 : w.heap.size + 1 < w1.heap.size := by have := b1.size; simp at this; omega
  have B1 := (((Below.refl w.heap.size w).alloc (Nat.le_refl _) _).alloc (by simp) _).trans (b1.mono (by simp; omega))
  go_wp2
  go_region
  all_goals
    go_wp2
    exact bodyPost_ret (v := .tuple #[.agg #[.int .i64 c, .int .i64 (u - 64)], .bool true]) (by simp [results, Tryd.results13, go_sem, q1]) rfl ⟨rfl, ((B1.setCell (p := ⟨w.heap.size + 1, _, none⟩) (by simp) _).setCell (p := ⟨w.heap.size + 1, _, none⟩) (by simp) _).drew⟩

theorem iGive_no6 (c u : Int) (w : World) (h : SV c u) (hb : u / 64 % 2 = 0) : Calls Tryd.prog 13 #[.agg #[.int .i64 c, .int .i64 u], .int .i64 6] w fun e w' => e = .returned (.tuple #[.agg #[.int .i64 c, .int .i64 (u)], .bool false]) ∧ Below w.heap.size w w' := by
  have HV := Lib.hid h
  obtain ⟨h1, h2, h3, h4⟩ := h
  have e1 : (bits .and .i64 (u / 64) 1 == 0) = true := by
    have := and_one h3 h4 6 (by omega)
    simp only [Int.reducePow] at this
    rw [this, hb]; rfl
  clear hb
  go_enter Tryd.func13, Tryd.ntmps13
  go_wp2_with fail
  refine (iSlabValid_yes c u _ HV.out).mono ?_
  rintro e w1 ⟨rfl, b1⟩
  have q1 := bcell b1
  have q2 := bfrozen b1
  have hz1 : w.heap.size + 1 < w1.heap.size := by have := b1.size; simp at this; omega
  have B1 := (((Below.refl w.heap.size w).alloc (Nat.le_refl _) _).alloc (by simp) _).trans (b1.mono (by simp; omega))
  go_wp2
  exact bodyPost_ret (v := .tuple #[.agg #[.int .i64 c, .int .i64 u], .bool false]) (by simp [results, Tryd.results13, go_sem, q1]) rfl ⟨rfl, (B1.setCell (p := ⟨w.heap.size + 1, _, none⟩) (by simp) _).setCell (p := ⟨w.heap.size + 1, _, none⟩) (by simp) _⟩

theorem iGive_yes7 (c u : Int) (w : World) (h : SV c u) (hb : u / 128 % 2 = 1) : Calls Tryd.prog 13 #[.agg #[.int .i64 c, .int .i64 u], .int .i64 7] w fun e w' => e = .returned (.tuple #[.agg #[.int .i64 c, .int .i64 (u - 128)], .bool true]) ∧ Below w.heap.size w w' := by
  have HV := Lib.hid h
  obtain ⟨h1, h2, h3, h4⟩ := h
  have e1 : (bits .and .i64 (u / 128) 1 == 0) = false := by
    have := and_one h3 h4 7 (by omega)
    simp only [Int.reducePow] at this
    rw [this, hb]; rfl
  have e2 : bits .andNot .i64 u 128 = u - 128 := by
    have := and_not h3 h4 7 (by omega) (by simpa using hb)
    simpa using this
  clear hb
  go_enter Tryd.func13, Tryd.ntmps13
  go_wp2_with fail
  refine (iSlabValid_yes c u _ HV.out).mono ?_
  rintro e w1 ⟨rfl, b1⟩
  have q1 := bcell b1
  have q2 := bfrozen b1
  have hz1 : w.heap.size + 1 < w1.heap.size := by have := b1.size; simp at this; omega
  have B1 := (((Below.refl w.heap.size w).alloc (Nat.le_refl _) _).alloc (by simp) _).trans (b1.mono (by simp; omega))
  go_wp2
  go_region
  all_goals
    go_wp2
    exact bodyPost_ret (v := .tuple #[.agg #[.int .i64 c, .int .i64 (u - 128)], .bool true]) (by simp [results, Tryd.results13, go_sem, q1]) rfl ⟨rfl, ((B1.setCell (p := ⟨w.heap.size + 1, _, none⟩) (by simp) _).setCell (p := ⟨w.heap.size + 1, _, none⟩) (by simp) _).drew⟩

theorem iGive_no7 (c u : Int) (w : World) (h : SV c u) (hb : u / 128 % 2 = 0) : Calls Tryd.prog 13 #[.agg #[.int .i64 c, .int .i64 u], .int .i64 7] w fun e w' => e = .returned (.tuple #[.agg #[.int .i64 c, .int .i64 (u)], .bool false]) ∧ Below w.heap.size w w' := by
  have HV := Lib.hid h
  obtain ⟨h1, h2, h3, h4⟩ := h
  have e1 : (bits .and .i64 (u / 128) 1 == 0) = true := by
    have := and_one h3 h4 7 (by omega)
    simp only [Int.reducePow] at this
    rw [this, hb]; rfl
  clear hb
  go_enter Tryd.func13, Tryd.ntmps13
  go_wp2_with fail
  refine (iSlabValid_yes c u _ HV.out).mono ?_
  rintro e w1 ⟨rfl, b1⟩
  have q1 := bcell b1
  have q2 := bfrozen b1
  have hz1 : w.heap.size + 1 < w1.heap.size := by have := b1.size; simp at this; omega
  have B1 := (((Below.refl w.heap.size w).alloc (Nat.le_refl _) _).alloc (by simp) _).trans (b1.mono (by simp; omega))
  go_wp2
  exact bodyPost_ret (v := .tuple #[.agg #[.int .i64 c, .int .i64 u], .bool false]) (by simp [results, Tryd.results13, go_sem, q1]) rfl ⟨rfl, (B1.setCell (p := ⟨w.heap.size + 1, _, none⟩) (by simp) _).setCell (p := ⟨w.heap.size + 1, _, none⟩) (by simp) _⟩

end Go.Proofs.YtgbeannjoajenaaDoor.Wk
