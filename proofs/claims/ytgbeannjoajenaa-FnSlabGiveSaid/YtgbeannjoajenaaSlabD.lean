/- Slabs: ClassFor, SlabWaste, SlabGive. Conditions: none. -/
import Derived.Test.YtgbeannjoajenaaSlabB
namespace Go.Proofs.Ytgbeannjoajenaa.Wk
open Go.RowKit

/-- The first class whose places are large enough. -/
def cfor (s : Int) : Int := if s < 1 then -1 else if s ≤ 1 then 0 else if s ≤ 2 then 1 else if s ≤ 3 then 2 else if s ≤ 4 then 3 else if s ≤ 6 then 4 else if s ≤ 8 then 5 else if s ≤ 12 then 6 else if s ≤ 16 then 7 else -1

theorem csz_vals : csz 0 = 1 ∧ csz 1 = 2 ∧ csz 2 = 3 ∧ csz 3 = 4 ∧ csz 4 = 6 ∧ csz 5 = 8 ∧ csz 6 = 12 ∧ csz 7 = 16 := ⟨rfl, rfl, rfl, rfl, rfl, rfl, rfl, rfl⟩

theorem cfor_hit {s : Int} {k : Nat} (h1 : 1 ≤ s) (hk : k ≤ 7) (h : s ≤ csz k) (hp : k = 0 ∨ csz ((k : Int) - 1) < s) : cfor s = k := by
  obtain ⟨v0, v1, v2, v3, v4, v5, v6, v7⟩ := csz_vals
  have hc : k = 0 ∨ k = 1 ∨ k = 2 ∨ k = 3 ∨ k = 4 ∨ k = 5 ∨ k = 6 ∨ k = 7 := by omega
  unfold cfor
  rcases hc with rfl | rfl | rfl | rfl | rfl | rfl | rfl | rfl <;> simp at h hp <;> (try rw [v0] at h) <;> (try rw [v1] at h) <;> (try rw [v2] at h) <;> (try rw [v3] at h) <;> (try rw [v4] at h) <;> (try rw [v5] at h) <;> (try rw [v6] at h) <;> (try rw [v7] at h) <;>
    (try rw [v0] at hp) <;> (try rw [v1] at hp) <;> (try rw [v2] at hp) <;> (try rw [v3] at hp) <;> (try rw [v4] at hp) <;> (try rw [v5] at hp) <;> (try rw [v6] at hp) <;> (repeat' split) <;> omega

theorem cfor_none {s : Int} (h : csz 7 < s) : cfor s = -1 := by
  have v7 : csz 7 = 16 := rfl
  rw [v7] at h
  unfold cfor; (repeat' split) <;> omega
theorem cfor_low {s : Int} (h : s < 1) : cfor s = -1 := by unfold cfor; rw [if_pos h]

theorem iClassFor (s : Int) (w : World) : Calls Try.prog 20 #[.int .i64 s] w fun e w' => e = .returned (.int .i64 (cfor s)) ∧ Below w.heap.size w w' := by
  by_cases hs : s < 1
  · rw [cfor_low hs]
    go_enter Try.func20, Try.ntmps20
    go_wp2
    refine wp_loop_rounds 1 ?_
    rw [rounds_succ]
    go_wp2
    go_ret
    exact ⟨rfl, Below.refl _ _⟩
  · have hs1 : 1 ≤ s := by omega
    clear hs
    go_enter Try.func20, Try.ntmps20
    go_wp2
    go_loopw [3] (fun i wr => ∃ k : Nat, k ≤ 8 ∧ i = .int .i64 k ∧ (k = 0 ∨ csz ((k : Int) - 1) < s) ∧ Below w.heap.size w wr) (fun i _ => 8 - (intOf i).toNat)
    case atStart => exact ⟨0, by omega, rfl, .inl rfl, Below.refl _ _⟩
    case round =>
      obtain ⟨k, hk, rfl, hp, hb⟩ := hrel
      have HP := Lib.hid hp
      clear hp
      by_cases h7 : k ≤ 7
      · by_cases hc : s ≤ csz k
        · have HR := Lib.hid (cfor_hit hs1 h7 hc HP.out)
          go_wp2_with fail
          refine (iClassSize _ _).mono ?_
          rintro e w2 ⟨rfl, rfl⟩
          go_wp2
          go_ret
          exact ⟨by rw [HR.out]; rfl, hb⟩
        · have hc' : csz k < s := by omega
          have HR := Lib.hid (show k + 1 = 0 ∨ csz (((k + 1 : Nat) : Int) - 1) < s from .inr (by rw [show (((k + 1 : Nat) : Int) - 1) = k by omega]; exact hc'))
          clear hc
          go_wp2_with fail
          refine (iClassSize _ _).mono ?_
          rintro e w2 ⟨rfl, rfl⟩
          go_wp2
          go_roundw
          case rel => exact ⟨k + 1, by omega, by go_num, HR.out, hb⟩
          case measure => simp [intOf]; omega
      · have HR := Lib.hid (cfor_none (s := s) (by
          rcases HP.out with h | h
          · omega
          · rw [show (k : Int) - 1 = 7 by omega] at h; exact h))
        have hk8 : ¬ (k : Int) ≤ 7 := by omega
        go_wp2
        go_ret
        exact ⟨by rw [HR.out]; rfl, hb⟩

theorem sClassFor (s : Int) (w : World) : Calls Try.prog 19 #[.int .i64 s] w fun e w' => e = .returned (.int .i64 (cfor s)) ∧ Below w.heap.size w w' := by
  by_cases hs : s < 1
  · rw [cfor_low hs]
    go_enter Try.func19, Try.ntmps19
    go_wp2
    refine wp_loop_rounds 1 ?_
    rw [rounds_succ]
    go_wp2
    go_ret
    exact ⟨rfl, Below.refl _ _⟩
  · have hs1 : 1 ≤ s := by omega
    clear hs
    go_enter Try.func19, Try.ntmps19
    go_wp2
    go_loopw [3] (fun i wr => ∃ k : Nat, k ≤ 8 ∧ i = .int .i64 k ∧ (k = 0 ∨ csz ((k : Int) - 1) < s) ∧ Below w.heap.size w wr) (fun i _ => 8 - (intOf i).toNat)
    case atStart => exact ⟨0, by omega, rfl, .inl rfl, Below.refl _ _⟩
    case round =>
      obtain ⟨k, hk, rfl, hp, hb⟩ := hrel
      have HP := Lib.hid hp
      clear hp
      by_cases h7 : k ≤ 7
      · by_cases hc : s ≤ csz k
        · have HR := Lib.hid (cfor_hit hs1 h7 hc HP.out)
          go_wp2_with fail
          refine (sClassSize _ _).mono ?_
          rintro e w2 ⟨rfl, hb2⟩
          go_wp2
          go_ret
          exact ⟨by rw [HR.out]; rfl, hb.trans (hb2.mono hb.size)⟩
        · have hc' : csz k < s := by omega
          have HR := Lib.hid (show k + 1 = 0 ∨ csz (((k + 1 : Nat) : Int) - 1) < s from .inr (by rw [show (((k + 1 : Nat) : Int) - 1) = k by omega]; exact hc'))
          clear hc
          go_wp2_with fail
          refine (sClassSize _ _).mono ?_
          rintro e w2 ⟨rfl, hb2⟩
          go_wp2
          go_roundw
          case rel => exact ⟨k + 1, by omega, by go_num, HR.out, hb.trans (hb2.mono hb.size)⟩
          case measure => simp [intOf]; omega
      · have HR := Lib.hid (cfor_none (s := s) (by
          rcases HP.out with h | h
          · omega
          · rw [show (k : Int) - 1 = 7 by omega] at h; exact h))
        have hk8 : ¬ (k : Int) ≤ 7 := by omega
        go_wp2
        go_ret
        exact ⟨by rw [HR.out]; rfl, hb⟩

/-- What a request wastes. -/
def waste (s : Int) : Int := if cfor s < 0 then -1 else csz (cfor s) - s

theorem cfor_bd (s : Int) : (cfor s = -1 ∧ (s < 1 ∨ 16 < s)) ∨ (0 ≤ cfor s ∧ cfor s ≤ 7 ∧ 1 ≤ s ∧ s ≤ 16 ∧ s ≤ csz (cfor s) ∧ csz (cfor s) ≤ 16 ∧ csz (cfor s) < 2 * s + 1 - 1 + 1 ∧ 2 * (csz (cfor s) - s) < csz (cfor s) ∧ (cfor s = 0 ∨ csz (cfor s - 1) < s) ∧ cfor (csz (cfor s)) = cfor s) := by
  by_cases h : s < 1 ∨ 16 < s
  · left
    refine ⟨?_, h⟩
    unfold cfor; (repeat' split) <;> omega
  · right
    have hc : s = 1 ∨ s = 2 ∨ s = 3 ∨ s = 4 ∨ s = 5 ∨ s = 6 ∨ s = 7 ∨ s = 8 ∨ s = 9 ∨ s = 10 ∨ s = 11 ∨ s = 12 ∨ s = 13 ∨ s = 14 ∨ s = 15 ∨ s = 16 := by omega
    rcases hc with rfl | rfl | rfl | rfl | rfl | rfl | rfl | rfl | rfl | rfl | rfl | rfl | rfl | rfl | rfl | rfl <;> decide

theorem iSlabWaste (s : Int) (w : World) : Calls Try.prog 25 #[.int .i64 s] w fun e w' => e = .returned (.int .i64 (waste s)) ∧ Below w.heap.size w w' := by
  have C1 := Lib.hid (iClassFor s w)
  have C2 := Lib.hid (fun w => iClassSize (cfor s) w)
  have HW := Lib.hid (show waste s = if cfor s < 0 then -1 else csz (cfor s) - s from rfl)
  rcases cfor_bd s with ⟨h, _⟩ | ⟨h0, h1, h2, h3, h4, h5, _⟩
  · have hn : cfor s < 0 := by omega
    have HR := Lib.hid (show waste s = -1 by rw [HW.out, if_pos hn])
    clear h HW
    go_enter Try.func25, Try.ntmps25
    go_wp2_with fail
    refine C1.out.mono ?_
    rintro e w2 ⟨rfl, hb2⟩
    go_wp2
    go_ret
    exact ⟨by rw [HR.out]; rfl, hb2⟩
  · have HR := Lib.hid (show waste s = csz (cfor s) - s by rw [HW.out, if_neg (by omega)])
    clear HW
    go_enter Try.func25, Try.ntmps25
    go_wp2_with fail
    refine C1.out.mono ?_
    rintro e w2 ⟨rfl, hb2⟩
    go_wp2_with fail
    refine (C2.out w2).mono ?_
    rintro e w3 ⟨rfl, rfl⟩
    go_wp2
    go_ret
    exact ⟨by rw [HR.out]; rfl, hb2⟩

theorem sSlabWaste (s : Int) (w : World) : Calls Try.prog 24 #[.int .i64 s] w fun e w' => e = .returned (.int .i64 (waste s)) ∧ Below w.heap.size w w' := by
  have C1 := Lib.hid (sClassFor s w)
  have C2 := Lib.hid (fun w => sClassSize (cfor s) w)
  have HW := Lib.hid (show waste s = if cfor s < 0 then -1 else csz (cfor s) - s from rfl)
  rcases cfor_bd s with ⟨h, _⟩ | ⟨h0, h1, h2, h3, h4, h5, _⟩
  · have hn : cfor s < 0 := by omega
    have HR := Lib.hid (show waste s = -1 by rw [HW.out, if_pos hn])
    clear h HW
    go_enter Try.func24, Try.ntmps24
    go_wp2_with fail
    refine C1.out.mono ?_
    rintro e w2 ⟨rfl, hb2⟩
    go_wp2
    go_ret
    exact ⟨by rw [HR.out]; rfl, hb2⟩
  · have HR := Lib.hid (show waste s = csz (cfor s) - s by rw [HW.out, if_neg (by omega)])
    clear HW
    go_enter Try.func24, Try.ntmps24
    go_wp2_with fail
    refine C1.out.mono ?_
    rintro e w2 ⟨rfl, hb2⟩
    go_wp2_with fail
    refine (C2.out w2).mono ?_
    rintro e w3 ⟨rfl, hb3⟩
    go_wp2
    go_ret
    exact ⟨by rw [HR.out]; rfl, hb2.trans (hb3.mono hb2.size)⟩

theorem FnExactClassFor_walk {s : Int} (_h : (Lit.int .i64 s).wf = true) {w : World} : Calls Try.prog 6 #[.int .i64 s] w fun e w' => e = .returned (.bool true) ∧ Below w.heap.size w w' := by
  go_enter Try.func6, Try.ntmps6
  go_wp2_with fail
  refine (sClassFor _ _).mono ?_
  rintro e w1 ⟨rfl, hb⟩
  go_wp2_with fail
  refine (iClassFor _ _).mono ?_
  rintro e w2 ⟨rfl, hb2⟩
  go_wp2
  go_ret
  exact ⟨rfl, hb.trans (hb2.mono hb.size)⟩

theorem FnExactSlabWaste_walk {s : Int} (_h : (Lit.int .i64 s).wf = true) {w : World} : Calls Try.prog 8 #[.int .i64 s] w fun e w' => e = .returned (.bool true) ∧ Below w.heap.size w w' := by
  go_enter Try.func8, Try.ntmps8
  go_wp2_with fail
  refine (sSlabWaste _ _).mono ?_
  rintro e w1 ⟨rfl, hb⟩
  go_wp2_with fail
  refine (iSlabWaste _ _).mono ?_
  rintro e w2 ⟨rfl, hb2⟩
  go_wp2
  go_ret
  exact ⟨rfl, hb.trans (hb2.mono hb.size)⟩

end Go.Proofs.Ytgbeannjoajenaa.Wk
