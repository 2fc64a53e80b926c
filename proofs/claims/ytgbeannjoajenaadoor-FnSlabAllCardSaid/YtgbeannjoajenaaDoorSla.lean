/- The law SlabAll: its walk. Conditions: the library's table holds what its text lays. -/
import Derived.Test.YtgbeannjoajenaaDoorSlw
namespace Go.Proofs.YtgbeannjoajenaaDoor.Wk
open Go.RowKit

/-- The free places among the first k. -/
def cz (u : Int) : Nat → Nat
  | 0 => 0
  | k + 1 => cz u k + (if u / 2 ^ k % 2 = 0 then 1 else 0)

theorem cz_tab : ∀ m : Fin 256, ∀ p : Fin 8, ((m.val : Int) / 2 ^ p.val % 2 = 0 ∧ ∀ q : Fin 8, q.val < p.val → (m.val : Int) / 2 ^ q.val % 2 = 1) → cz ((m.val : Int) + 2 ^ p.val) 8 + 1 = cz (m.val : Int) 8 := by decide +kernel
theorem cz_take {u : Int} (h0 : 0 ≤ u) (h1 : u ≤ 255) {p : Nat} (h : Low u p) : cz (u + 2 ^ p) 8 + 1 = cz u 8 := by
  obtain ⟨m, rfl⟩ := Int.eq_ofNat_of_zero_le h0
  exact cz_tab ⟨m, by omega⟩ ⟨p, h.lt⟩ ⟨h.free, fun q hq => h.least q.val hq⟩
theorem cz_full : cz 255 8 = 0 := by decide +kernel
theorem cz_zero_tab : ∀ m : Fin 256, cz (m.val : Int) 8 = 0 → m.val = 255 := by decide +kernel
theorem cz_zero {u : Int} (h0 : 0 ≤ u) (h1 : u ≤ 255) (h : cz u 8 = 0) : u = 255 := by
  obtain ⟨m, rfl⟩ := Int.eq_ofNat_of_zero_le h0
  have := cz_zero_tab ⟨m, by omega⟩ h
  simp only at this
  omega
theorem cz_le (u : Int) (k : Nat) : cz u k ≤ k := by
  induction k with
  | zero => exact Nat.le_refl _
  | succ k ih => simp only [cz]; split <;> omega

set_option maxHeartbeats 4000000 in
theorem FnSlabAll_walk {a : Option Addr} {len cap : Nat} {z : List Int} {w : World} (h : IsRow .u8 w a len cap z) (hT : Tab w) : Calls Tryd.prog 4 #[.slice a len cap] w fun e w' => e = .returned (.bool true) ∧ Below w.heap.size w w' := by
  have hm := row_len' h
  have HD := Lib.hid (dDrawSlabTake h)
  have HT := Lib.hid hT
  clear h hT
  by_cases hl : len ≤ 1048576
  · go_enter Tryd.func4, Tryd.ntmps4
    go_wp2_with fail
    refine HD.out.mono ?_
    rintro e w1 ⟨c, u, rfl, c1, c2, c3, c4, b1⟩
    have B1 := b1.alloc b1.size (.cells #[.int .i64 c, .int .i64 u] 24)
    have T1 := Lib.hid (HT.out.below B1 HT.out.1)
    obtain ⟨c', u', p', b, hk⟩ := tks_any c u
    have HTk := Lib.hid hk
    clear hk
    go_wp2_with fail
    refine (HTk.out.1 _ T1.out).mono ?_
    rintro e w2 ⟨rfl, b2⟩
    have q2 := bcell b2
    have B2 := B1.trans (b2.mono (by have := b1.size; simp; omega))
    have z2 : w1.heap.size < w2.heap.size := by have := b2.size; simp at this; omega
    go_wp2_with fail
    refine (HTk.out.2 _).mono ?_
    rintro e w3 ⟨rfl, b3⟩
    have q3 := bcell b3
    have B3 := (B2.alloc B2.size (.cells #[.int .i64 c', .int .i64 u'] 24)).trans (b3.mono (by have := B2.size; simp; omega))
    have z3 : w2.heap.size < w3.heap.size := by have := b3.size; simp at this; omega
    have z3' : w1.heap.size < w3.heap.size := by omega
    have X3 := ((((Bk.new w1 #[.int .i64 c, .int .i64 u] 24).below b2 (by simp)).alloc (.cells #[.int .i64 c', .int .i64 u'] 24)).below b3 (by simp; omega)).alloc (.cells #[.int .i64 c', .int .i64 u'] 24)
    have B4 := B3.alloc B3.size (.cells #[.int .i64 c', .int .i64 u'] 24)
    by_cases hv : SV c u
    · have HV := Lib.hid hv
      clear hv
      go_wp2_with fail
      refine (sSlabValid_yes c u _ HV.out).mono ?_
      rintro e w5 ⟨rfl, b5⟩
      have X5 := X3.below b5 (by simp; omega)
      have B5 := B4.trans (b5.mono B4.size)
      have hg : w1.heap.size < w5.heap.size := X5.lt
      have d0 : w5.cell? ⟨w1.heap.size, 0, none⟩ = some (.int .i64 c) := X5.cell 0
      have d1 : w5.cell? ⟨w1.heap.size, 1, none⟩ = some (.int .i64 u) := X5.cell 1
      have hB1 : w.heap.size ≤ w1.heap.size := b1.size
      have XX := Lib.hid X5
      have BB := Lib.hid B5
      obtain ⟨g1, g2, g3, g4⟩ := HV.out
      clear b1 b2 b3 b5 q2 q3 z2 z3 z3' X3 X5 B1 B2 B3 B4 B5 T1 HTk
      go_wp2
      go_loop [10, 11] (fun v i => ∃ k : Nat, k ≤ 8 ∧ i = .int .i64 k ∧ v = .int .i64 (cz u k)) (fun _ i => 8 - (intOf i).toNat)
      case atStart => exact ⟨0, Nat.zero_le _, rfl, rfl⟩
      case round =>
        obtain ⟨k, hk, rfl, rfl⟩ := hrel
        have hzk := cz_le u k
        have ht := tmod_two g3 k
        by_cases e : k < 8
        · by_cases hf : u / 2 ^ k % 2 = 0
          · have HC : RowKit.Hid (cz u (k + 1) = cz u k + 1) := Lib.hid (by simp only [cz]; rw [if_pos hf])
            have q9 : (u / 2 ^ k % 2 == 0) = true := by rw [beq_iff_eq]; exact hf
            clear hf
            generalize cz u k = F at hzk HC
            go_wp2
            go_round
            case rel => exact ⟨k + 1, by omega, by go_num, by rw [HC.out]; go_num⟩
            case measure => simp [intOf]; omega
          · have HC : RowKit.Hid (cz u (k + 1) = cz u k) := Lib.hid (by simp only [cz]; rw [if_neg hf]; rfl)
            have q9 : (u / 2 ^ k % 2 == 0) = false := by rw [beq_eq_false_iff_ne]; exact hf
            clear hf
            generalize cz u k = F at hzk HC
            go_wp2
            go_round
            case rel => exact ⟨k + 1, by omega, by go_num, by rw [HC.out]⟩
            case measure => simp [intOf]; omega
        · obtain rfl : k = 8 := by omega
          have HF := Lib.hid (rfl : cz u 8 = cz u 8)
          obtain ⟨F, hF⟩ : ∃ F, cz u 8 = F := ⟨_, rfl⟩
          rw [hF] at hzk HF
          rw [hF]
          have HFF := Lib.hid hF
          clear hF HF ht
          go_wp2
          go_loopw [12, 13, 14, 15] (fun i _ _ _ wr => ∃ (k : Nat) (v : Int), k ≤ F ∧ i = .int .i64 k ∧ SV c v ∧ cz v 8 + k = F ∧ Bk wr w1.heap.size #[.int .i64 c, .int .i64 v] 24 ∧ Below w.heap.size w wr) (fun i _ _ _ _ => F - (intOf i).toNat)
          case atStart => exact ⟨0, u, Nat.zero_le _, rfl, HV.out, by rw [HFF.out]; rfl, XX.out, BB.out⟩
          case round =>
            obtain ⟨k, v, hk, rfl, hsv, hcz, hB, hbl⟩ := hrel
            have T5 := Lib.hid (HT.out.below hbl HT.out.1)
            have e0 : wr.cell? ⟨w1.heap.size, 0, none⟩ = some (.int .i64 c) := hB.cell 0
            have e1 : wr.cell? ⟨w1.heap.size, 1, none⟩ = some (.int .i64 v) := hB.cell 1
            have hlt : w1.heap.size < wr.heap.size := hB.lt
            obtain ⟨y1, y2, y3, y4⟩ := hsv
            by_cases hkF : k < F
            · have hne : v ≠ 255 := by rintro rfl; rw [cz_full] at hcz; omega
              obtain ⟨p, hp⟩ : ∃ p, Low v p := by
                rcases low_any y3 y4 with ⟨e, _⟩ | ⟨p, hp, _⟩
                · exact absurd e hne
                · exact ⟨p, hp⟩
              have HTk := Lib.hid (tks_yes ⟨y1, y2, y3, y4⟩ hp)
              have HC := Lib.hid (cz_take y3 y4 hp)
              have hm1 := (low_more y3 y4 hp).1
              obtain ⟨_, _, n1, n2⟩ := wrap_p hp.lt
              obtain ⟨N, hN⟩ : ∃ N : Int, 2 ^ p = N := ⟨_, rfl⟩
              rw [hN] at HTk HC hm1 n1 n2
              clear hp hN hne
              go_wp2_with fail
              refine (HTk.out.1 _ T5.out).mono ?_
              rintro e w6 ⟨rfl, b6⟩
              have Y6 := hB.below b6 hlt
              have B6 := hbl.trans (b6.mono hbl.size)
              have z6 : w1.heap.size < w6.heap.size := Nat.lt_of_lt_of_le hlt b6.size
              have f0 := Y6.free 0
              have f1 := Y6.free 1
              have l0 := Y6.cell 0
              have l1 := Y6.cell 1
              have YY := Lib.hid (((Y6.set_ 0 (.int .i64 c)).set_ 1 (.int .i64 (v + N))).alloc (.cells #[.int .i64 c, .int .i64 (v + N)] 24))
              have B7 := ((B6.setCell (p := ⟨w1.heap.size, 0, none⟩) hB1 (.int .i64 c)).setCell (p := ⟨w1.heap.size, 1, none⟩) hB1 (.int .i64 (v + N))).alloc (by have := B6.size; simp [World.setCell]; omega) (.cells #[.int .i64 c, .int .i64 (v + N)] 24)
              clear hB e0 e1
              go_wp2
              go_roundw
              case rel => exact ⟨k + 1, v + N, by omega, by go_num, ⟨y1, y2, by omega, hm1⟩, by have := HC.out; omega, YY.out, B7⟩
              case measure => simp [intOf]; omega
            · have hv0 : v = 255 := cz_zero y3 y4 (by omega)
              subst hv0
              have HTk := Lib.hid (tks_full ⟨y1, y2, y3, y4⟩)
              go_wp2_with fail
              refine (HTk.out.1 _ T5.out).mono ?_
              rintro e w6 ⟨rfl, b6⟩
              have Y6 := (hB.below b6 hlt).alloc (.cells #[.int .i64 c, .int .i64 255] 24)
              have B6 := (hbl.trans (b6.mono hbl.size)).alloc (Nat.le_trans hbl.size b6.size) (.cells #[.int .i64 c, .int .i64 255] 24)
              have z6 : w1.heap.size < w6.heap.size := Nat.lt_of_lt_of_le hlt b6.size
              have l1 := Y6.cell 1
              clear hB e0 e1
              go_wp2
              go_ret
              exact ⟨rfl, B6⟩
    · have HV := Lib.hid hv
      clear hv
      go_wp2_with fail
      refine (sSlabValid_no c u _ HV.out).mono ?_
      rintro e w5 ⟨rfl, b5⟩
      have B5 := B4.trans (b5.mono B4.size)
      clear B1 B2 B3 B4 X3 q2 q3
      go_wp2_with fail
      refine (alive_any _).mono ?_
      rintro e w6 ⟨rfl, b6⟩
      go_wp2
      go_ret
      exact ⟨rfl, B5.trans (b6.mono B5.size)⟩
  · go_enter Tryd.func4, Tryd.ntmps4
    go_wp2
    go_ret
    exact ⟨rfl, Below.refl _ _⟩

end Go.Proofs.YtgbeannjoajenaaDoor.Wk
