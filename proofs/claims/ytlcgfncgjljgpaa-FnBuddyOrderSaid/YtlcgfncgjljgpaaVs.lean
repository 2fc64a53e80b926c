/- BuddiesValid of the reference. Conditions: a list that a slice of buddies reads as. -/
import Derived.Test.YtlcgfncgjljgpaaVu
import Derived.Test.YtlcgfncgjljgpaaMt
import Derived.Deep.QuietTactic
import Derived.Deep.RegionHeld3
namespace Go.Proofs.Ytlcgfncgjljgpaa.Wu
open Go.RowKit Go.Proofs.Ytlcgfncgjljgpaa.Pl Go.Proofs.Ytlcgfncgjljgpaa.Wk

theorem in_yes (n lo hi : Int) (w : World) (h : lo ≤ n ∧ n ≤ hi) : Calls Try.prog 37 #[.int .i64 n, .int .i64 lo, .int .i64 hi] w fun e w' => e = .returned (.bool true) ∧ w = w' := by
  refine (l1In_any n lo hi w).mono ?_
  rintro e w' ⟨rfl, rfl⟩
  exact ⟨by simp [h], rfl⟩
theorem in_no (n lo hi : Int) (w : World) (h : n < lo ∨ hi < n) : Calls Try.prog 37 #[.int .i64 n, .int .i64 lo, .int .i64 hi] w fun e w' => e = .returned (.bool false) ∧ w = w' := by
  refine (l1In_any n lo hi w).mono ?_
  rintro e w' ⟨rfl, rfl⟩
  exact ⟨by have : ¬ (lo ≤ n ∧ n ≤ hi) := by omega
            simp [this], rfl⟩

theorem inq_yes (n lo hi : Int) (w : World) (h : lo ≤ n ∧ n ≤ hi) : Calls Try.prog 37 #[.int .i64 n, .int .i64 lo, .int .i64 hi] w fun e w' => e = .returned (.bool true) ∧ w' = w := by
  refine (l1In_any n lo hi w).mono ?_
  rintro e w' ⟨rfl, rfl⟩
  exact ⟨by simp [h], rfl⟩
theorem inq_no (n lo hi : Int) (w : World) (h : n < lo ∨ hi < n) : Calls Try.prog 37 #[.int .i64 n, .int .i64 lo, .int .i64 hi] w fun e w' => e = .returned (.bool false) ∧ w' = w := by
  refine (l1In_any n lo hi w).mono ?_
  rintro e w' ⟨rfl, rfl⟩
  exact ⟨by have : ¬ (lo ≤ n ∧ n ≤ hi) := by omega
            simp [this], rfl⟩

/-- The cells that the check of two neighbours reads. -/
def HeldV (W : World) (g b o : Nat) (S : Int) (Z : Nat) (S' Z' : Int) (u' : Bool) (w' : World) : Prop :=
  w'.cell? ⟨g, 0, none⟩ = some (.int .i64 S) ∧ w'.cell? ⟨g, 1, none⟩ = some (.int .i64 Z) ∧ w'.cell? ⟨g, 2, none⟩ = some (.bool false) ∧ w'.cell? ⟨b, o, none⟩ = some (.int .i64 S') ∧ w'.cell? ⟨b, o + 1, none⟩ = some (.int .i64 Z') ∧ w'.cell? ⟨b, o + 2, none⟩ = some (.bool u') ∧ Below W.heap.size W w'

theorem sum_bd {S N : Int} {k : Nat} (h0 : 0 ≤ S) (h1 : S ≤ 256 * (k : Int)) (h2 : 1 ≤ N) (h3 : N ≤ 256) : 0 ≤ S + N ∧ S + N ≤ 256 * ((k + 1 : Nat) : Int) := by omega

/-- The neighbour before is the other half. -/
theorem mate_iff {S' S Z' : Int} {Z : Nat} (h : S = S' + pw Z') (hz : Z' = Z) (ha : Al S Z) : S' = mateU ⟨S, Z, false⟩ ↔ Al S' (Z' + 1) := by
  subst hz
  have hp := pw_pos (Z : Int)
  have e : mateU ⟨S, Z, false⟩ = if S % pw ((Z : Int) + 1) = 0 then S + pw Z else S - pw Z := rfl
  rw [e]
  have e2 : S - pw (Z : Int) = S' := by omega
  rcases Al_half (by omega) ha with ⟨h1, _, h3⟩ | ⟨h1, _, h3⟩
  · rw [if_pos (show S % pw ((Z : Int) + 1) = 0 from h1), ← e2]
    constructor
    · intro hh; omega
    · intro hh; exact absurd hh h3
  · rw [if_neg (show ¬ S % pw ((Z : Int) + 1) = 0 from h1), e2]
    constructor
    · intro _; rw [← e2]; exact h3
    · intro _; rfl

set_option maxHeartbeats 8000000 in
theorem sVU_any (A : Option Addr) (n c : Nat) (l : List Blk) (p : Int) (r : Bool) (w : World) (h : Lst w w.heap.size A n l) (hnm : n ≤ 1125899906842624) (hr : r = true ↔ VU l p) :
    Calls Try.prog 18 #[.slice A n c, .int .i64 p] w fun e w' => e = .returned (.bool r) ∧ Below w.heap.size w w' := by
  have HN := Lib.hid h.len
  have HV := Lib.hid hr
  clear hr
  by_cases hp : 0 ≤ p ∧ p ≤ 8
  · obtain ⟨hp0, hp8⟩ := hp
    obtain ⟨P, rfl⟩ := Int.eq_ofNat_of_zero_le hp0
    have hP := wrap_pw (k := P) (by omega)
    have hQ := Lib.hid (pw_bd hp0 hp8)
    have hP8 : (0 : Int) ≤ (P : Int) ∧ (P : Int) ≤ 8 := ⟨hp0, hp8⟩
    go_enter Try.func18, Try.ntmps18
    go_wp2_with (with_reducible refine (in_yes _ _ _ _ hP8).mono ?_; rintro e w' ⟨rfl, rfl⟩)
    go_loopw [5, 6] (fun v i wr => ∃ (k : Nat) (e : Int), k ≤ n ∧ i = .int .i64 k ∧ v = .int .i64 e ∧ PreU l P e k ∧ 0 ≤ e ∧ e ≤ 256 * k ∧ Below w.heap.size w wr) (fun _ i _ => n - (intOf i).toNat)
    case atStart => exact ⟨0, 0, Nat.zero_le _, rfl, rfl, PreU_zero l P, by omega, by omega, Below.refl _ _⟩
    case round =>
      obtain ⟨k, e, hk, rfl, rfl, hok, he0, he1, hb⟩ := hrel
      have hsz := hb.size
      have he2 : e ≤ 1152921504606846976 := by omega
      by_cases hlt : k < n
      · have hL := h.below hb (Nat.le_refl _)
        obtain ⟨b, off, rfl, hbb, c0, c1, c2⟩ := hL.cells k hlt
        have hbw : b < wr.heap.size := by omega
        have hkl : k < l.length := by have := HN.out; omega
        have hbn := hb
        have HO := Lib.hid (fun hf => PreU_step hok hkl hf)
        have HF : RowKit.Hid (¬ FitsU l P e k → r = false) := Lib.hid (fun hf => by
          cases r
          · rfl
          · exact absurd (VU_at (HV.out.1 rfl) hok hkl).1 hf)
        have HK := Lib.hid hok
        clear hok
        obtain ⟨S, Zi, u, hbk⟩ : ∃ S Zi u, bk l k = ⟨S, Zi, u⟩ := ⟨_, _, _, rfl⟩
        rw [hbk] at c0 c1 c2
        rw [hbk] at HO
        have HBK := Lib.hid hbk
        clear hbk
        by_cases f3 : S = e
        · by_cases f2 : Zi < 0 ∨ (P : Int) < Zi
          · have fz := f2
            have HR := Lib.hid (HF.out (fun hf => by have h1 := hf.2.1; have h2 := hf.2.2.1; rw [HBK.out] at h1 h2; simp only at h1 h2; omega))
            subst f3
            have d3 : (S != S) = false := by simp
            clear f2
            clear hL
            go_wp2
            go_quiet ((go_at_call 37; exact Calls.quiet_of_same (inq_no _ _ _ _ fz)))
            go_wp2
            go_ret
            have b1 := hbn.alloc hsz (.cells #[.int .i64 S, .int .i64 Zi, .bool u] 44)
            exact ⟨by rw [HR.out]; rfl, ⟨b1.os, b1.tape, b1.output, b1.size, b1.block⟩⟩
          · have fz : 0 ≤ Zi ∧ Zi ≤ (P : Int) := by omega
            have f2 : ¬ (P : Int) < Zi := by omega
            subst f3
            obtain ⟨Z, rfl⟩ := Int.eq_ofNat_of_zero_le (show 0 ≤ Zi by omega)
            have d2' : decide (P < Z) = false := by rw [decide_eq_false_iff_not]; omega
            have w1 := wrap_one (k := Z) (by omega)
            have w2 := wrap_pw (k := Z) (by omega)
            have HP2 := Lib.hid hP
            have p1 := pw_pos (Z : Int)
            have p3 := pw_bd (z := (Z : Int)) (by omega) (by omega)
            have HAL : RowKit.Hid (Al S Z ↔ S % pw (Z : Int) = 0) := Lib.hid Iff.rfl
            have HPW := Lib.hid (rfl : pw (Z : Int) = pw (Z : Int))
            obtain ⟨N, hNN⟩ : ∃ N, pw (Z : Int) = N := ⟨_, rfl⟩
            rw [hNN] at w1 w2 p1 p3
            have HNN := Lib.hid hNN
            clear hNN hP HPW
            have hN0 : N ≠ 0 := fun h0 => by rw [h0] at p1; exact absurd p1 (by decide)
            have d3 : (S != S) = false := by simp
            have ht : S.tmod N = S % N := Int.tmod_eq_emod_of_nonneg he0
            by_cases f4 : S % N = 0
            · have q4 : (S % N != 0) = false := by rw [f4]; rfl
              have HA4 := Lib.hid (HAL.out.2 (by rw [HNN.out]; exact f4))
              clear f4
              have w3 := wrap_sum he0 he2 p1 p3
              rcases Nat.eq_zero_or_pos k with hk0 | hk0
              · have hk1 : decide (0 < k) = false := by rw [decide_eq_false_iff_not]; omega
                have hk2 : ¬ (0 : Int) < (k : Int) := by omega
                have HR : RowKit.Hid (PreU l P (S + N) (k + 1)) := Lib.hid (by rw [← HNN.out]; exact HO.out ⟨by rw [HBK.out], by rw [HBK.out]; exact Int.natCast_nonneg _, by rw [HBK.out]; exact Int.not_lt.1 f2, by rw [HBK.out]; exact HA4.out, .inl hk0⟩)
                clear hL hk0
                go_wp2
                go_quiet ((go_at_call 37; exact Calls.quiet_of_same (inq_yes _ _ _ _ fz)))
                go_wp2
                go_quiet (fail)
                go_wp2
                go_roundw
                case rel =>
                  have b1 := hbn.alloc hsz (.cells #[.int .i64 S, .int .i64 Z, .bool u] 44)
                  exact ⟨k + 1, S + N, by omega, by go_num, rfl, HR.out, (sum_bd he0 he1 p1 p3).1, (sum_bd he0 he1 p1 p3).2, ⟨b1.os, b1.tape, b1.output, b1.size, b1.block⟩⟩
                case measure => simp [intOf]; omega
              · obtain ⟨K, rfl⟩ : ∃ K, k = K + 1 := ⟨k - 1, by omega⟩
                have hKl : K < l.length := by omega
                obtain ⟨e1, e2, e3, e4⟩ := PreU_last HK.out hKl
                obtain ⟨b', off', e', _, dd0, dd1, dd2⟩ := hL.cells K (by omega)
                simp only [Option.some.injEq, Addr.mk.injEq, and_true] at e'
                obtain ⟨rfl, rfl⟩ := e'
                obtain ⟨S', Z', u', hbk'⟩ : ∃ S' Z' u', bk l K = ⟨S', Z', u'⟩ := ⟨_, _, _, rfl⟩
                rw [hbk'] at dd0 dd1 dd2 e1 e2 e3 e4
                simp only at dd0 dd1 dd2 e1 e2 e3 e4
                have HBK' := Lib.hid hbk'
                have HE2 := Lib.hid e2
                have e5 := pw_pos Z'
                have e6 : S' ≤ 1152921504606846976 := by omega
                have HGO : RowKit.Hid ((u = true ∨ u' = true ∨ ¬ (Z' = Z ∧ Al S' (Z' + 1))) → PreU l P (S + N) (K + 1 + 1)) := Lib.hid (fun hh => by
                  rw [← HNN.out]
                  refine HO.out ⟨by rw [HBK.out], by rw [HBK.out]; exact Int.natCast_nonneg _, by rw [HBK.out]; exact Int.not_lt.1 f2, by rw [HBK.out]; exact HA4.out, .inr ?_⟩
                  rw [show K + 1 - 1 = K by omega, HBK.out, HBK'.out]
                  rintro ⟨j1, j2, j3, j4⟩
                  simp only at j1 j2 j3 j4
                  rcases hh with h | h | h
                  · rw [h] at j2; cases j2
                  · rw [h] at j1; cases j1
                  · exact h ⟨j3, j4⟩)
                have HST : RowKit.Hid (u = false → u' = false → (Z' = Z ∧ Al S' (Z' + 1)) → r = false) := Lib.hid (fun h1 h2 h3 => HF.out (fun hf => by
                  have := hf.2.2.2.2.resolve_left (by omega)
                  rw [show K + 1 - 1 = K by omega, HBK.out, HBK'.out] at this
                  exact this ⟨h2, h1, h3.1, h3.2⟩))
                clear hbk' hL e2
                have hk1 : decide ((0 : Int) < (K : Int) + 1) = true := by rw [decide_eq_true_iff]; omega
                have hi1 : (0 : Int) ≤ (K : Int) := by omega
                have hi2 : (K : Int) < (n : Int) := by omega
                have hw5 : IntKind.i64.wrap ((K : Int) + 1 - 1) = (K : Int) := by rw [Int.add_sub_cancel]; exact IntWalk.i64_in _ (by omega)
                have hw6 : IntKind.i64.wrap (K : Int) = (K : Int) := IntWalk.i64_in _ (by omega)
                cases u
                · have HMT := Lib.hid (fun w => mate_any S Z false w he0 he2 (by omega) HA4.out)
                  have HMI := Lib.hid (fun hz => mate_iff (S' := S') (Z' := Z') HE2.out hz HA4.out)
                  obtain ⟨M0, hM0⟩ : ∃ M0, mateU ⟨S, Z, false⟩ = M0 := ⟨_, rfl⟩
                  rw [hM0] at HMT HMI
                  clear hM0
                  by_cases hj : u' = false ∧ Z' = (Z : Int) ∧ Al S' (Z' + 1)
                  · obtain ⟨rfl, hj2⟩ := hj
                    have HR := Lib.hid (HST.out rfl rfl hj2)
                    obtain rfl := (HMI.out hj2.1).2 hj2.2
                    obtain rfl := hj2.1
                    clear hj2
                    go_wp2
                    go_quiet ((go_at_call 37; exact Calls.quiet_of_same (inq_yes _ _ _ _ fz)))
                    go_wp2
                    have b1 := hbn.alloc hsz (.cells #[.int .i64 S, .int .i64 Z, .bool false] 44)
                    obtain ⟨W, hW⟩ : ∃ W, (wr.alloc (.cells #[.int .i64 S, .int .i64 Z, .bool false] 44)).drewN nq = W := ⟨_, rfl⟩
                    have g0 : W.cell? ⟨wr.heap.size, 0, none⟩ = some (.int .i64 S) := by rw [← hW]; exact (Bk.new wr _ _).cell 0
                    have g1 : W.cell? ⟨wr.heap.size, 1, none⟩ = some (.int .i64 Z) := by rw [← hW]; exact (Bk.new wr _ _).cell 1
                    have g2 : W.cell? ⟨wr.heap.size, 2, none⟩ = some (.bool false) := by rw [← hW]; exact (Bk.new wr _ _).cell 2
                    have bW : Below wr.heap.size wr W := by rw [← hW]; have b2 := (Below.refl wr.heap.size wr).alloc (Nat.le_refl _) (.cells #[.int .i64 S, .int .i64 Z, .bool false] 44); exact ⟨b2.os, b2.tape, b2.output, b2.size, b2.block⟩
                    have bV : Below w.heap.size w W := by rw [← hW]; exact ⟨b1.os, b1.tape, b1.output, b1.size, b1.block⟩
                    have hsW : wr.heap.size < W.heap.size := by rw [← hW]; show wr.heap.size < (wr.alloc _).heap.size; simp
                    have k0 : W.cell? ⟨b, off + K * 3, none⟩ = some (.int .i64 S') := (bW.cell (p := ⟨b, off + K * 3, none⟩) hbw).trans dd0
                    have k1 : W.cell? ⟨b, off + K * 3 + 1, none⟩ = some (.int .i64 Z) := (bW.cell (p := ⟨b, off + K * 3 + 1, none⟩) hbw).trans dd1
                    have k2 : W.cell? ⟨b, off + K * 3 + 2, none⟩ = some (.bool false) := (bW.cell (p := ⟨b, off + K * 3 + 2, none⟩) hbw).trans dd2
                    have hbW : b < W.heap.size := by omega
                    rw [hW]
                    clear hW b1
                    have HK := Lib.hid (fun (w' : World) (hb : Below W.heap.size W w') => (⟨(hb.cell (p := ⟨wr.heap.size, 0, none⟩) hsW).trans g0, (hb.cell (p := ⟨wr.heap.size, 1, none⟩) hsW).trans g1, (hb.cell (p := ⟨wr.heap.size, 2, none⟩) hsW).trans g2, (hb.cell (p := ⟨b, off + K * 3, none⟩) hbW).trans k0, (hb.cell (p := ⟨b, off + K * 3 + 1, none⟩) hbW).trans k1, (hb.cell (p := ⟨b, off + K * 3 + 2, none⟩) hbW).trans k2, hb⟩ : HeldV W wr.heap.size b (off + K * 3) S Z S' Z false w'))
                    have HC := Lib.hid (fun (w' : World) (hb : Below W.heap.size W w') => (HMT.out w').mono (fun e w'' he => (⟨he.1, hb.trans (he.2.mono hb.size)⟩ : e = .returned (.int .i64 S') ∧ Below W.heap.size W w'')))
                    have hsW2 := Lib.hid hsW
                    clear g0 g1 g2 k0 k1 k2
                    unfold HeldV at HK
                    go_region_held3 (fun w' => w'.cell? ⟨wr.heap.size, 0, none⟩ = some (.int .i64 S) ∧ w'.cell? ⟨wr.heap.size, 1, none⟩ = some (.int .i64 Z) ∧ w'.cell? ⟨wr.heap.size, 2, none⟩ = some (.bool false) ∧ w'.cell? ⟨b, off + K * 3, none⟩ = some (.int .i64 S') ∧ w'.cell? ⟨b, off + K * 3 + 1, none⟩ = some (.int .i64 Z) ∧ w'.cell? ⟨b, off + K * 3 + 2, none⟩ = some (.bool false) ∧ Below W.heap.size W w')
                      (first
                        | exact HK.out _ (Below.refl _ _).drew
                        | exact HK.out _ b5)
                      ((go_at_call 40; refine (HC.out _ (‹_ ∧ _ ∧ _ ∧ _ ∧ _ ∧ _ ∧ Below W.heap.size W _›.2.2.2.2.2.2)).mono ?_; rintro e w5 ⟨rfl, b5⟩))
                    all_goals
                      have b2 : Below w.heap.size w w5 := bV.trans (b5.mono bV.size)
                      go_wp2
                      go_ret
                      exact ⟨by rw [HR.out]; rfl, b2⟩
                  · have HR := Lib.hid (HGO.out (by
                      cases u'
                      · exact .inr (.inr (fun hh => hj ⟨rfl, hh⟩))
                      · exact .inr (.inl rfl)))
                    have hne : S' ≠ M0 ∨ Z' ≠ (Z : Int) ∨ u' = true := by
                      by_cases c1 : S' = M0
                      · by_cases c2 : Z' = (Z : Int)
                        · cases u'
                          · exact absurd ⟨rfl, c2, (HMI.out c2).1 c1⟩ hj
                          · exact .inr (.inr rfl)
                        · exact .inr (.inl c2)
                      · exact .inl c1
                    clear hj
                    rcases hne with hne | hne | hne
                    case' inl => have q9 : (S' == M0) = false := by rw [beq_eq_false_iff_ne]; exact hne
                    case' inr.inl => have q9 : (Z' == (Z : Int)) = false := by rw [beq_eq_false_iff_ne]; exact hne
                    case' inr.inr => have q9 : (u' == false) = false := by rw [hne]; rfl
                    all_goals
                      go_wp2
                      go_quiet ((go_at_call 37; exact Calls.quiet_of_same (inq_yes _ _ _ _ fz)))
                      go_wp2
                      have b1 := hbn.alloc hsz (.cells #[.int .i64 S, .int .i64 Z, .bool false] 44)
                      obtain ⟨W, hW⟩ : ∃ W, (wr.alloc (.cells #[.int .i64 S, .int .i64 Z, .bool false] 44)).drewN nq = W := ⟨_, rfl⟩
                      have g0 : W.cell? ⟨wr.heap.size, 0, none⟩ = some (.int .i64 S) := by rw [← hW]; exact (Bk.new wr _ _).cell 0
                      have g1 : W.cell? ⟨wr.heap.size, 1, none⟩ = some (.int .i64 Z) := by rw [← hW]; exact (Bk.new wr _ _).cell 1
                      have g2 : W.cell? ⟨wr.heap.size, 2, none⟩ = some (.bool false) := by rw [← hW]; exact (Bk.new wr _ _).cell 2
                      have bW : Below wr.heap.size wr W := by rw [← hW]; have b2 := (Below.refl wr.heap.size wr).alloc (Nat.le_refl _) (.cells #[.int .i64 S, .int .i64 Z, .bool false] 44); exact ⟨b2.os, b2.tape, b2.output, b2.size, b2.block⟩
                      have bV : Below w.heap.size w W := by rw [← hW]; exact ⟨b1.os, b1.tape, b1.output, b1.size, b1.block⟩
                      have hsW : wr.heap.size < W.heap.size := by rw [← hW]; show wr.heap.size < (wr.alloc _).heap.size; simp
                      have k0 : W.cell? ⟨b, off + K * 3, none⟩ = some (.int .i64 S') := (bW.cell (p := ⟨b, off + K * 3, none⟩) hbw).trans dd0
                      have k1 : W.cell? ⟨b, off + K * 3 + 1, none⟩ = some (.int .i64 Z') := (bW.cell (p := ⟨b, off + K * 3 + 1, none⟩) hbw).trans dd1
                      have k2 : W.cell? ⟨b, off + K * 3 + 2, none⟩ = some (.bool u') := (bW.cell (p := ⟨b, off + K * 3 + 2, none⟩) hbw).trans dd2
                      have hbW : b < W.heap.size := by omega
                      rw [hW]
                      clear hW b1
                      have HK := Lib.hid (fun (w' : World) (hb : Below W.heap.size W w') => (⟨(hb.cell (p := ⟨wr.heap.size, 0, none⟩) hsW).trans g0, (hb.cell (p := ⟨wr.heap.size, 1, none⟩) hsW).trans g1, (hb.cell (p := ⟨wr.heap.size, 2, none⟩) hsW).trans g2, (hb.cell (p := ⟨b, off + K * 3, none⟩) hbW).trans k0, (hb.cell (p := ⟨b, off + K * 3 + 1, none⟩) hbW).trans k1, (hb.cell (p := ⟨b, off + K * 3 + 2, none⟩) hbW).trans k2, hb⟩ : HeldV W wr.heap.size b (off + K * 3) S Z S' Z' u' w'))
                      have HC := Lib.hid (fun (w' : World) (hb : Below W.heap.size W w') => (HMT.out w').mono (fun e w'' he => (⟨he.1, hb.trans (he.2.mono hb.size)⟩ : e = .returned (.int .i64 M0) ∧ Below W.heap.size W w'')))
                      have hsW2 := Lib.hid hsW
                      clear g0 g1 g2 k0 k1 k2
                      unfold HeldV at HK
                      go_region_held3 (fun w' => w'.cell? ⟨wr.heap.size, 0, none⟩ = some (.int .i64 S) ∧ w'.cell? ⟨wr.heap.size, 1, none⟩ = some (.int .i64 Z) ∧ w'.cell? ⟨wr.heap.size, 2, none⟩ = some (.bool false) ∧ w'.cell? ⟨b, off + K * 3, none⟩ = some (.int .i64 S') ∧ w'.cell? ⟨b, off + K * 3 + 1, none⟩ = some (.int .i64 Z') ∧ w'.cell? ⟨b, off + K * 3 + 2, none⟩ = some (.bool u') ∧ Below W.heap.size W w')
                        (first
                          | exact HK.out _ (Below.refl _ _).drew
                          | exact HK.out _ b5)
                        ((go_at_call 40; refine (HC.out _ (‹_ ∧ _ ∧ _ ∧ _ ∧ _ ∧ _ ∧ Below W.heap.size W _›.2.2.2.2.2.2)).mono ?_; rintro e w5 ⟨rfl, b5⟩))
                      all_goals
                        have b2 : Below w.heap.size w w5 := bV.trans (b5.mono bV.size)
                        have h1 := (HK.out _ b5).2.1
                        go_wp2
                      all_goals
                        go_roundw
                        case rel => exact ⟨K + 1 + 1, S + N, by omega, by go_num, rfl, HR.out, (sum_bd he0 he1 p1 p3).1, (sum_bd he0 he1 p1 p3).2, b2⟩
                        case measure => simp [intOf]; omega
                · have HR := Lib.hid (HGO.out (.inl rfl))
                  go_wp2
                  go_quiet ((go_at_call 37; exact Calls.quiet_of_same (inq_yes _ _ _ _ fz)))
                  go_wp2
                  go_quiet (fail)
                  go_wp2
                  go_roundw
                  case rel =>
                    have b1 := hbn.alloc hsz (.cells #[.int .i64 S, .int .i64 Z, .bool true] 44)
                    exact ⟨K + 1 + 1, S + N, by omega, by go_num, rfl, HR.out, (sum_bd he0 he1 p1 p3).1, (sum_bd he0 he1 p1 p3).2, ⟨b1.os, b1.tape, b1.output, b1.size, b1.block⟩⟩
                  case measure => simp [intOf]; omega
            · have q4 : (S % N != 0) = true := by simpa using f4
              have HR := Lib.hid (HF.out (fun hf => by have := hf.2.2.2.1; rw [HBK.out] at this; exact f4 (by rw [← HNN.out]; exact this)))
              clear f4
              clear hL
              go_wp2
              go_quiet ((go_at_call 37; exact Calls.quiet_of_same (inq_yes _ _ _ _ fz)))
              go_wp2
              go_ret
              have b1 := hbn.alloc hsz (.cells #[.int .i64 S, .int .i64 Z, .bool u] 44)
              exact ⟨by rw [HR.out]; rfl, ⟨b1.os, b1.tape, b1.output, b1.size, b1.block⟩⟩
        · have HR := Lib.hid (HF.out (fun hf => f3 (by have := hf.1; rw [HBK.out] at this; exact this)))
          have q3 : (S != e) = true := by simpa using f3
          clear f3
          clear hL
          go_wp2
          go_quiet (fail)
          go_wp2
          go_ret
          have b1 := hbn.alloc hsz (.cells #[.int .i64 S, .int .i64 Zi, .bool u] 44)
          exact ⟨by rw [HR.out]; rfl, ⟨b1.os, b1.tape, b1.output, b1.size, b1.block⟩⟩
      · have hkn : k = n := by omega
        subst hkn
        have HE : RowKit.Hid ((e == pw (P : Int)) = r) := Lib.hid (by
          rw [HN.out] at hok
          cases r
          · rw [beq_eq_false_iff_ne]; intro he; have := HV.out.2 (PreU_all hok hp0 hp8 he); cases this
          · rw [beq_iff_eq]; exact VU_end (HV.out.1 rfl) hok)
        clear hok
        go_wp2
        go_ret
        exact ⟨by rw [← HE.out]; rfl, hb⟩
  · have hR : r = false := by
      cases r
      · rfl
      · have := HV.out.1 rfl; exact absurd ⟨this.1, this.2.1⟩ hp
    subst hR
    have hp2 : p < 0 ∨ 8 < p := by omega
    clear hp
    go_enter Try.func18, Try.ntmps18
    go_wp2_with (with_reducible refine (in_no _ _ _ _ hp2).mono ?_; rintro e w' ⟨rfl, rfl⟩)
    go_ret
    exact ⟨rfl, Below.refl _ _⟩

end Go.Proofs.Ytlcgfncgjljgpaa.Wu
