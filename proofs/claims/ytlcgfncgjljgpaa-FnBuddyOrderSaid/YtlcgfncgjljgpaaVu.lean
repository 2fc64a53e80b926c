/- BuddiesValid of the program. Conditions: a list that a slice of buddies reads as. -/
import Derived.Test.YtlcgfncgjljgpaaHv
import Derived.Test.YtlcgfncgjljgpaaBudG
import Derived.Test.YtlcgfncgjljgpaaOpen
import Derived.StillTailTactics
namespace Go.Proofs.Ytlcgfncgjljgpaa.Wu
open Go.RowKit Go.Proofs.Ytlcgfncgjljgpaa.Pl Go.Proofs.Ytlcgfncgjljgpaa.Wk

theorem iHalves_any (s z s' z' : Int) (u u' b : Bool) (w : World) (hs : 0 ≤ s) (hs2 : s ≤ 1152921504606846976) (hz : 0 ≤ z) (hz8 : z ≤ 8) (hs' : s' = s + pw z) (hb : b = true ↔ z = z' ∧ Al s (z + 1)) :
    Calls Try.prog 42 #[.agg #[.int .i64 s, .int .i64 z, .bool u], .agg #[.int .i64 s', .int .i64 z', .bool u']] w fun e w' => e = .returned (.bool b) ∧ Below w.heap.size w w' := by
  by_cases h : z = z'
  · subst h
    obtain ⟨Z, rfl⟩ := Int.eq_ofNat_of_zero_le hz
    exact iHalves_same s s' Z u u' b w hs hs2 (by omega) hs' (by rw [hb]; simp)
  · have e : b = false := by
      cases b
      · rfl
      · exact absurd (hb.1 rfl).1 h
    subst e
    exact iHalves_order s z s' z' u u' w h

theorem PreU_last {l : List Blk} {p e : Int} {K : Nat} (h : PreU l p e (K + 1)) (hK : K < l.length) : 0 ≤ (bk l K).s ∧ e = (bk l K).s + pw (bk l K).z ∧ 0 ≤ (bk l K).z ∧ (bk l K).z ≤ p := by
  have h1 := h.1
  rw [take_succ' hK, Tl_append] at h1
  obtain ⟨m, h2, h3, h4, h5, _, h6⟩ := h1
  have := Tl_le h2
  have h6' : m + pw (bk l K).z = e := h6
  exact ⟨by omega, by omega, h4, h5⟩

theorem wrap_sum {S N : Int} (h0 : 0 ≤ S) (h1 : S ≤ 1152921504606846976) (h2 : 1 ≤ N) (h3 : N ≤ 256) : IntKind.i64.wrap (S + N) = S + N := IntWalk.i64_in _ (by omega)
theorem rem_ne {e N : Int} {b : Bool} (h : b = true ↔ e % N = 0) : (e % N == 0) = b := by
  cases b
  · rw [beq_eq_false_iff_ne]; intro h2; have := h.2 h2; cases this
  · rw [beq_iff_eq]; exact h.1 rfl

set_option maxHeartbeats 8000000 in
theorem iVU_any (A : Option Addr) (n c : Nat) (l : List Blk) (p : Int) (r : Bool) (w : World) (h : Lst w w.heap.size A n l) (hnm : n ≤ 1125899906842624) (hr : r = true ↔ VU l p) :
    Calls Try.prog 20 #[.slice A n c, .int .i64 p] w fun e w' => e = .returned (.bool r) ∧ Below w.heap.size w w' := by
  have HN := Lib.hid h.len
  have HV := Lib.hid hr
  clear hr
  by_cases hp : 0 ≤ p ∧ p ≤ 8
  · obtain ⟨hp0, hp8⟩ := hp
    obtain ⟨P, rfl⟩ := Int.eq_ofNat_of_zero_le hp0
    have hP := wrap_pw (k := P) (by omega)
    have hQ := Lib.hid (pw_bd hp0 hp8)
    go_enter Try.func20, Try.ntmps20
    go_wp2
    go_loopw [5, 16] (fun v i wr => ∃ (k : Nat) (e : Int), k ≤ n ∧ i = .int .i64 k ∧ v = .int .i64 e ∧ PreU l P e k ∧ 0 ≤ e ∧ e ≤ 256 * k ∧ Below w.heap.size w wr) (fun _ i _ => n - (intOf i).toNat)
    case atStart => exact ⟨0, 0, Nat.zero_le _, rfl, rfl, PreU_zero l P, by omega, by omega, Below.refl _ _⟩
    case round =>
      obtain ⟨k, e, hk, rfl, rfl, hok, he0, he1, hb⟩ := hrel
      have hsz := hb.size
      have he2 : e ≤ 1152921504606846976 := by omega
      by_cases hlt : k < n
      · have hL := h.below hb (Nat.le_refl _)
        obtain ⟨b, off, rfl, hbb, c0, c1, c2⟩ := hL.cells k hlt
        have hbw : b < wr.heap.size := by omega
        have hkl : k < l.length := by have := HN.out; omega
        have hbn := hb
        have HO := Lib.hid (fun hf => PreU_step hok hkl hf)
        have HF : RowKit.Hid (¬ FitsU l P e k → r = false) := Lib.hid (fun hf => by
          cases r
          · rfl
          · exact absurd (VU_at (HV.out.1 rfl) hok hkl).1 hf)
        have HK := Lib.hid hok
        clear hok
        obtain ⟨S, Zi, u, hbk⟩ : ∃ S Zi u, bk l k = ⟨S, Zi, u⟩ := ⟨_, _, _, rfl⟩
        rw [hbk] at c0 c1 c2
        rw [hbk] at HO
        have HBK := Lib.hid hbk
        clear hbk
        by_cases f1 : Zi < 0
        · have HR := Lib.hid (HF.out (fun hf => by have := hf.2.1; rw [HBK.out] at this; simp only at this; omega))
          clear hL
          go_wp2
          go_quiet (fail)
          go_wp2
          go_ret
          have b1 := hbn.alloc hsz (.cells #[.int .i64 S, .int .i64 Zi, .bool u] 44)
          exact ⟨by rw [HR.out]; rfl, ⟨b1.os, b1.tape, b1.output, b1.size, b1.block⟩⟩
        · have d1 : decide (Zi < 0) = false := by simpa using f1
          by_cases f2 : (P : Int) < Zi
          · have HR := Lib.hid (HF.out (fun hf => by have := hf.2.2.1; rw [HBK.out] at this; simp only at this; omega))
            clear hL
            go_wp2
            go_quiet (fail)
            go_wp2
            go_ret
            have b1 := hbn.alloc hsz (.cells #[.int .i64 S, .int .i64 Zi, .bool u] 44)
            exact ⟨by rw [HR.out]; rfl, ⟨b1.os, b1.tape, b1.output, b1.size, b1.block⟩⟩
          · have d2 : decide ((P : Int) < Zi) = false := by simpa using f2
            by_cases f3 : S = e
            · subst f3
              obtain ⟨Z, rfl⟩ := Int.eq_ofNat_of_zero_le (show 0 ≤ Zi by omega)
              have d2' : decide (P < Z) = false := by rw [decide_eq_false_iff_not]; omega
              have w1 := wrap_one (k := Z) (by omega)
              have w2 := wrap_pw (k := Z) (by omega)
              have HP2 := Lib.hid hP
              have p1 := pw_pos (Z : Int)
              have p3 := pw_bd (z := (Z : Int)) (by omega) (by omega)
              have HAL : RowKit.Hid (Al S Z ↔ S % pw (Z : Int) = 0) := Lib.hid Iff.rfl
              have HPW := Lib.hid (rfl : pw (Z : Int) = pw (Z : Int))
              obtain ⟨N, hNN⟩ : ∃ N, pw (Z : Int) = N := ⟨_, rfl⟩
              rw [hNN] at w1 w2 p1 p3
              have HNN := Lib.hid hNN
              clear hNN hP HPW
              have hN0 : N ≠ 0 := fun h0 => by rw [h0] at p1; exact absurd p1 (by decide)
              have d3 : (S != S) = false := by simp
              by_cases f4 : S % N = 0
              · have q4 : (S % N != 0) = false := by rw [f4]; rfl
                have HA4 := Lib.hid (HAL.out.2 (by rw [HNN.out]; exact f4))
                clear f4
                have w3 := wrap_sum he0 he2 p1 p3
                rcases Nat.eq_zero_or_pos k with hk0 | hk0
                · have hk1 : decide (0 < k) = false := by rw [decide_eq_false_iff_not]; omega
                  have hk2 : ¬ (0 : Int) < (k : Int) := by omega
                  have HR : RowKit.Hid (PreU l P (S + N) (k + 1)) := Lib.hid (by rw [← HNN.out]; exact HO.out ⟨by rw [HBK.out], by rw [HBK.out]; exact Int.natCast_nonneg _, by rw [HBK.out]; exact Int.not_lt.1 f2, by rw [HBK.out]; exact HA4.out, .inl hk0⟩)
                  clear hL hk0
                  go_wp2
                  go_quiet (fail)
                  go_wp2
                  go_quiet (fail)
                  go_wp2
                  go_roundw
                  case rel =>
                    have b1 := hbn.alloc hsz (.cells #[.int .i64 S, .int .i64 Z, .bool u] 44)
                    exact ⟨k + 1, S + N, by omega, by go_num, rfl, HR.out, by omega, by omega, ⟨b1.os, b1.tape, b1.output, b1.size, b1.block⟩⟩
                  case measure => simp [intOf]; omega
                · obtain ⟨K, rfl⟩ : ∃ K, k = K + 1 := ⟨k - 1, by omega⟩
                  have hKl : K < l.length := by omega
                  obtain ⟨e1, e2, e3, e4⟩ := PreU_last HK.out hKl
                  obtain ⟨b', off', e', _, dd0, dd1, dd2⟩ := hL.cells K (by omega)
                  simp only [Option.some.injEq, Addr.mk.injEq, and_true] at e'
                  obtain ⟨rfl, rfl⟩ := e'
                  obtain ⟨S', Z', u', hbk'⟩ : ∃ S' Z' u', bk l K = ⟨S', Z', u'⟩ := ⟨_, _, _, rfl⟩
                  rw [hbk'] at dd0 dd1 dd2 e1 e2 e3 e4
                  simp only at dd0 dd1 dd2 e1 e2 e3 e4
                  have HBK' := Lib.hid hbk'
                  have HE2 := Lib.hid e2
                  have e5 := pw_pos Z'
                  have e6 : S' ≤ 1152921504606846976 := by omega
                  have HGO : RowKit.Hid ((u = true ∨ u' = true ∨ ¬ (Z' = Z ∧ Al S' (Z' + 1))) → PreU l P (S + N) (K + 1 + 1)) := Lib.hid (fun hh => by
                    rw [← HNN.out]
                    refine HO.out ⟨by rw [HBK.out], by rw [HBK.out]; exact Int.natCast_nonneg _, by rw [HBK.out]; exact Int.not_lt.1 f2, by rw [HBK.out]; exact HA4.out, .inr ?_⟩
                    rw [show K + 1 - 1 = K by omega, HBK.out, HBK'.out]
                    rintro ⟨j1, j2, j3, j4⟩
                    simp only at j1 j2 j3 j4
                    rcases hh with h | h | h
                    · rw [h] at j2; cases j2
                    · rw [h] at j1; cases j1
                    · exact h ⟨j3, j4⟩)
                  have HST : RowKit.Hid (u = false → u' = false → (Z' = Z ∧ Al S' (Z' + 1)) → r = false) := Lib.hid (fun h1 h2 h3 => HF.out (fun hf => by
                    have := hf.2.2.2.2.resolve_left (by omega)
                    rw [show K + 1 - 1 = K by omega, HBK.out, HBK'.out] at this
                    exact this ⟨h2, h1, h3.1, h3.2⟩))
                  clear hbk' hL e2
                  have hk1 : decide ((0 : Int) < (K : Int) + 1) = true := by rw [decide_eq_true_iff]; omega
                  have hi1 : (0 : Int) ≤ (K : Int) := by omega
                  have hi2 : (K : Int) < (n : Int) := by omega
                  have hw5 : IntKind.i64.wrap ((K : Int) + 1 - 1) = (K : Int) := by rw [Int.add_sub_cancel]; exact IntWalk.i64_in _ (by omega)
                  have hw6 : IntKind.i64.wrap (K : Int) = (K : Int) := IntWalk.i64_in _ (by omega)
                  cases u
                  · cases u'
                    · have HH : RowKit.Hid (∀ (bb : Bool), (bb = true ↔ Z' = (Z : Int) ∧ Al S' (Z' + 1)) → ∀ w, Calls Try.prog 42 #[.agg #[.int .i64 S', .int .i64 Z', .bool false], .agg #[.int .i64 S, .int .i64 Z, .bool false]] w fun e w' => e = .returned (.bool bb) ∧ Below w.heap.size w w') := Lib.hid (fun bb hbb w => iHalves_any S' Z' S Z false false bb w e1 e6 e3 (by omega) HE2.out hbb)
                      by_cases hj : Z' = (Z : Int) ∧ Al S' (Z' + 1)
                      · have HC := Lib.hid (HH.out true ⟨fun _ => hj, fun _ => rfl⟩)
                        have HR := Lib.hid (HST.out rfl rfl hj)
                        clear hj
                        go_wp2
                        go_quiet (fail)
                        go_wp2
                        have b1 := hbn.alloc hsz (.cells #[.int .i64 S, .int .i64 Z, .bool false] 44)
                        obtain ⟨W, hW⟩ : ∃ W, (wr.alloc (.cells #[.int .i64 S, .int .i64 Z, .bool false] 44)).drewN nq = W := ⟨_, rfl⟩
                        have g0 : W.cell? ⟨wr.heap.size, 0, none⟩ = some (.int .i64 S) := by rw [← hW]; exact (Bk.new wr _ _).cell 0
                        have g1 : W.cell? ⟨wr.heap.size, 1, none⟩ = some (.int .i64 Z) := by rw [← hW]; exact (Bk.new wr _ _).cell 1
                        have g2 : W.cell? ⟨wr.heap.size, 2, none⟩ = some (.bool false) := by rw [← hW]; exact (Bk.new wr _ _).cell 2
                        have bW : Below wr.heap.size wr W := by rw [← hW]; have b2 := (Below.refl wr.heap.size wr).alloc (Nat.le_refl _) (.cells #[.int .i64 S, .int .i64 Z, .bool false] 44); exact ⟨b2.os, b2.tape, b2.output, b2.size, b2.block⟩
                        have bV : Below w.heap.size w W := by rw [← hW]; exact ⟨b1.os, b1.tape, b1.output, b1.size, b1.block⟩
                        have hsW : wr.heap.size < W.heap.size := by rw [← hW]; show wr.heap.size < (wr.alloc _).heap.size; simp
                        have k0 : W.cell? ⟨b, off + K * 3, none⟩ = some (.int .i64 S') := (bW.cell (p := ⟨b, off + K * 3, none⟩) hbw).trans dd0
                        have k1 : W.cell? ⟨b, off + K * 3 + 1, none⟩ = some (.int .i64 Z') := (bW.cell (p := ⟨b, off + K * 3 + 1, none⟩) hbw).trans dd1
                        have k2 : W.cell? ⟨b, off + K * 3 + 2, none⟩ = some (.bool false) := (bW.cell (p := ⟨b, off + K * 3 + 2, none⟩) hbw).trans dd2
                        rw [hW]
                        clear hW b1
                        go_still_tail 23, (by kernel_rfl)
                        go_wp2_with fail
                        refine (HC.out _).mono ?_
                        rintro e w5 ⟨rfl, b5⟩
                        go_wp2
                        go_ret
                        have b2 : Below w.heap.size w w5 := Below.trans bV (Below.mono (w := W) ⟨b5.os, b5.tape, b5.output, b5.size, b5.block⟩ bV.size)
                        exact ⟨by rw [HR.out]; rfl, b2⟩
                      · have HC := Lib.hid (HH.out false ⟨(fun h => by cases h), fun h => absurd h hj⟩)
                        have HR := Lib.hid (HGO.out (.inr (.inr hj)))
                        clear hj
                        go_wp2
                        go_quiet (fail)
                        go_wp2
                        have b1 := hbn.alloc hsz (.cells #[.int .i64 S, .int .i64 Z, .bool false] 44)
                        obtain ⟨W, hW⟩ : ∃ W, (wr.alloc (.cells #[.int .i64 S, .int .i64 Z, .bool false] 44)).drewN nq = W := ⟨_, rfl⟩
                        have g0 : W.cell? ⟨wr.heap.size, 0, none⟩ = some (.int .i64 S) := by rw [← hW]; exact (Bk.new wr _ _).cell 0
                        have g1 : W.cell? ⟨wr.heap.size, 1, none⟩ = some (.int .i64 Z) := by rw [← hW]; exact (Bk.new wr _ _).cell 1
                        have g2 : W.cell? ⟨wr.heap.size, 2, none⟩ = some (.bool false) := by rw [← hW]; exact (Bk.new wr _ _).cell 2
                        have bW : Below wr.heap.size wr W := by rw [← hW]; have b2 := (Below.refl wr.heap.size wr).alloc (Nat.le_refl _) (.cells #[.int .i64 S, .int .i64 Z, .bool false] 44); exact ⟨b2.os, b2.tape, b2.output, b2.size, b2.block⟩
                        have bV : Below w.heap.size w W := by rw [← hW]; exact ⟨b1.os, b1.tape, b1.output, b1.size, b1.block⟩
                        have hsW : wr.heap.size < W.heap.size := by rw [← hW]; show wr.heap.size < (wr.alloc _).heap.size; simp
                        have k0 : W.cell? ⟨b, off + K * 3, none⟩ = some (.int .i64 S') := (bW.cell (p := ⟨b, off + K * 3, none⟩) hbw).trans dd0
                        have k1 : W.cell? ⟨b, off + K * 3 + 1, none⟩ = some (.int .i64 Z') := (bW.cell (p := ⟨b, off + K * 3 + 1, none⟩) hbw).trans dd1
                        have k2 : W.cell? ⟨b, off + K * 3 + 2, none⟩ = some (.bool false) := (bW.cell (p := ⟨b, off + K * 3 + 2, none⟩) hbw).trans dd2
                        rw [hW]
                        clear hW b1
                        go_still_tail 23, (by kernel_rfl)
                        go_wp2_with fail
                        refine (HC.out _).mono ?_
                        rintro e w5 ⟨rfl, b5⟩
                        have bW5 : Below W.heap.size W w5 := ⟨b5.os, b5.tape, b5.output, b5.size, b5.block⟩
                        have b2 : Below w.heap.size w w5 := Below.trans bV (bW5.mono bV.size)
                        have h1 : w5.cell? ⟨wr.heap.size, 1, none⟩ = some (.int .i64 Z) := (bW5.cell (p := ⟨wr.heap.size, 1, none⟩) hsW).trans g1
                        clear bW5
                        go_wp2
                        go_roundw
                        case rel => exact ⟨K + 1 + 1, S + N, by omega, by go_num, rfl, HR.out, by omega, by omega, b2⟩
                        case measure => simp [intOf]; omega
                    · have HR := Lib.hid (HGO.out (.inr (.inl rfl)))
                      go_wp2
                      go_quiet (fail)
                      go_wp2
                      go_quiet (fail)
                      go_wp2
                      go_roundw
                      case rel =>
                        have b1 := hbn.alloc hsz (.cells #[.int .i64 S, .int .i64 Z, .bool false] 44)
                        exact ⟨K + 1 + 1, S + N, by omega, by go_num, rfl, HR.out, by omega, by omega, ⟨b1.os, b1.tape, b1.output, b1.size, b1.block⟩⟩
                      case measure => simp [intOf]; omega
                  · have HR := Lib.hid (HGO.out (.inl rfl))
                    go_wp2
                    go_quiet (fail)
                    go_wp2
                    go_quiet (fail)
                    go_wp2
                    go_roundw
                    case rel =>
                      have b1 := hbn.alloc hsz (.cells #[.int .i64 S, .int .i64 Z, .bool true] 44)
                      exact ⟨K + 1 + 1, S + N, by omega, by go_num, rfl, HR.out, by omega, by omega, ⟨b1.os, b1.tape, b1.output, b1.size, b1.block⟩⟩
                    case measure => simp [intOf]; omega
              · have q4 : (S % N != 0) = true := by simpa using f4
                have HR := Lib.hid (HF.out (fun hf => by have := hf.2.2.2.1; rw [HBK.out] at this; exact f4 (by rw [← HNN.out]; exact this)))
                clear f4
                clear hL
                go_wp2
                go_quiet (fail)
                go_wp2
                go_ret
                have b1 := hbn.alloc hsz (.cells #[.int .i64 S, .int .i64 Z, .bool u] 44)
                exact ⟨by rw [HR.out]; rfl, ⟨b1.os, b1.tape, b1.output, b1.size, b1.block⟩⟩
            · have HR := Lib.hid (HF.out (fun hf => f3 (by have := hf.1; rw [HBK.out] at this; exact this)))
              have q3 : (S != e) = true := by simpa using f3
              clear f3
              clear hL
              go_wp2
              go_quiet (fail)
              go_wp2
              go_ret
              have b1 := hbn.alloc hsz (.cells #[.int .i64 S, .int .i64 Zi, .bool u] 44)
              exact ⟨by rw [HR.out]; rfl, ⟨b1.os, b1.tape, b1.output, b1.size, b1.block⟩⟩
      · have hkn : k = n := by omega
        subst hkn
        have HE : RowKit.Hid ((e == pw (P : Int)) = r) := Lib.hid (by
          rw [HN.out] at hok
          cases r
          · rw [beq_eq_false_iff_ne]; intro he; have := HV.out.2 (PreU_all hok hp0 hp8 he); cases this
          · rw [beq_iff_eq]; exact VU_end (HV.out.1 rfl) hok)
        clear hok
        go_wp2
        go_ret
        exact ⟨by rw [← HE.out]; rfl, hb⟩
  · have hR : r = false := by
      cases r
      · rfl
      · have := HV.out.1 rfl; exact absurd ⟨this.1, this.2.1⟩ hp
    subst hR
    by_cases h0 : p < 0
    · go_enter Try.func20, Try.ntmps20
      go_wp2
      go_ret
      exact ⟨rfl, Below.refl _ _⟩
    · have h8 : 8 < p := by omega
      go_enter Try.func20, Try.ntmps20
      go_wp2
      go_ret
      exact ⟨rfl, Below.refl _ _⟩

end Go.Proofs.Ytlcgfncgjljgpaa.Wu
