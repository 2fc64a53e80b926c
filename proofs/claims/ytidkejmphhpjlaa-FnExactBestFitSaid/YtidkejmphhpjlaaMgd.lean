/- sort.stable_func walked. Conditions: at most 256 elements, whose places ascend. -/
import Derived.Test.YtidkejmphhpjlaaMgc
import Derived.Test.YtidkejmphhpjlaaMgq
namespace Go.Proofs.Ytidkejmphhpjlaa.Wk
open Go.RowKit Go.Proofs.Ytidkejmphhpjlaa.Pl

section
variable {α : Type} [Inhabited α]

theorem insF_any (enc : α → Value) (v : α → Nat) (l : List Blk) (g : Nat) (lb : Array Value) (sf : Nat) (sb : Array Value) (blk N : Nat) (d0 : Array α) (w0 : World) (eg : ∀ args w, (callFunc g args).run Try.prog w = .ok (.enter g args) w)
    (hless : LessReads Try.prog g lb enc (ltz v l) blk 0 N w0) (hswap : SwapSwaps Try.prog sf sb enc blk 0 N) (hblk : blk < w0.heap.size) (hH0 : Go.Sort.Holds enc w0 blk 0 d0) (hd0 : d0.size = N) (hsz : N ≤ 1000000) (a b : Nat) (d : Array α) (W : World) (hsd : d.size = N) (hS : SW enc w0 blk 0 d W) (hab : a ≤ b) (hb : b ≤ N) :
    Calls Try.prog 70 #[.agg #[.func (.func g) #[] lb, .func (.func sf) #[] sb], .int .i64 a, .int .i64 b] W fun e w' => e = .returned (.tuple #[]) ∧ SW enc w0 blk 0 (Go.Sort.insertionSort (ltz v l) d a b) w' ∧ W.grownBy w' (some blk) := by
  have L15 : LaysGt.n15 Try.prog sst_ren := { sst with }
  have LI : LaysGg.n26 Try.prog sst_ren.viaGt := ({ L15 with } : LaysGt.n29 Try.prog sst_ren).elder
  have h := Any.insertionSort_func_w LI enc (ltz v l) g lb sf sb blk 0 a b d W eg (by rw [hsd]; exact hS.lessReads hless hblk hsd) (by rw [hsd]; exact hswap) (hS.holds hblk hH0 (by omega)) (hS.lt hblk) hab (by omega) (by omega)
  refine Calls.mono (show Calls Try.prog 70 _ _ _ from h) ?_
  rintro e w' ⟨rfl, n, os, rfl⟩
  have hsi : (Go.Sort.insertionSort (ltz v l) d a b).size = d.size := by
    have key : ∀ (f i : Nat) (x : Array α), b - i ≤ f → b ≤ x.size → (Go.Sort.insOuter (ltz v l) a b i x).size = x.size := by
      intro f
      induction f with
      | zero => intro i x hf _; unfold Go.Sort.insOuter; rw [if_neg (by omega)]
      | succ f ih =>
        intro i x hf hbx
        unfold Go.Sort.insOuter
        by_cases hi : i < b
        · rw [if_pos hi]
          have hk := (innerA_keeps (ltz v l) a i x (by omega)).1
          rw [ih (i + 1) _ (by omega) (by omega), hk]
        · rw [if_neg hi]
    exact key b (a + 1) d (by omega) (by omega)
  exact ⟨rfl, hS.on hblk n _ os hsi, grown_sorted enc _⟩

set_option maxRecDepth 100000 in
set_option maxHeartbeats 8000000 in
theorem stableF_any (enc : α → Value) (v : α → Nat) (l : List Blk) (g : Nat) (lb : Array Value) (sf : Nat) (sb : Array Value) (blk N : Nat) (d0 : Array α) (w0 : World) (eg : ∀ args w, (callFunc g args).run Try.prog w = .ok (.enter g args) w)
    (hless : LessReads Try.prog g lb enc (ltz v l) blk 0 N w0) (hswap : SwapSwaps Try.prog sf sb enc blk 0 N) (hblk : blk < w0.heap.size) (hH0 : Go.Sort.Holds enc w0 blk 0 d0) (hd0 : d0.size = N) (hN : N ≤ 256) (hasc : ∀ i j, i < j → j < N → v d0[i]! < v d0[j]!) :
    Calls Try.prog 58 #[.agg #[.func (.func g) #[] lb, .func (.func sf) #[] sb], .int .i64 N] w0 fun e w' => e = .returned (.tuple #[]) ∧ ∃ d' : Array α, SW enc w0 blk 0 d' w' ∧ w0.grownBy w' (some blk) ∧ Go.Sort.PermIn 0 N d0 d' ∧ Seg v l d' 0 N := by
  have hsz : N ≤ 1000000 := by omega
  have HIN := Lib.hid (insF_any enc v l g lb sf sb blk N d0 w0 eg hless hswap hblk hH0 hd0 hsz)
  have HMG := Lib.hid (symMerge_any enc v l g lb sf sb blk N d0 w0 eg hless hswap hblk hH0 hd0 hsz)
  have HS := Lib.hid ((SW.start hH0).alloc (.cells #[.func (.func g) #[] lb, .func (.func sf) #[] sb] 74))
  have HB0 := Lib.hid ((Bk.new w0 #[.func (.func g) #[] lb, .func (.func sf) #[] sb] 74).cell 0)
  have HB1 := Lib.hid ((Bk.new w0 #[.func (.func g) #[] lb, .func (.func sf) #[] sb] 74).cell 1)
  have HASC := Lib.hid hasc
  clear hless hswap hH0 hasc
  go_enter Try.func58, Try.ntmps58
  go_wp2
  go_loopw [5, 6] (fun va vb wr => ∃ (a : Nat) (d : Array α), va = .int .i64 a ∧ vb = .int .i64 ((a : Int) + 20) ∧ a % 20 = 0 ∧ a ≤ N ∧ SW enc w0 blk 0 d wr ∧ (w0.alloc (.cells #[.func (.func g) #[] lb, .func (.func sf) #[] sb] 74)).grownBy wr (some blk) ∧ Go.Sort.PermIn 0 N d0 d ∧ Dn v l N (P1 a) d) (fun va _ _ => N + 20 - (intOf va).toNat)
  case atStart => exact ⟨0, d0, rfl, rfl, rfl, Nat.zero_le _, HS.out, gb_refl _ _, Go.Sort.permIn_refl _ _ _, Dn_start v l HASC.out⟩
  case round =>
    obtain ⟨a, d, rfl, rfl, ha20, haN, hS, hG, hP, hD⟩ := hrel
    have hsd : d.size = N := by have := hP.1; omega
    have c0 : wr.cell? ⟨w0.heap.size, 0, none⟩ = some (.func (.func g) #[] lb) := gb_cell hG (by simp) (by omega) HB0.out
    have c1 : wr.cell? ⟨w0.heap.size, 1, none⟩ = some (.func (.func sf) #[] sb) := gb_cell hG (by simp) (by omega) HB1.out
    by_cases hlt : a + 20 ≤ N
    · have hi := ins_seg v l hd0 HASC.out hP (show a ≤ a + 20 by omega) hlt (Dn_asc v l hD hlt)
      have HC := Lib.hid (HIN.out a (a + 20) d wr hsd hS (by omega) hlt)
      rw [show ((a + 20 : Nat) : Int) = (a : Int) + 20 by omega] at HC
      have HI1 := Lib.hid hi.1
      have HD' := Lib.hid (Dn_ins v l hD hsd hlt ha20 (Nat.le_refl _) (.inl rfl) hi.1 hi.2)
      have HP := Lib.hid (Go.Sort.permIn_trans _ _ _ _ _ hP (Go.Sort.permIn_mono _ _ _ _ _ _ (Nat.zero_le _) hlt (by omega) hi.1))
      clear hi hD hP hS
      go_wp2_with fail
      refine HC.out.mono ?_
      rintro e w' ⟨rfl, hS', hG'⟩
      go_wp2
      go_roundw
      case rel => exact ⟨a + 20, _, by go_num, by congr 1 <;> omega, by omega, hlt, hS', gb_trans hG hG', HP.out, HD'.out⟩
      case measure => simp [intOf]; omega
    · have hi := ins_seg v l hd0 HASC.out hP haN (Nat.le_refl _) (Dn_asc v l hD (Nat.le_refl _))
      have HC := Lib.hid (HIN.out a N d wr hsd hS haN (Nat.le_refl _))
      have HD' := Lib.hid (Dn_first v l (Dn_ins v l hD hsd (Nat.le_refl _) ha20 (by omega) (.inr rfl) hi.1 hi.2))
      have HP := Lib.hid (Go.Sort.permIn_trans _ _ _ _ _ hP (Go.Sort.permIn_mono _ _ _ _ _ _ (Nat.zero_le _) (Nat.le_refl _) (by omega) hi.1))
      obtain ⟨wo, rfl⟩ : ∃ x : World, x = wr := ⟨_, rfl⟩
      clear hi hD hP hS
      go_wp2_with fail
      refine HC.out.mono ?_
      rintro e w3 ⟨rfl, hS', hG'⟩
      have HS3 := Lib.hid hS'
      have HG3 := Lib.hid (gb_trans hG hG')
      clear hS' hG' hG c0 c1 HC
      go_wp2
      go_loopw [4, 5, 6, 7] (fun vs _ _ _ wr => ∃ (s : Nat) (d : Array α), vs = .int .i64 s ∧ (Bs4 s ∨ N ≤ s) ∧ s ≤ 320 ∧ SW enc w0 blk 0 d wr ∧ (w0.alloc (.cells #[.func (.func g) #[] lb, .func (.func sf) #[] sb] 74)).grownBy wr (some blk) ∧ Go.Sort.PermIn 0 N d0 d ∧ Dn v l N (P2 s 0) d) (fun vs _ _ _ _ => 700 - (intOf vs).toNat)
      case atStart => exact ⟨20, _, rfl, .inl (.inl rfl), by omega, HS3.out, HG3.out, HP.out, HD'.out⟩
      case round =>
        obtain ⟨s, d2, rfl, hs4, hs320, hS, hG, hP, hD⟩ := hrel
        by_cases hsN : s < N
        · have hb4 : Bs4 s := by
            rcases hs4 with h | h
            · exact h
            · omega
          have hs20 : 20 ≤ s := by rcases hb4 with e | e | e | e <;> omega
          have hs160 : s ≤ 160 := by rcases hb4 with e | e | e | e <;> omega
          have HB4 := Lib.hid hb4
          have HS2 := Lib.hid hS
          have HG2 := Lib.hid hG
          have HP2 := Lib.hid hP
          have HD2 := Lib.hid hD
          obtain ⟨wi, rfl⟩ : ∃ x : World, x = wr := ⟨_, rfl⟩
          clear hS hG hP hD hs4 hb4
          go_wp2
          go_loopw [5, 6] (fun va vb wr => ∃ (a : Nat) (d : Array α), va = .int .i64 a ∧ vb = .int .i64 ((a : Int) + 2 * (s : Int)) ∧ a % (2 * s) = 0 ∧ a ≤ N ∧ SW enc w0 blk 0 d wr ∧ (w0.alloc (.cells #[.func (.func g) #[] lb, .func (.func sf) #[] sb] 74)).grownBy wr (some blk) ∧ Go.Sort.PermIn 0 N d0 d ∧ Dn v l N (P2 s a) d) (fun va _ _ => N + 400 - (intOf va).toNat)
          case atStart => exact ⟨0, d2, rfl, by (congr 1 <;> omega), Nat.zero_mod _, Nat.zero_le _, HS2.out, HG2.out, HP2.out, HD2.out⟩
          case round =>
            obtain ⟨a, d, rfl, rfl, ham, haN, hS, hG, hP, hD⟩ := hrel
            have hsd : d.size = N := by have := hP.1; omega
            have c0 : wr.cell? ⟨w0.heap.size, 0, none⟩ = some (.func (.func g) #[] lb) := gb_cell hG (by simp) (by omega) HB0.out
            have c1 : wr.cell? ⟨w0.heap.size, 1, none⟩ = some (.func (.func sf) #[] sb) := gb_cell hG (by simp) (by omega) HB1.out
            have HDD := Lib.hid hD
            have HPP := Lib.hid hP
            have HAM := Lib.hid ham
            clear hD hP ham
            by_cases hlt : a + 2 * s ≤ N
            · obtain ⟨g1, g2, g3⟩ := Dn_pre v l HDD.out HB4.out HAM.out (b := a + 2 * s) (by omega) (Nat.le_refl _) hlt
              have HC := Lib.hid (HMG.out (a + 2 * s) a (a + s) (a + 2 * s) d wr (by omega) hsd hS (by omega) (by omega) hlt g1 g2 g3)
              rw [show ((a + s : Nat) : Int) = (a : Int) + (s : Int) by omega, show ((a + 2 * s : Nat) : Int) = (a : Int) + 2 * (s : Int) by omega] at HC
              have q1 : (a : Int) + 2 * (s : Int) ≤ (N : Int) := by omega
              clear g1 g2 g3 hS
              go_wp2_with fail
              refine HC.out.mono ?_
              rintro e w' ⟨rfl, d', hS', hG', hP', hQ'⟩
              have HD3 := Lib.hid (Dn_merge v l HDD.out hsd HB4.out HAM.out (Nat.le_refl _) (.inl rfl) hlt hP' hQ')
              have HP3 := Lib.hid (Go.Sort.permIn_trans _ _ _ _ _ HPP.out (Go.Sort.permIn_mono _ _ _ _ _ _ (Nat.zero_le _) hlt (by omega) hP'))
              clear hQ' hP'
              go_wp2
              go_roundw
              case rel => exact ⟨a + 2 * s, d', by (congr 1 <;> omega), by (congr 1 <;> omega), by rw [Nat.add_mod_right]; exact HAM.out, hlt, hS', gb_trans hG hG', HP3.out, HD3.out⟩
              case measure => simp [intOf]; omega
            · have q1 : ¬ (a : Int) + 2 * (s : Int) ≤ (N : Int) := by omega
              by_cases hms : a + s < N
              · obtain ⟨g1, g2, g3⟩ := Dn_pre v l HDD.out HB4.out HAM.out (b := N) hms (by omega) (Nat.le_refl _)
                have HC := Lib.hid (HMG.out N a (a + s) N d wr (by omega) hsd hS (by omega) hms (Nat.le_refl _) g1 g2 g3)
                rw [show ((a + s : Nat) : Int) = (a : Int) + (s : Int) by omega] at HC
                have q2 : (a : Int) + (s : Int) < (N : Int) := by omega
                clear g1 g2 g3 hS
                go_wp2_with fail
                refine HC.out.mono ?_
                rintro e w' ⟨rfl, d', hS', hG', hP', hQ'⟩
                have HD3 := Lib.hid (Dn_pass v l (Dn_merge v l HDD.out hsd HB4.out HAM.out (by omega) (.inr rfl) (Nat.le_refl _) hP' hQ') HB4.out (.inr (Nat.le_refl _)) (by omega))
                have HP3 := Lib.hid (Go.Sort.permIn_trans _ _ _ _ _ HPP.out (Go.Sort.permIn_mono _ _ _ _ _ _ (Nat.zero_le _) (Nat.le_refl _) (by omega) hP'))
                have hn4 : RowKit.Hid (Bs4 (2 * s) ∨ N ≤ 2 * s) := Lib.hid (by have := HB4.out; unfold Bs4 at this ⊢; omega)
                clear hQ' hP'
                go_wp2
                go_roundw
                case rel => exact ⟨2 * s, d', by (congr 1 <;> omega), hn4.out, by omega, hS', gb_trans hG hG', HP3.out, HD3.out⟩
                case measure => simp [intOf]; omega
              · have q2 : ¬ (a : Int) + (s : Int) < (N : Int) := by omega
                have HD3 := Lib.hid (Dn_pass v l HDD.out HB4.out (.inl HAM.out) (by omega))
                have hn4 : RowKit.Hid (Bs4 (2 * s) ∨ N ≤ 2 * s) := Lib.hid (by have := HB4.out; unfold Bs4 at this ⊢; omega)
                go_wp2
                go_roundw
                case rel => exact ⟨2 * s, d, by (congr 1 <;> omega), hn4.out, by omega, hS, hG, HPP.out, HD3.out⟩
                case measure => simp [intOf]; omega
        · go_wp2
          go_end0
          exact ⟨rfl, d2, hS, gb_trans (gb_alloc _ _ _) hG, hP, Dn_end v l hD (by omega)⟩

end
end Go.Proofs.Ytidkejmphhpjlaa.Wk
