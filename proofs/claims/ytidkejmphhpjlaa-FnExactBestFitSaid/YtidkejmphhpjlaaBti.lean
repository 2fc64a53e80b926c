/- BestFit of the program. Conditions: valid blocks, at most 20. -/
import Derived.Test.YtidkejmphhpjlaaBsw
import Derived.Test.YtidkejmphhpjlaaFirst
import Derived.Shelf.SlSorted.Search
import Derived.IntWalk
namespace Go.Proofs.Ytidkejmphhpjlaa.Pl

theorem countP_lt (m : Nat) (p : Nat → Bool) (n : Nat) (hm : m ≤ n) (hp : ∀ i, i < n → (p i = true ↔ i < m)) : (List.range n).countP p = m := by
  induction n generalizing m with
  | zero => simp at hm; subst hm; rfl
  | succ n ih =>
    rw [List.range_succ, List.countP_append]
    by_cases e : m = n + 1
    · subst e
      have h1 := ih n (Nat.le_refl _) (fun i hi => by have := hp i (by omega); rw [this]; omega)
      have h2 : p n = true := (hp n (by omega)).2 (by omega)
      rw [h1]; simp [h2]
    · have h1 := ih m (by omega) (fun i hi => hp i (by omega))
      have h2 : p n = false := by
        cases hpn : p n
        · rfl
        · have := (hp n (by omega)).1 hpn; omega
      rw [h1]; simp [h2]

end Go.Proofs.Ytidkejmphhpjlaa.Pl
namespace Go.Proofs.Ytidkejmphhpjlaa.Wk
open Go.RowKit Go.Proofs.Ytidkejmphhpjlaa.Pl

def srch_ren : Go.Shelf.Ren := ⟨fun | 16 => 46 | n => n, fun | 3 => 3 | 4 => 4 | 35 => 31 | 38 => 60 | n => n, fun n => n⟩
theorem srch : SlLaysO.n16 Try.prog srch_ren := {
  mixed := by kernel_rfl
  f16 := Try.func46.trans (congrArg some (by kernel_rfl))
  t3 := Try.underlying3
  a3 := Try.isAgg3
  z3 := Try.sizeOf3
  v3 := Try.zeroValue3
  t4 := Try.underlying4
  a4 := Try.isAgg4
  z4 := Try.sizeOf4
  v4 := Try.zeroValue4
  t35 := Try.underlying31
  a35 := Try.isAgg31
  z35 := Try.sizeOf31
  v35 := Try.zeroValue31
  t38 := Try.underlying60
  a38 := Try.isAgg60
  z38 := Try.sizeOf60
  v38 := Try.zeroValue60 }

theorem iBest_inv (A : Option Addr) (n c : Nat) (l : List Blk) (t sz : Int) (w : World) (h : Lst w w.heap.size A n l) (hv : ¬ V l t) (hnm : n ≤ 1125899906842624) :
    Calls Try.prog 18 #[.slice A n c, .int .i64 t, .int .i64 sz] w fun e w' => e = .returned (.int .i64 (-1)) ∧ Below w.heap.size w w' := by
  have BX := ((Below.refl w.heap.size w).alloc (Nat.le_refl _) (.cells #[.slice A n c] 25)).alloc (by simp) (.cells #[.int .i64 sz] 3)
  have HC := Lib.hid (iValid_no A n c l t _ (h.up BX (Nat.le_refl _) BX.size) hv hnm)
  clear h hv
  go_enter Try.func18, Try.ntmps18
  go_wp2_with fail
  refine HC.out.mono ?_
  rintro e w1 ⟨rfl, hb⟩
  go_wp2
  go_ret
  exact ⟨rfl, BX.trans (hb.mono BX.size)⟩

theorem iBest_out (A : Option Addr) (n c : Nat) (l : List Blk) (t sz : Int) (w : World) (h : Lst w w.heap.size A n l) (hv : V l t) (hs : ¬ (1 ≤ sz ∧ sz ≤ 256)) :
    Calls Try.prog 18 #[.slice A n c, .int .i64 t, .int .i64 sz] w fun e w' => e = .returned (.int .i64 (-1)) ∧ Below w.heap.size w w' := by
  have BX := ((Below.refl w.heap.size w).alloc (Nat.le_refl _) (.cells #[.slice A n c] 25)).alloc (by simp) (.cells #[.int .i64 sz] 3)
  have HC := Lib.hid (iValid_yes A n c l t _ (h.up BX (Nat.le_refl _) BX.size) hv)
  have K2 := (bk_newI (w.alloc (.cells #[.slice A n c] 25)) #[.int .i64 sz] 3 (H := w.heap.size + 1) (by simp))
  have hS : decide (1 ≤ sz ∧ sz ≤ 256) = false := by rw [decide_eq_false_iff_not]; exact hs
  clear h hv hs
  go_enter Try.func18, Try.ntmps18
  go_wp2_with fail
  refine HC.out.mono ?_
  rintro e w1 ⟨rfl, hb⟩
  have c2 := (K2.below hb (by simp)).cell 0
  go_wp2_with (refine (isTotal_any _ _).mono ?_; rintro e w' ⟨rfl, rfl⟩)
  go_ret
  exact ⟨rfl, BX.trans (hb.mono BX.size)⟩

/-- The first place whose block is large enough. -/
theorem fi_thresh (l : List Blk) (K : Nat) (sz : Int) (hl : l.length = K + 1) : ∃ T, T ≤ (fiS l K).size ∧ (List.range (fiS l K).size).countP (fun i => !decide (sz ≤ (bk l (fiS l K)[i]!.val).z)) = T ∧ (∀ m, m < (fiS l K).size → (decide (sz ≤ (bk l (fiS l K)[m]!.val).z) = false ↔ m < T)) := by
  obtain ⟨_, hS, _⟩ := fiS_holds l K hl
  obtain ⟨T, hT, hp⟩ := thresh (fun i => !decide (sz ≤ (bk l (fiS l K)[i]!.val).z)) (fiS l K).size (fun i j hij hj h => by
    have := hS i j (Nat.zero_le _) hij hj
    simp only [ltx, decide_eq_false_iff_not] at this
    simp only [Bool.not_eq_true', decide_eq_false_iff_not] at h ⊢
    omega)
  refine ⟨T, hT, countP_lt T _ _ hT hp, fun m hm => ?_⟩
  rw [← hp m hm]
  simp
theorem fi_mono (l : List Blk) (K : Nat) (sz : Int) (hl : l.length = K + 1) (p q : Nat) (hpq : p ≤ q) (hq : q < (fiS l K).size) (h : decide (sz ≤ (bk l (fiS l K)[p]!.val).z) = true) : decide (sz ≤ (bk l (fiS l K)[q]!.val).z) = true := by
  by_cases e : p = q
  · subst e; exact h
  · have := (fiS_holds l K hl).2.1 p q (Nat.zero_le _) (by omega) hq
    simp only [ltx, decide_eq_false_iff_not] at this
    simp only [decide_eq_true_eq] at h ⊢
    omega

set_option maxRecDepth 100000 in
set_option maxHeartbeats 4000000 in
theorem iBest_in (b off c K : Nat) (l : List Blk) (t sz r : Int) (w : World) (h : Lst w w.heap.size (some ⟨b, off, none⟩) (K + 1) l) (hK : K + 1 ≤ 20) (hv : V l t) (hs : 1 ≤ sz ∧ sz ≤ 256) (hr : BestR l sz r) :
    Calls Try.prog 18 #[.slice (some ⟨b, off, none⟩) (K + 1) c, .int .i64 t, .int .i64 sz] w fun e w' => e = .returned (.int .i64 r) ∧ Below w.heap.size w w' := by
  have BX := ((Below.refl w.heap.size w).alloc (Nat.le_refl _) (.cells #[.slice (some ⟨b, off, none⟩) (K + 1) c] 25)).alloc (by simp) (.cells #[.int .i64 sz] 3)
  have HC := Lib.hid (iValid_yes _ (K + 1) c l t _ (h.up BX (Nat.le_refl _) BX.size) hv)
  have K1 := (Bk.new w #[.slice (some ⟨b, off, none⟩) (K + 1) c] 25).alloc (.cells #[.int .i64 sz] 3)
  have K2 := (bk_newI (w.alloc (.cells #[.slice (some ⟨b, off, none⟩) (K + 1) c] 25)) #[.int .i64 sz] 3 (H := w.heap.size + 1) (by simp))
  have HH := Lib.hid h
  have HR := Lib.hid hr
  have hS : decide (1 ≤ sz ∧ sz ≤ 256) = true := by rw [decide_eq_true_iff]; exact hs
  have hl : l.length = K + 1 := h.len.symm
  have HL := Lib.hid hl
  obtain ⟨T, hT, hcnt, hTp⟩ := fi_thresh l K sz hl
  have hbest := best_of (fun i : Fin (K + 1) => i.val) (fiS l K) (fiS_holds l K hl).2.1 (fiS_holds l K hl).2.2 hTp
  have HB1 := Lib.hid hbest.1
  have HB2 := Lib.hid hbest.2
  have HCN := Lib.hid hcnt
  have hsz20 : (fiS l K).size ≤ 20 := by rw [(fiS_holds l K hl).1]; have := fiN_le l (K + 1); omega
  clear h hv hs hr hl hcnt hTp hbest
  go_enter Try.func18, Try.ntmps18
  go_wp2_with fail
  refine HC.out.mono ?_
  rintro e w1 ⟨rfl, hb⟩
  have M1 := K1.below hb (by simp; omega)
  have M2 := K2.below hb (by simp)
  have c1 : w1.cell? ⟨w.heap.size, 0, none⟩ = some (.slice (some ⟨b, off, none⟩) (K + 1) c) := M1.cell 0
  have c2 : w1.cell? ⟨w.heap.size + 1, 0, none⟩ = some (.int .i64 sz) := M2.cell 0
  have B1 := BX.trans (hb.mono BX.size)
  have HL1 := Lib.hid (HH.out.up B1 (Nat.le_refl _) B1.size)
  clear HC K1 K2 hb BX
  go_wp2_with fail
  refine (isTotal_any _ _).mono ?_
  rintro e w' ⟨rfl, rfl⟩
  go_wp2_with fail
  refine (bySize_any b off c K l w1 HL1.out hK).mono ?_
  rintro e w2 ⟨gr, cp, rfl, hrow, b2⟩
  obtain ⟨m, hm⟩ : ∃ m, (fiS l K).size = m := ⟨_, rfl⟩
  have HRow := Lib.hid hrow
  have HMM := Lib.hid hm
  rw [hm] at hT hsz20 ⊢
  have N1 := M1.below b2 M1.lt
  have N2 := M2.below b2 M2.lt
  have B2 := B1.trans (b2.mono B1.size)
  have R1 := N1.alloc (.cells #[.slice (some ⟨gr, 0, none⟩) m cp] 50)
  have R2 := N2.alloc (.cells #[.slice (some ⟨gr, 0, none⟩) m cp] 50)
  have R3 := Bk.new w2 #[.slice (some ⟨gr, 0, none⟩) m cp] 50
  have B3 := B2.alloc B2.size (.cells #[.slice (some ⟨gr, 0, none⟩) m cp] 50)
  obtain ⟨W, hW⟩ : ∃ W : World, w2.alloc (.cells #[.slice (some ⟨gr, 0, none⟩) m cp] 50) = W := ⟨_, rfl⟩
  have hrw : ∀ j, j < m → W.cell? ⟨gr, j, none⟩ = some (.int .i64 ((fiS l K)[j]!.val : Int)) := fun j hj => by
    have h1 := HRow.out j (by rw [HMM.out]; exact hj)
    rw [← hW]
    exact (Below.cell ((Below.refl w2.heap.size w2).alloc (Nat.le_refl _) (.cells #[.slice (some ⟨gr, 0, none⟩) m cp] 50)) (p := ⟨gr, j, none⟩) (World.block_lt_of_cell? _ _ h1)).trans h1
  rw [hW] at R1 R2 R3 B3
  have d1 : W.cell? ⟨w.heap.size, 0, none⟩ = some (.slice (some ⟨b, off, none⟩) (K + 1) c) := R1.cell 0
  have d2 : W.cell? ⟨w.heap.size + 1, 0, none⟩ = some (.int .i64 sz) := R2.cell 0
  have d3 : W.cell? ⟨w2.heap.size, 0, none⟩ = some (.slice (some ⟨gr, 0, none⟩) m cp) := R3.cell 0
  have CS := Any.sort_Search srch 47 #[.pointer (some ⟨w.heap.size, 0, none⟩), .pointer (some ⟨w2.heap.size, 0, none⟩), .pointer (some ⟨w.heap.size + 1, 0, none⟩)] m (fun i => decide (sz ≤ (bk l (fiS l K)[i]!.val).z)) W (enters_of Try.func47 (by kernel_rfl) rfl) (by omega)
    (fun m' os i hi => by
      have hx := ((fiS l K)[i]!).isLt
      obtain ⟨b', off', e', hbb, _, e1, _⟩ := (HH.out.below B3 (Nat.le_refl _)).cells (fiS l K)[i]!.val hx
      simp only [Option.some.injEq, Addr.mk.injEq, and_true] at e'
      obtain ⟨rfl, rfl⟩ := e'
      have r1 := hrw i hi
      exact less_big w.heap.size w2.heap.size (w.heap.size + 1) b off (K + 1) c gr 0 m cp i _ _ sz _ (cell_grown R1.lt d1 m' os) (cell_grown R3.lt d3 m' os) (cell_grown R2.lt d2 m' os) (by rw [Nat.zero_add]; exact cell_grown (World.block_lt_of_cell? _ _ r1) r1 m' os) (cell_grown (World.block_lt_of_cell? _ _ e1) e1 m' os) hi hx)
    (fun p q hpq hq h => fi_mono l K sz HL.out p q hpq (by rw [HMM.out]; exact hq) h)
  rw [← HMM.out, HCN.out, HMM.out] at CS
  have HCS := Lib.hid CS
  have HD3 := Lib.hid (fun (q : Nat) (os : Array Obj) => cell_grown R3.lt d3 q os)
  have HRW := Lib.hid hrw
  clear CS hrow hm M1 M2 N1 N2 R1 R2 hrw b2 B1 c1 c2
  go_wp2_with fail
  refine HCS.out.mono ?_
  rintro e w4 ⟨rfl, q, os, rfl⟩
  have e3 := HD3.out q os
  have B4 := B3.trans ((below_grown_sl W.heap.size W q os (Nat.le_refl _)).mono B3.size)
  by_cases hTm : T < m
  · have hq := HB1.out (by rw [HMM.out]; exact hTm)
    have HE := Lib.hid (BestR_uniq (.inr ⟨_, rfl, hq⟩) HR.out)
    have r1 := HRW.out T hTm
    have e4 := cell_grown (World.block_lt_of_cell? _ _ r1) r1 q os
    have i1 : (0 : Int) ≤ (T : Int) := by omega
    have i2 : (T : Int) < (m : Int) := by omega
    have i3 : ((T : Int) == (m : Int)) = false := by rw [beq_eq_false_iff_ne]; omega
    have i4 : (T == m) = false := by rw [beq_eq_false_iff_ne]; omega
    have i5 : ¬ T = m := by omega
    clear hq r1 hW
    go_wp2
    go_ret
    exact ⟨by rw [← HE.out]; rfl, B4⟩
  · obtain rfl : T = m := by omega
    have HE := Lib.hid (BestR_uniq (.inl ⟨rfl, HB2.out (by rw [HMM.out]; exact Nat.le_refl _)⟩) HR.out)
    clear hW
    go_wp2
    go_ret
    exact ⟨by rw [← HE.out]; rfl, B4⟩

end Go.Proofs.Ytidkejmphhpjlaa.Wk
