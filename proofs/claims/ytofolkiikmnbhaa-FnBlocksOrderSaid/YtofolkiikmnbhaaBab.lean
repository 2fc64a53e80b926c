/- BlockAt, of the program and of the reference: the contracts. Conditions: none. -/
import Derived.Test.YtofolkiikmnbhaaBat
import Derived.Test.YtofolkiikmnbhaaSl
namespace Go.Proofs.Ytofolkiikmnbhaa.Wk
open Go.RowKit Go.Proofs.Ytofolkiikmnbhaa.Pl

theorem sAt_inv (A : Option Addr) (n c : Nat) (l : List Blk) (t x : Int) (w : World) (h : Lst w w.heap.size A n l) (hv : ¬ V l t) (hnm : n ≤ 1125899906842624) :
    Calls Try.prog 52 #[.slice A n c, .int .i64 t, .int .i64 x] w fun e w' => e = .returned (.int .i64 (-1)) ∧ Below w.heap.size w w' := by
  have HC := Lib.hid (sValid_no A n c l t w h hv hnm)
  clear h hv
  by_cases h0 : n = 0
  · subst h0
    go_enter Try.func52, Try.ntmps52
    go_wp2
    refine wp_loop_rounds 1 ?_
    rw [rounds_succ]
    go_wp2
    go_ret
    exact ⟨rfl, Below.refl _ _⟩
  · have hn : (0 : Int) < (n : Int) := by omega
    have hn2 : 0 < n := by omega
    clear h0
    go_enter Try.func52, Try.ntmps52
    go_wp2
    refine wp_loop_rounds 1 ?_
    rw [rounds_succ]
    go_wp2_with fail
    refine HC.out.mono ?_
    rintro e w1 ⟨rfl, hb⟩
    go_wp2
    go_ret
    exact ⟨rfl, hb⟩

set_option maxHeartbeats 2000000 in
theorem sAt_yes (b off n c : Nat) (l : List Blk) (t x r : Int) (w : World) (h : Lst w w.heap.size (some ⟨b, off, none⟩) n l) (hv : V l t) (hr : BAt l x r) :
    Calls Try.prog 52 #[.slice (some ⟨b, off, none⟩) n c, .int .i64 t, .int .i64 x] w fun e w' => e = .returned (.int .i64 r) ∧ Below w.heap.size w w' := by
  obtain ⟨hl, ht2, ht1⟩ := V_len hv
  have hn1 : n ≤ 256 := by have := h.len; omega
  have HN := Lib.hid h.len
  have HV := Lib.hid hv
  have HH := Lib.hid h
  have HR := Lib.hid hr
  clear h hv hr
  go_enter Try.func52, Try.ntmps52
  go_wp2
  go_loopw [7] (fun i wr => ∃ k : Nat, k ≤ n ∧ i = .int .i64 k ∧ (∀ j : Nat, j < k → ¬ AtW l x j) ∧ Below w.heap.size w wr) (fun i _ => n - (intOf i).toNat)
  case atStart => exact ⟨0, Nat.zero_le _, rfl, fun j hj => by omega, Below.refl _ _⟩
  case round =>
    obtain ⟨k, hk, rfl, hno, hb⟩ := hrel
    have HO := Lib.hid hno
    clear hno
    by_cases hlt : k < n
    · have hkl : k < l.length := by have := HN.out; omega
      go_wp2_with fail
      refine (sValid_yes _ n c l t wr (HH.out.up hb (Nat.le_refl _) hb.size) HV.out).mono ?_
      rintro e w1 ⟨rfl, b1⟩
      have B1 := hb.trans (b1.mono hb.size)
      obtain ⟨b', off', e', hbb, c0, c1, c2⟩ := (HH.out.below B1 (Nat.le_refl _)).cells k hlt
      simp only [Option.some.injEq, Addr.mk.injEq, and_true] at e'
      obtain ⟨rfl, rfl⟩ := e'
      obtain ⟨j1, j2, j3⟩ := V_blk HV.out hkl
      clear hb b1
      have i1 : (0 : Int) ≤ (k : Int) := by omega
      have i2 : (k : Int) < (n : Int) := by omega
      by_cases hx : (bk l k).s ≤ x ∧ x ≤ (bk l k).s + (bk l k).z - 1
      · have HF := Lib.hid (BAt_hit HV.out HR.out ⟨hkl, hx.1, by omega⟩)
        have CC := Lib.hid (fun w => (l1In_yes x (bk l k).s ((bk l k).s + (bk l k).z - 1) w hx).mono (fun _ _ ⟨a, b⟩ => (⟨a, b.symm⟩ : _ ∧ _)))
        have q1 : IntKind.i64.wrap ((bk l k).s + (bk l k).z) = (bk l k).s + (bk l k).z := IntWalk.i64_in _ (by omega)
        have q2 : IntKind.i64.wrap ((bk l k).s + (bk l k).z - 1) = (bk l k).s + (bk l k).z - 1 := IntWalk.i64_in _ (by omega)
        clear hx
        go_wp2
        go_quiet ((go_at_call 73; exact Calls.quiet_of_same (CC.out _)))
        go_wp2
        go_ret
        exact ⟨by rw [HF.out]; rfl, ⟨B1.os, B1.tape, B1.output, B1.size, B1.block⟩⟩
      · have CC := Lib.hid (fun w => (l1In_no x (bk l k).s ((bk l k).s + (bk l k).z - 1) w (by omega)).mono (fun _ _ ⟨a, b⟩ => (⟨a, b.symm⟩ : _ ∧ _)))
        have HS : RowKit.Hid (∀ j : Nat, j < k + 1 → ¬ AtW l x j) := Lib.hid (fun j hj ha => by
          by_cases e : j = k
          · subst e; have h1 := ha.2.1; have h2 := ha.2.2; omega
          · exact HO.out j (by omega) ha)
        have q1 : IntKind.i64.wrap ((bk l k).s + (bk l k).z) = (bk l k).s + (bk l k).z := IntWalk.i64_in _ (by omega)
        have q2 : IntKind.i64.wrap ((bk l k).s + (bk l k).z - 1) = (bk l k).s + (bk l k).z - 1 := IntWalk.i64_in _ (by omega)
        clear hx
        go_wp2
        go_quiet ((go_at_call 73; exact Calls.quiet_of_same (CC.out _)))
        clear q1 q2
        go_wp2
        go_roundw
        case rel => exact ⟨k + 1, by omega, by go_num, HS.out, ⟨B1.os, B1.tape, B1.output, B1.size, B1.block⟩⟩
        case measure => simp [intOf]; omega
    · have hkn : k = n := by omega
      subst hkn
      have HF := Lib.hid (BAt_miss HR.out (fun j hj => HO.out j (by have := HN.out; omega)))
      clear hlt
      go_wp2
      go_ret
      exact ⟨by rw [HF.out]; rfl, hb⟩

theorem iAt_inv (A : Option Addr) (n c : Nat) (l : List Blk) (t x : Int) (w : World) (h : Lst w w.heap.size A n l) (hv : ¬ V l t) (hnm : n ≤ 1125899906842624) :
    Calls Try.prog 53 #[.slice A n c, .int .i64 t, .int .i64 x] w fun e w' => e = .returned (.int .i64 (-1)) ∧ Below w.heap.size w w' := by
  have BX := ((Below.refl w.heap.size w).alloc (Nat.le_refl _) (.cells #[.slice A n c] 25)).alloc (by simp) (.cells #[.int .i64 x] 3)
  have HC := Lib.hid (iValid_no A n c l t _ (h.up BX (Nat.le_refl _) BX.size) hv hnm)
  clear h hv
  go_enter Try.func53, Try.ntmps53
  go_wp2_with fail
  refine HC.out.mono ?_
  rintro e w1 ⟨rfl, hb⟩
  go_wp2
  go_ret
  exact ⟨rfl, BX.trans (hb.mono BX.size)⟩

theorem iAt_out (b off n c : Nat) (l : List Blk) (t x : Int) (w : World) (h : Lst w w.heap.size (some ⟨b, off, none⟩) n l) (hv : V l t) (hx : x < 0 ∨ t ≤ x) :
    Calls Try.prog 53 #[.slice (some ⟨b, off, none⟩) n c, .int .i64 t, .int .i64 x] w fun e w' => e = .returned (.int .i64 (-1)) ∧ Below w.heap.size w w' := by
  have BX := ((Below.refl w.heap.size w).alloc (Nat.le_refl _) (.cells #[.slice (some ⟨b, off, none⟩) n c] 25)).alloc (by simp) (.cells #[.int .i64 x] 3)
  have HC := Lib.hid (iValid_yes _ n c l t _ (h.up BX (Nat.le_refl _) BX.size) hv)
  have K2 := (Bk.newH (w.alloc (.cells #[.slice (some ⟨b, off, none⟩) n c] 25)) #[.int .i64 x] 3 (H := w.heap.size + 1) (by simp))
  clear h hv
  have hx' : x < 0 ∨ (¬ x < 0 ∧ t ≤ x) := by omega
  clear hx
  rcases hx' with hx | ⟨hx0, hx⟩
  all_goals
    go_enter Try.func53, Try.ntmps53
    go_wp2_with fail
    refine HC.out.mono ?_
    rintro e w1 ⟨rfl, hb⟩
    have c2 := (K2.below hb (by simp)).cell 0
    go_wp2
    go_ret
    exact ⟨rfl, BX.trans (hb.mono BX.size)⟩

set_option maxHeartbeats 2000000 in
theorem iAt_in (b off n c k : Nat) (l : List Blk) (t x : Int) (w : World) (h : Lst w w.heap.size (some ⟨b, off, none⟩) n l) (hv : V l t) (hx0 : 0 ≤ x) (hx1 : x < t) (hk : AtW l x k) :
    Calls Try.prog 53 #[.slice (some ⟨b, off, none⟩) n c, .int .i64 t, .int .i64 x] w fun e w' => e = .returned (.int .i64 k) ∧ Below w.heap.size w w' := by
  have hn1 : n ≤ 256 := by have := h.len; have := V_len hv; omega
  have hkn : k < n := by have := h.len; have := hk.1; omega
  have BX := ((Below.refl w.heap.size w).alloc (Nat.le_refl _) (.cells #[.slice (some ⟨b, off, none⟩) n c] 25)).alloc (by simp) (.cells #[.int .i64 x] 3)
  have HC := Lib.hid (iValid_yes _ n c l t _ (h.up BX (Nat.le_refl _) BX.size) hv)
  have K1 := (Bk.new w #[.slice (some ⟨b, off, none⟩) n c] 25).alloc (.cells #[.int .i64 x] 3)
  have K2 := (Bk.newH (w.alloc (.cells #[.slice (some ⟨b, off, none⟩) n c] 25)) #[.int .i64 x] 3 (H := w.heap.size + 1) (by simp))
  have HH := Lib.hid h
  have HV := Lib.hid hv
  have HK := Lib.hid hk
  clear h hv hk
  go_enter Try.func53, Try.ntmps53
  go_wp2_with fail
  refine HC.out.mono ?_
  rintro e w1 ⟨rfl, hb⟩
  have M1 := K1.below hb (by simp; omega)
  have M2 := K2.below hb (by simp)
  have c1 : w1.cell? ⟨w.heap.size, 0, none⟩ = some (.slice (some ⟨b, off, none⟩) n c) := M1.cell 0
  have c2 : w1.cell? ⟨w.heap.size + 1, 0, none⟩ = some (.int .i64 x) := M2.cell 0
  have B1 := BX.trans (hb.mono BX.size)
  have CS := Lib.hid (Any.sort_Search srch 84 #[.pointer (some ⟨w.heap.size, 0, none⟩), .pointer (some ⟨w.heap.size + 1, 0, none⟩)] n (fun i => decide (x < (bk l i).s)) w1 (enters_of Try.func84 (by kernel_rfl) rfl) (by omega)
    (fun m os i hi => by
      obtain ⟨b', off', e', hbb, d0, _, _⟩ := (HH.out.below B1 (Nat.le_refl _)).cells i hi
      simp only [Option.some.injEq, Addr.mk.injEq, and_true] at e'
      obtain ⟨rfl, rfl⟩ := e'
      have h1 := M1.lt
      have h2 := M2.lt
      exact at_less b off n c _ _ i x _ _ (cell_grown h1 c1 m os) (cell_grown h2 c2 m os) (cell_grown (World.block_lt_of_cell? _ _ d0) d0 m os) hi)
    (fun p q hpq hq h => at_mono HV.out p q hpq (by have := HH.out.len; omega) h))
  have hcnt : (List.range n).countP (fun i => !decide (x < (bk l i).s)) = k + 1 := by have := count_at HV.out HK.out; rw [← HH.out.len] at this; exact this
  rw [hcnt] at CS
  clear hcnt HC K1 K2 M1 M2 hb
  go_wp2_with fail
  refine CS.out.mono ?_
  rintro e w2 ⟨rfl, q, os, rfl⟩
  go_wp2
  go_ret
  exact ⟨by first | rfl | (congr 2; omega), B1.trans ((below_grown_sl w1.heap.size w1 q os (Nat.le_refl _)).mono B1.size)⟩

end Go.Proofs.Ytofolkiikmnbhaa.Wk
