/- BitsFind, of the program and of the reference; whether words are free. Conditions: a list that a slice of bools reads as. -/
import Derived.Test.YtkgaajploobjdaaDoorBm
namespace Go.Proofs.YtkgaajploobjdaaDoor.Wb
open Go.RowKit Go.Proofs.YtkgaajploobjdaaDoor.Pl Go.Proofs.YtkgaajploobjdaaDoor.Wk

theorem isMany_any (m : Int) (w : World) : Calls Tryd.prog 21 #[.int .i64 m] w fun e w' => e = .returned (.bool (decide (1 ≤ m ∧ m ≤ 64))) ∧ w = w' := by
  by_cases h1 : 1 ≤ m <;> by_cases h2 : m ≤ 64
  all_goals
    go_enter Tryd.func21, Tryd.ntmps21
    go_wp2
    go_ret
    exact ⟨by simp [h1, h2], rfl⟩
theorem many_yes (m : Int) (w : World) (h : 1 ≤ m ∧ m ≤ 64) : Calls Tryd.prog 21 #[.int .i64 m] w fun e w' => e = .returned (.bool true) ∧ w = w' := by
  refine (isMany_any m w).mono ?_
  rintro e w' ⟨rfl, rfl⟩
  exact ⟨by simp [h], rfl⟩
theorem many_no (m : Int) (w : World) (h : m < 1 ∨ 64 < m) : Calls Tryd.prog 21 #[.int .i64 m] w fun e w' => e = .returned (.bool false) ∧ w = w' := by
  refine (isMany_any m w).mono ?_
  rintro e w' ⟨rfl, rfl⟩
  exact ⟨by have : ¬ (1 ≤ m ∧ m ≤ 64) := by omega
            simp [this], rfl⟩
theorem in_yes (n lo hi : Int) (w : World) (h : lo ≤ n ∧ n ≤ hi) : Calls Tryd.prog 23 #[.int .i64 n, .int .i64 lo, .int .i64 hi] w fun e w' => e = .returned (.bool true) ∧ w = w' := by
  refine (l1In_any n lo hi w).mono ?_
  rintro e w' ⟨rfl, rfl⟩
  exact ⟨by simp [h], rfl⟩
theorem in_no (n lo hi : Int) (w : World) (h : n < lo ∨ hi < n) : Calls Tryd.prog 23 #[.int .i64 n, .int .i64 lo, .int .i64 hi] w fun e w' => e = .returned (.bool false) ∧ w = w' := by
  refine (l1In_any n lo hi w).mono ?_
  rintro e w' ⟨rfl, rfl⟩
  exact ⟨by have : ¬ (lo ≤ n ∧ n ≤ hi) := by omega
            simp [this], rfl⟩

theorem FindR_ex (l : List Bool) (m : Nat) : ∃ r : Int, FindR l m r := by
  by_cases h : ∃ k : Nat, k + m ≤ l.length ∧ AllAt l k m false
  · obtain ⟨k, hk⟩ := h
    induction k using Nat.strongRecOn with
    | _ k ih =>
      by_cases h2 : ∃ j : Nat, j < k ∧ AllAt l j m false
      · obtain ⟨j, h3, h4⟩ := h2
        exact ih j h3 ⟨by omega, h4⟩
      · exact ⟨k, .inr ⟨k, rfl, hk.1, hk.2, fun j hj ha => h2 ⟨j, hj, ha⟩⟩⟩
  · exact ⟨-1, .inl ⟨rfl, fun k h1 h2 => h ⟨k, h1, h2⟩⟩⟩

theorem iFind_no (A : Option Addr) (n c : Nat) (m : Int) (w : World) (hnm : n ≤ 1125899906842624) (hv : 64 < n ∨ m < 1 ∨ 64 < m) :
    Calls Tryd.prog 12 #[.slice A n c, .int .i64 m] w fun e w' => e = .returned (.int .i64 (-1)) ∧ Below w.heap.size w w' := by
  by_cases hn : 64 < n
  · have hn2 : (64 : Int) < n := by omega
    clear hv
    go_enter Tryd.func12, Tryd.ntmps12
    go_wp2
    go_ret
    exact ⟨rfl, Below.refl _ _⟩
  · have hn2 : ¬ (64 : Int) < n := by omega
    have hv2 := hv.resolve_left hn
    clear hv
    go_enter Tryd.func12, Tryd.ntmps12
    go_wp2_with (refine (many_no _ _ hv2).mono ?_; rintro e w' ⟨rfl, rfl⟩)
    go_ret
    exact ⟨rfl, Below.refl _ _⟩

set_option maxHeartbeats 2000000 in
theorem iFind_yes (A : Option Addr) (n c M : Nat) (l : List Bool) (r : Int) (w : World) (h : Lst w w.heap.size A n l) (hn : n ≤ 64) (hm1 : 1 ≤ M) (hm2 : M ≤ 64) (hr : FindR l M r) :
    Calls Tryd.prog 12 #[.slice A n c, .int .i64 M] w fun e w' => e = .returned (.int .i64 r) ∧ Below w.heap.size w w' := by
  have HN := Lib.hid h.len
  have HR := Lib.hid hr
  have hn2 : ¬ (64 : Int) < n := by omega
  have q0 : ((0 : Int) == (M : Int)) = false := by rw [beq_eq_false_iff_ne]; omega
  clear hr
  go_enter Tryd.func12, Tryd.ntmps12
  go_wp2_with (refine (many_yes _ _ (by omega)).mono ?_; rintro e w' ⟨rfl, rfl⟩)
  go_loopw [5, 18] (fun v i wr => ∃ k x : Nat, k ≤ n ∧ i = .int .i64 k ∧ v = .int .i64 x ∧ x = trail (l.take k) ∧ x ≤ k ∧ (∀ e : Nat, e ≤ k → trail (l.take e) < M) ∧ Below w.heap.size w wr) (fun _ i _ => n - (intOf i).toNat)
  case atStart =>
    refine ⟨0, 0, Nat.zero_le _, rfl, rfl, rfl, Nat.le_refl _, fun e he => ?_, Below.refl _ _⟩
    obtain rfl : e = 0 := by omega
    rw [List.take_zero, trail_nil]; omega
  case round =>
    obtain ⟨k, x, hk, rfl, rfl, hx, hxk, ha, hb⟩ := hrel
    have HX := Lib.hid hx
    have HA := Lib.hid ha
    clear hx ha
    by_cases hlt : k < n
    · have hkl : k < l.length := by have := HN.out; omega
      obtain ⟨b, off, rfl, hbb, c0⟩ := (h.below hb (Nat.le_refl _)).cells k hlt
      have hbn := hb
      have HT := Lib.hid (show trail (l.take (k + 1)) = if ub l k then 0 else x + 1 by rw [ub_take_succ hkl, trail_snoc, ← HX.out])
      by_cases hu : ub l k = true
      · rw [hu] at c0 HT
        have hT2 : trail (l.take (k + 1)) = 0 := by rw [HT.out]; rfl
        have HT2 := Lib.hid hT2
        have HA2 := Lib.hid (show ∀ e : Nat, e ≤ k + 1 → trail (l.take e) < M from fun e he => by
          by_cases e1 : e = k + 1
          · subst e1; rw [HT2.out]; omega
          · exact HA.out e (by omega))
        clear hu HT hT2
        go_wp2
        go_roundw
        case rel => exact ⟨k + 1, 0, by omega, by go_num, rfl, HT2.out.symm, by omega, HA2.out, hbn⟩
        case measure => simp [intOf]; omega
      · have hu2 : ub l k = false := by simpa using hu
        rw [hu2] at c0 HT
        have hT2 : trail (l.take (k + 1)) = x + 1 := by rw [HT.out]; rfl
        have HT2 := Lib.hid hT2
        clear hu hu2 HT hT2
        by_cases he : x + 1 = M
        · have HF := Lib.hid (FindR_uniq HR.out (find_hit hkl HA.out (by rw [HT2.out, he])).2)
          have q1 : ((x : Int) + 1 == (M : Int)) = true := by rw [beq_iff_eq]; omega
          clear he
          go_wp2
          go_ret
          exact ⟨by rw [HF.out]; rfl, hbn⟩
        · have q1 : ((x : Int) + 1 == (M : Int)) = false := by rw [beq_eq_false_iff_ne]; omega
          have hxM : x + 1 < M := by have := HA.out k (Nat.le_refl _); rw [← HX.out] at this; omega
          have HA2 := Lib.hid (show ∀ e : Nat, e ≤ k + 1 → trail (l.take e) < M from fun e he => by
            by_cases e1 : e = k + 1
            · subst e1; rw [HT2.out]; omega
            · exact HA.out e (by omega))
          clear he
          go_wp2
          go_roundw
          case rel => exact ⟨k + 1, x + 1, by omega, by go_num, by go_num, HT2.out.symm, by omega, HA2.out, hbn⟩
          case measure => simp [intOf]; omega
    · have hkn : k = n := by omega
      have HF := Lib.hid (FindR_uniq HR.out (find_miss (fun e he => HA.out e (by have := HN.out; omega))))
      subst hkn
      go_wp2
      go_ret
      exact ⟨by rw [HF.out]; rfl, hb⟩

set_option maxHeartbeats 2000000 in
/-- Whether words are free. -/
theorem free_any (A : Option Addr) (n c s M : Nat) (l : List Bool) (b : Bool) (w : World) (h : Lst w w.heap.size A n l) (hn : n ≤ 64) (hs : s + M ≤ n) (hb : b = true ↔ AllAt l s M false) :
    Calls Tryd.prog 24 #[.slice A n c, .int .i64 s, .int .i64 M] w fun e w' => e = .returned (.bool b) ∧ Below w.heap.size w w' := by
  have HB := Lib.hid hb
  have HN := Lib.hid h.len
  clear hb
  go_enter Tryd.func24, Tryd.ntmps24
  go_wp2
  go_loopw [7] (fun i wr => ∃ j : Nat, j ≤ M ∧ i = .int .i64 (((s + j : Nat) : Int)) ∧ AllAt l s j false ∧ Below w.heap.size w wr) (fun i _ => s + M - (intOf i).toNat)
  case atStart => exact ⟨0, Nat.zero_le _, rfl, AllAt_zero _ _ _, Below.refl _ _⟩
  case round =>
    obtain ⟨j, hj, rfl, ha, hbl⟩ := hrel
    have HA := Lib.hid ha
    clear ha
    by_cases hlt : j < M
    · obtain ⟨k, hk⟩ : ∃ k : Nat, k = s + j := ⟨_, rfl⟩
      rw [← hk]
      have hkn : k < n := by omega
      have hk3 : (k : Int) < (s : Int) + (M : Int) := by omega
      have HK := Lib.hid hk
      clear hk
      obtain ⟨b', off, rfl, hbb, c0⟩ := (h.below hbl (Nat.le_refl _)).cells k hkn
      have hbn := hbl
      by_cases hu : ub l k = true
      · have HF := Lib.hid (show b = false by
          cases b
          · rfl
          · have e := HK.out
            have := HB.out.1 rfl k (by omega) (by omega)
            rw [hu] at this; cases this)
        rw [hu] at c0
        clear hu
        go_wp2
        go_ret
        exact ⟨by rw [HF.out]; rfl, hbn⟩
      · have hu2 : ub l k = false := by simpa using hu
        have HA2 := Lib.hid (AllAt_succ HA.out (by rw [← HK.out]; exact hu2))
        rw [hu2] at c0
        clear hu hu2
        go_wp2
        go_roundw
        case rel => exact ⟨j + 1, by omega, by have e := HK.out; go_num, HA2.out, hbn⟩
        case measure => have e := HK.out; simp [intOf]; omega
    · have hjM : j = M := by omega
      subst hjM
      have HF := Lib.hid (HB.out.2 HA.out)
      have hk3 : ¬ ((s + j : Nat) : Int) < (s : Int) + (j : Int) := by omega
      go_wp2
      go_ret
      exact ⟨by rw [HF.out]; rfl, hbl⟩

theorem sFind_no (A : Option Addr) (n c : Nat) (m : Int) (w : World) (hnm : n ≤ 1125899906842624) (hv : 64 < n ∨ m < 1 ∨ 64 < m) :
    Calls Tryd.prog 14 #[.slice A n c, .int .i64 m] w fun e w' => e = .returned (.int .i64 (-1)) ∧ Below w.heap.size w w' := by
  by_cases hm : m < 1 ∨ 64 < m
  · clear hv
    go_enter Tryd.func14, Tryd.ntmps14
    go_wp2_with (refine (in_no _ _ _ _ hm).mono ?_; rintro e w' ⟨rfl, rfl⟩)
    go_ret
    exact ⟨rfl, Below.refl _ _⟩
  · have hn2 : (64 : Int) < n := by omega
    have hm2 : 1 ≤ m ∧ m ≤ 64 := by omega
    clear hv hm
    go_enter Tryd.func14, Tryd.ntmps14
    go_wp2_with (refine (in_yes _ _ _ _ hm2).mono ?_; rintro e w' ⟨rfl, rfl⟩)
    go_ret
    exact ⟨rfl, Below.refl _ _⟩

set_option maxHeartbeats 2000000 in
theorem sFind_yes (A : Option Addr) (n c M : Nat) (l : List Bool) (r : Int) (w : World) (h : Lst w w.heap.size A n l) (hn : n ≤ 64) (hm1 : 1 ≤ M) (hm2 : M ≤ 64) (hr : FindR l M r) :
    Calls Tryd.prog 14 #[.slice A n c, .int .i64 M] w fun e w' => e = .returned (.int .i64 r) ∧ Below w.heap.size w w' := by
  have HN := Lib.hid h.len
  have HR := Lib.hid hr
  have hn2 : ¬ (64 : Int) < n := by omega
  clear hr
  go_enter Tryd.func14, Tryd.ntmps14
  go_wp2_with (refine (in_yes _ _ _ _ (by omega)).mono ?_; rintro e w' ⟨rfl, rfl⟩)
  go_loopw [5] (fun i wr => ∃ k : Nat, k ≤ n ∧ i = .int .i64 k ∧ (∀ j : Nat, j < k → ¬ AllAt l j M false) ∧ Below w.heap.size w wr) (fun i _ => n + 1 - (intOf i).toNat)
  case atStart => exact ⟨0, Nat.zero_le _, rfl, fun j hj => by omega, Below.refl _ _⟩
  case round =>
    obtain ⟨k, hk, rfl, ha, hb⟩ := hrel
    have HA := Lib.hid ha
    clear ha
    by_cases hlt : k + M ≤ n
    · have hlt2 : (k : Int) + (M : Int) ≤ (n : Int) := by omega
      have hL := h.below hb (Nat.le_refl _)
      have hLup := Lib.hid (lst_up h hb)
      clear hL
      by_cases hf : AllAt l k M false
      · have HF := Lib.hid (FindR_uniq HR.out (.inr ⟨k, rfl, by have := HN.out; omega, hf, HA.out⟩))
        have HC := Lib.hid (free_any A n c k M l true wr hLup.out hn hlt (by simp [hf]))
        clear hf
        go_wp2_with fail
        refine HC.out.mono ?_
        rintro e w2 ⟨rfl, hb2⟩
        go_wp2
        go_ret
        exact ⟨by rw [HF.out]; rfl, hb.trans (hb2.mono hb.size)⟩
      · have HC := Lib.hid (free_any A n c k M l false wr hLup.out hn hlt (by simp [hf]))
        have HA2 := Lib.hid (show ∀ j : Nat, j < k + 1 → ¬ AllAt l j M false from fun j hj => by
          by_cases e1 : j = k
          · subst e1; exact hf
          · exact HA.out j (by omega))
        clear hf
        go_wp2_with fail
        refine HC.out.mono ?_
        rintro e w2 ⟨rfl, hb2⟩
        go_wp2
        go_roundw
        case rel => exact ⟨k + 1, by omega, by go_num, HA2.out, hb.trans (hb2.mono hb.size)⟩
        case measure => simp [intOf]; omega
    · have hlt2 : ¬ (k : Int) + (M : Int) ≤ (n : Int) := by omega
      have HF := Lib.hid (FindR_uniq HR.out (.inl ⟨rfl, fun j hj => HA.out j (by have := HN.out; omega)⟩))
      go_wp2
      go_ret
      exact ⟨by rw [HF.out]; rfl, hb⟩

end Go.Proofs.YtkgaajploobjdaaDoor.Wb
