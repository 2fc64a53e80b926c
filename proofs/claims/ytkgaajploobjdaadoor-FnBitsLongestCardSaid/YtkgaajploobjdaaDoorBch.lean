/- Changing words of a bitmap, by the program. Conditions: a list that a slice of bools reads as. -/
import Derived.Test.YtkgaajploobjdaaDoorBfd
import Derived.Test.YtkgaajploobjdaaDoorBcl
namespace Go.Proofs.YtkgaajploobjdaaDoor.Wb
open Go.RowKit Go.Proofs.YtkgaajploobjdaaDoor.Pl Go.Proofs.YtkgaajploobjdaaDoor.Wk

theorem iChg_inv (A : Option Addr) (n c : Nat) (s m : Int) (u : Bool) (w : World) (hnm : n ≤ 1125899906842624) (hv : 64 < n ∨ m < 1 ∨ 64 < m) :
    Calls Tryd.prog 25 #[.slice A n c, .int .i64 s, .int .i64 m, .bool u] w (PostL [] (.bool false) w) := by
  by_cases hn : 64 < n
  · have hn2 : (64 : Int) < n := by omega
    clear hv
    go_enter Tryd.func25, Tryd.ntmps25
    go_wp2
    exact bodyPost_ret (v := .tuple #[.slice none 0 0, .bool false]) (by simp [results, Tryd.results25, go_sem]) rfl (postL_of ⟨_, rfl, Own.nil _ _, Below.refl _ _⟩)
  · have hn2 : ¬ (64 : Int) < n := by omega
    have hv2 := hv.resolve_left hn
    clear hv
    go_enter Tryd.func25, Tryd.ntmps25
    go_wp2_with (refine (many_no _ _ hv2).mono ?_; rintro e w' ⟨rfl, rfl⟩)
    exact bodyPost_ret (v := .tuple #[.slice none 0 0, .bool false]) (by simp [results, Tryd.results25, go_sem]) rfl (postL_of ⟨_, rfl, Own.nil _ _, Below.refl _ _⟩)

theorem iChg_out (A : Option Addr) (n c : Nat) (l : List Bool) (s m : Int) (u : Bool) (w : World) (h : Lst w w.heap.size A n l) (hn : n ≤ 64) (hm : 1 ≤ m ∧ m ≤ 64) (hs : s < 0 ∨ (n : Int) - m < s) :
    Calls Tryd.prog 25 #[.slice A n c, .int .i64 s, .int .i64 m, .bool u] w (PostL l (.bool false) w) := by
  have hn2 : ¬ (64 : Int) < n := by omega
  have HC := Lib.hid (clone_all A n c _ l w h (Nat.le_refl _) (by omega))
  clear h
  by_cases hs0 : s < 0
  · clear hs
    go_enter Tryd.func25, Tryd.ntmps25
    go_wp2_with (refine (many_yes _ _ hm).mono ?_; rintro e w' ⟨rfl, rfl⟩)
    refine HC.out.mono ?_
    rintro e w1 ⟨A1, c1, rfl, o1, b1⟩
    go_wp2
    exact bodyPost_ret (v := .tuple #[.slice A1 n c1, .bool false]) (by simp [results, Tryd.results25, go_sem]) rfl (postL_of ⟨_, rfl, o1, b1⟩)
  · have hs1 := hs.resolve_left hs0
    clear hs
    go_enter Tryd.func25, Tryd.ntmps25
    go_wp2_with (refine (many_yes _ _ hm).mono ?_; rintro e w' ⟨rfl, rfl⟩)
    refine HC.out.mono ?_
    rintro e w1 ⟨A1, c1, rfl, o1, b1⟩
    go_wp2
    exact bodyPost_ret (v := .tuple #[.slice A1 n c1, .bool false]) (by simp [results, Tryd.results25, go_sem]) rfl (postL_of ⟨_, rfl, o1, b1⟩)

set_option maxHeartbeats 4000000 in
theorem iChg_in (A : Option Addr) (n c s M : Nat) (l : List Bool) (u b : Bool) (R : List Bool) (w : World) (h : Lst w w.heap.size A n l) (hn : n ≤ 64) (hm1 : 1 ≤ M) (hs : s + M ≤ n)
    (hy : AllAt l s M (!u) → b = true ∧ R = setB l s M u) (hno : ¬ AllAt l s M (!u) → b = false ∧ R = l) :
    Calls Tryd.prog 25 #[.slice A n c, .int .i64 s, .int .i64 M, .bool u] w (PostL R (.bool b) w) := by
  have hn2 : ¬ (64 : Int) < n := by omega
  have hs0 : ¬ (s : Int) < 0 := by omega
  have hs1 : ¬ (n : Int) - M < s := by omega
  have HC := Lib.hid (clone_all A n c _ l w h (Nat.le_refl _) (by omega))
  have HN := Lib.hid h.len
  have HY := Lib.hid hy
  have HNO := Lib.hid hno
  clear hy hno
  go_enter Tryd.func25, Tryd.ntmps25
  go_wp2_with (refine (many_yes _ _ (by omega)).mono ?_; rintro e w' ⟨rfl, rfl⟩)
  refine HC.out.mono ?_
  rintro e w1 ⟨A1, c1, rfl, o1, b1⟩
  obtain ⟨g, rfl, hg1, hg2⟩ := (own_form o1).2 (by omega)
  have O1 := Lib.hid o1
  clear o1 HC
  go_wp2
  go_loopw [11] (fun i wr => ∃ j : Nat, j ≤ M ∧ i = .int .i64 (((s + j : Nat) : Int)) ∧ AllAt l s j (!u) ∧ Own wr w.heap.size (.slice (some ⟨g, 0, none⟩) n c1) (setB l s j u) ∧ Below w.heap.size w wr ∧ g < wr.heap.size) (fun i _ => s + M - (intOf i).toNat)
  case atStart => exact ⟨0, Nat.zero_le _, rfl, AllAt_zero _ _ _, by rw [setB_zero]; exact O1.out, b1, hg2⟩
  case round =>
    obtain ⟨j, hj, rfl, ha, ho, hbl, hg3⟩ := hrel
    have HA := Lib.hid ha
    clear ha
    by_cases hlt : j < M
    · obtain ⟨k, hk⟩ : ∃ k : Nat, k = s + j := ⟨_, rfl⟩
      have HK := Lib.hid hk
      rw [← hk]
      have hkn : k < n := by omega
      have hk3 : (k : Int) < (s : Int) + (M : Int) := by omega
      have HL := Lib.hid (h.below hbl (Nat.le_refl _))
      have ho2 := own_set ho k u
      have hst : (setB l s j u).set k u = setB l s (j + 1) u := by rw [hk]; exact setB_step (by have := HN.out; omega)
      rw [hst] at ho2
      have HO2 := Lib.hid ho2
      have hfz := own_frozen ho k
      have hcell : ∃ v, wr.cell? ⟨g, k, none⟩ = some v := by
        obtain ⟨b', off', e, _, cc⟩ := (own_lstn ho).cells k hkn
        injection e with e; injection e with e1 e2 _
        subst e1 e2
        rw [Nat.zero_add] at cc
        exact ⟨_, cc⟩
      obtain ⟨v0, hcell0⟩ := hcell
      clear hk hst ho2 ho
      obtain ⟨b', off, rfl, hbb, c0⟩ := HL.out.cells k hkn
      have hbn := hbl
      by_cases hu : ub l k = u
      · have HF := Lib.hid (HNO.out (fun hh => by
          have e := HK.out
          have := hh k (by omega) (by omega)
          rw [hu] at this; cases u <;> cases this))
        have HC2 := Lib.hid (clone_all (some ⟨b', off, none⟩) n c _ l wr (lst_up h hbl) (Nat.le_refl _) (by omega))
        rw [hu] at c0
        clear hu
        cases u
        all_goals
          go_wp2_with fail
          refine HC2.out.mono ?_
          rintro e w2 ⟨A2, c2, rfl, o2, b2⟩
          go_wp2
          refine bodyPost_ret (v := .tuple #[.slice A2 n c2, .bool false]) (by simp [results, Tryd.results25, go_sem]) rfl ?_
          rw [HF.out.1, HF.out.2]
          exact postL_of ⟨_, rfl, o2.mono hbn.size, hbn.trans (b2.mono hbn.size)⟩
      · have hu2 : ub l k = !u := by cases u <;> simpa using hu
        have HA2 := Lib.hid (AllAt_succ HA.out (by rw [← HK.out]; exact hu2))
        rw [hu2] at c0
        clear hu hu2
        cases u
        all_goals
          go_wp2
          go_roundw
          case rel => exact ⟨j + 1, by omega, by have e := HK.out; go_num, HA2.out, HO2.out, hbn.setCell (p := ⟨g, _, none⟩) hg1 _, by simp [World.setCell]; omega⟩
          case measure => have e := HK.out; simp [intOf]; omega
    · have hjM : j = M := by omega
      subst hjM
      have HF := Lib.hid (HY.out HA.out)
      have hk3 : ¬ ((s + j : Nat) : Int) < (s : Int) + (j : Int) := by omega
      have HO2 := Lib.hid ho
      clear ho
      go_wp2
      refine bodyPost_ret (v := .tuple #[.slice (some ⟨g, 0, none⟩) n c1, .bool true]) (by simp [results, Tryd.results25, go_sem]) rfl ?_
      rw [HF.out.1, HF.out.2]
      exact postL_of ⟨_, rfl, HO2.out, hbl⟩

/-- What changing words gives, for all arguments. -/
structure Chg (l : List Bool) (n : Nat) (s m : Int) (u : Bool) (R : List Bool) (b : Bool) : Prop where
  inv : (64 < n ∨ m < 1 ∨ 64 < m) → R = [] ∧ b = false
  out : ¬ (64 < n ∨ m < 1 ∨ 64 < m) → (s < 0 ∨ (n : Int) - m < s) → R = l ∧ b = false
  no : ∀ S M : Nat, s = S → m = M → n ≤ 64 → 1 ≤ M → M ≤ 64 → S + M ≤ n → ¬ AllAt l S M (!u) → b = false ∧ R = l
  yes : ∀ S M : Nat, s = S → m = M → n ≤ 64 → 1 ≤ M → M ≤ 64 → S + M ≤ n → AllAt l S M (!u) → b = true ∧ R = setB l S M u

theorem Chg_ex (l : List Bool) (s m : Int) (u : Bool) : ∃ R b, Chg l l.length s m u R b ∧ R.length ≤ l.length := by
  by_cases h1 : 64 < l.length ∨ m < 1 ∨ 64 < m
  · exact ⟨[], false, ⟨fun _ => ⟨rfl, rfl⟩, fun h => absurd h1 h, fun S M e1 e2 _ _ _ _ => by omega, fun S M e1 e2 _ _ _ _ => by omega⟩, by simp⟩
  · by_cases h2 : s < 0 ∨ (l.length : Int) - m < s
    · exact ⟨l, false, ⟨fun h => absurd h h1, fun _ _ => ⟨rfl, rfl⟩, fun S M e1 e2 _ _ _ _ => by omega, fun S M e1 e2 _ _ _ _ => by omega⟩, Nat.le_refl _⟩
    · obtain ⟨S, hS⟩ := Int.eq_ofNat_of_zero_le (show 0 ≤ s by omega)
      obtain ⟨M, hM⟩ := Int.eq_ofNat_of_zero_le (show 0 ≤ m by omega)
      by_cases h3 : AllAt l S M (!u)
      · refine ⟨setB l S M u, true, ⟨fun h => absurd h h1, fun _ h => absurd h h2, fun S' M' e1 e2 _ _ _ _ h => ?_, fun S' M' e1 e2 _ _ _ _ _ => ?_⟩, by rw [setB_len (by omega)]; exact Nat.le_refl _⟩
        · obtain rfl : S' = S := by omega
          obtain rfl : M' = M := by omega
          exact absurd h3 h
        · obtain rfl : S' = S := by omega
          obtain rfl : M' = M := by omega
          exact ⟨rfl, rfl⟩
      · refine ⟨l, false, ⟨fun h => absurd h h1, fun _ h => absurd h h2, fun S' M' e1 e2 _ _ _ _ _ => ⟨rfl, rfl⟩, fun S' M' e1 e2 _ _ _ _ h => ?_⟩, Nat.le_refl _⟩
        obtain rfl : S' = S := by omega
        obtain rfl : M' = M := by omega
        exact absurd h h3

theorem iChg_any (A : Option Addr) (n c : Nat) (l : List Bool) (s m : Int) (u : Bool) (R : List Bool) (b : Bool) (w : World) (h : Lst w w.heap.size A n l) (hnm : n ≤ 1125899906842624) (hc : Chg l n s m u R b) :
    Calls Tryd.prog 25 #[.slice A n c, .int .i64 s, .int .i64 m, .bool u] w (PostL R (.bool b) w) := by
  by_cases h1 : 64 < n ∨ m < 1 ∨ 64 < m
  · obtain ⟨rfl, rfl⟩ := hc.inv h1
    exact iChg_inv A n c s m u w hnm h1
  · by_cases h2 : s < 0 ∨ (n : Int) - m < s
    · obtain ⟨rfl, rfl⟩ := hc.out h1 h2
      exact iChg_out A n c R s m u w h (by omega) (by omega) h2
    · obtain ⟨S, rfl⟩ := Int.eq_ofNat_of_zero_le (show 0 ≤ s by omega)
      obtain ⟨M, rfl⟩ := Int.eq_ofNat_of_zero_le (show 0 ≤ m by omega)
      exact iChg_in A n c S M l u b R w h (by omega) (by omega) (by omega) (hc.yes S M rfl rfl (by omega) (by omega) (by omega) (by omega)) (hc.no S M rfl rfl (by omega) (by omega) (by omega) (by omega))

theorem iTakeB_any (A : Option Addr) (n c : Nat) (l : List Bool) (s m : Int) (R : List Bool) (b : Bool) (w : World) (h : Lst w w.heap.size A n l) (hnm : n ≤ 1125899906842624) (hc : Chg l n s m true R b) :
    Calls Tryd.prog 15 #[.slice A n c, .int .i64 s, .int .i64 m] w (PostL R (.bool b) w) := by
  have HC := Lib.hid (iChg_any A n c l s m true R b w h hnm hc)
  clear h hc
  go_enter Tryd.func15, Tryd.ntmps15
  go_wp2_with (refine HC.out.mono ?_; rintro e w1 ⟨A1, c1, rfl, o1, b1⟩)
  exact bodyPost_ret (v := .tuple #[.slice A1 R.length c1, .bool b]) (by simp [results, Tryd.results15, go_sem]) rfl (postL_of ⟨_, rfl, o1, b1⟩)

end Go.Proofs.YtkgaajploobjdaaDoor.Wb
