/- BitsGive of the reference. Conditions: a list that a slice of bools reads as. -/
import Derived.Test.YtkgaajploobjdaaBsp
namespace Go.Proofs.Ytkgaajploobjdaa.Wb
open Go.RowKit Go.Proofs.Ytkgaajploobjdaa.Pl Go.Proofs.Ytkgaajploobjdaa.Wk

theorem sGiveB_inv (A : Option Addr) (n c : Nat) (s m : Int) (w : World) (hv : 64 < n ∨ m < 1 ∨ 64 < m) :
    Calls Try.prog 13 #[.slice A n c, .int .i64 s, .int .i64 m] w (PostL [] (.bool false) w) := by
  by_cases hm : m < 1 ∨ 64 < m
  · clear hv
    go_enter Try.func13, Try.ntmps13
    go_wp2_with (with_reducible refine (in_no _ _ _ _ hm).mono ?_; rintro e w' ⟨rfl, rfl⟩)
    exact bodyPost_ret (v := .tuple #[.slice (some ⟨w.heap.size, 0, none⟩) 0 0, .bool false]) (by simp [results, Try.results13, go_sem]) rfl (postL_of ⟨_, rfl, own_empty w, (Below.refl _ _).alloc (Nat.le_refl _) _⟩)
  · have hn2 : (64 : Int) < n := by omega
    have hm2 : 1 ≤ m ∧ m ≤ 64 := by omega
    clear hv hm
    go_enter Try.func13, Try.ntmps13
    go_wp2_with (with_reducible refine (in_yes _ _ _ _ hm2).mono ?_; rintro e w' ⟨rfl, rfl⟩)
    exact bodyPost_ret (v := .tuple #[.slice (some ⟨w.heap.size, 0, none⟩) 0 0, .bool false]) (by simp [results, Try.results13, go_sem]) rfl (postL_of ⟨_, rfl, own_empty w, (Below.refl _ _).alloc (Nat.le_refl _) _⟩)

set_option maxHeartbeats 1000000 in
theorem sGiveB_out (A : Option Addr) (n c : Nat) (l : List Bool) (s m : Int) (w : World) (h : Lst w w.heap.size A n l) (hn : n ≤ 64) (hm : 1 ≤ m ∧ m ≤ 64) (hs : s < 0 ∨ (n : Int) - m < s) :
    Calls Try.prog 13 #[.slice A n c, .int .i64 s, .int .i64 m] w (PostL l (.bool false) w) := by
  have hn2 : ¬ (64 : Int) < n := by omega
  have H1 := Lib.hid (lst_alloc h (Nat.le_refl _) (.cells #[] 4))
  clear h
  go_enter Try.func13, Try.ntmps13
  go_wp2_with (first
    | (with_reducible refine (in_no _ _ _ _ hs).mono ?_; rintro e w' ⟨rfl, rfl⟩)
    | (with_reducible refine (in_yes _ _ _ _ hm).mono ?_; rintro e w' ⟨rfl, rfl⟩))
  refine wp_loop_rounds 1 ?_
  rw [rounds_succ]
  go_wp2_with (at_builtin; refine append_b (by rfl) _ _ (by rfl) w.heap.size w.heap.size [] l _ A n c (by rfl) (own_empty w) (by rfl) H1.out (by simp; omega) (by simp) n (by simp) ?_; intro A1 c1 w1 o1 b1 g1 t1)
  exact bodyPost_ret (v := .tuple #[.slice A1 n c1, .bool false]) (by simp [results, Try.results13, go_sem]) rfl (postL_of ⟨_, rfl, own_nilapp o1, ((Below.refl w.heap.size w).alloc (Nat.le_refl _) (.cells #[] 4)).trans b1⟩)

set_option maxHeartbeats 4000000 in
theorem sGiveB_in (b0 off n c s M : Nat) (l : List Bool) (b : Bool) (R : List Bool) (w : World) (h : Lst w w.heap.size (some ⟨b0, off, none⟩) n l) (hn : n ≤ 64) (hm1 : 1 ≤ M) (hs : s + M ≤ n)
    (hy : AllAt l s M true → b = true ∧ R = setB l s M false) (hno : ¬ AllAt l s M true → b = false ∧ R = l) :
    Calls Try.prog 13 #[.slice (some ⟨b0, off, none⟩) n c, .int .i64 s, .int .i64 M] w (PostL R (.bool b) w) := by
  have hn2 : ¬ (64 : Int) < n := by omega
  have hm : 1 ≤ (M : Int) ∧ (M : Int) ≤ 64 := by omega
  have hs1 : 0 ≤ (s : Int) ∧ (s : Int) ≤ (n : Int) - M := by omega
  have HN := Lib.hid h.len
  have HY := Lib.hid hy
  have HNO := Lib.hid hno
  have HH := Lib.hid h
  clear hy hno h
  go_enter Try.func13, Try.ntmps13
  go_wp2_with (first
    | (with_reducible refine (in_yes _ _ _ _ hs1).mono ?_; rintro e w' ⟨rfl, rfl⟩)
    | (with_reducible refine (in_yes _ _ _ _ hm).mono ?_; rintro e w' ⟨rfl, rfl⟩))
  go_loopw [8, 9] (fun v i wr => ∃ (j : Nat) (f : Bool), j ≤ M ∧ i = .int .i64 (((s + j : Nat) : Int)) ∧ v = .bool f ∧ (f = true → AllAt l s j true) ∧ (f = false → ¬ AllAt l s M true) ∧ Below w.heap.size w wr) (fun _ i _ => s + M - (intOf i).toNat)
  case atStart => exact ⟨0, true, Nat.zero_le _, rfl, rfl, fun _ => AllAt_zero _ _ _, (fun e => by cases e), Below.refl _ _⟩
  case round =>
    obtain ⟨j, f, hj, rfl, rfl, h1, h2, hbl⟩ := hrel
    have HA1 := Lib.hid h1
    have HA2 := Lib.hid h2
    clear h1 h2
    cases f
    · have HF := Lib.hid (HNO.out (HA2.out rfl))
      have HL := Lib.hid (lst_alloc (lst_up HH.out hbl) (Nat.le_refl _) (.cells #[] 4))
      go_wp2_with (at_builtin; refine append_b (by rfl) _ _ (by rfl) wr.heap.size wr.heap.size [] l _ _ n c (by rfl) (own_empty wr) (by rfl) HL.out (by simp; omega) (by simp) n (by simp) ?_; intro A2 c2 w2 o2 b2 g2 t2)
      refine bodyPost_ret (v := .tuple #[.slice A2 n c2, .bool false]) (by simp [results, Try.results13, go_sem]) rfl ?_
      rw [HF.out.1, HF.out.2]
      exact postL_of ⟨_, rfl, (own_nilapp o2).mono hbl.size, (hbl.trans (((Below.refl wr.heap.size wr).alloc (Nat.le_refl _) (.cells #[] 4)).mono hbl.size)).trans (b2.mono hbl.size)⟩
    · by_cases hlt : j < M
      · obtain ⟨k, hk⟩ : ∃ k : Nat, k = s + j := ⟨_, rfl⟩
        have HK := Lib.hid hk
        rw [← hk]
        have hkn : k < n := by omega
        have hk3 : (k : Int) < (s : Int) + (M : Int) := by omega
        clear hk
        obtain ⟨b', off', e, hbb, c0⟩ := (HH.out.below hbl (Nat.le_refl _)).cells k hkn
        injection e with e; injection e with e1 e2 _
        subst e1 e2
        have hbn := hbl
        by_cases hu : ub l k = true
        · have HB1 := Lib.hid (AllAt_succ (HA1.out rfl) (by rw [← HK.out]; exact hu))
          rw [hu] at c0
          clear hu
          go_wp2
          go_roundw
          case rel => exact ⟨j + 1, true, by omega, by have e := HK.out; go_num, rfl, fun _ => HB1.out, (fun e => by cases e), hbn⟩
          case measure => have e := HK.out; simp [intOf]; omega
        · have HB2 := Lib.hid (show ¬ AllAt l s M true from fun ha => hu (ha k (by have e := HK.out; omega) (by have e := HK.out; omega)))
          have hu2 : ub l k = false := by simpa using hu
          rw [hu2] at c0
          clear hu hu2
          go_wp2
          go_roundw
          case rel => exact ⟨j + 1, false, by omega, by have e := HK.out; go_num, rfl, (fun e => by cases e), fun _ => HB2.out, hbn⟩
          case measure => have e := HK.out; simp [intOf]; omega
      · have hjM : j = M := by omega
        subst hjM
        have HF := Lib.hid (HY.out (HA1.out rfl))
        have hk3 : ¬ ((s + j : Nat) : Int) < (s : Int) + (j : Int) := by omega
        have hbn := hbl
        go_wp2_with (with_reducible refine (sSet_any b0 off n c s j l false wr (lst_up HH.out hbn) hn hm1 hs).mono ?_; rintro e w2 ⟨A2, c2, rfl, o2, b2⟩)
        refine bodyPost_ret (v := .tuple #[.slice A2 n c2, .bool true]) (by simp [results, Try.results13, go_sem]) rfl ?_
        rw [HF.out.1, HF.out.2]
        exact postL_of ⟨_, rfl, o2.mono hbn.size, hbn.trans (b2.mono hbn.size)⟩

theorem sGiveB_any (A : Option Addr) (n c : Nat) (l : List Bool) (s m : Int) (R : List Bool) (b : Bool) (w : World) (h : Lst w w.heap.size A n l) (hc : Chg l n s m false R b) :
    Calls Try.prog 13 #[.slice A n c, .int .i64 s, .int .i64 m] w (PostL R (.bool b) w) := by
  by_cases h1 : 64 < n ∨ m < 1 ∨ 64 < m
  · obtain ⟨rfl, rfl⟩ := hc.inv h1
    exact sGiveB_inv A n c s m w h1
  · by_cases h2 : s < 0 ∨ (n : Int) - m < s
    · obtain ⟨rfl, rfl⟩ := hc.out h1 h2
      exact sGiveB_out A n c R s m w h (by omega) (by omega) h2
    · obtain ⟨S, rfl⟩ := Int.eq_ofNat_of_zero_le (show 0 ≤ s by omega)
      obtain ⟨M, rfl⟩ := Int.eq_ofNat_of_zero_le (show 0 ≤ m by omega)
      obtain ⟨b0, off, rfl, _⟩ := h.cells 0 (by omega)
      exact sGiveB_in b0 off n c S M l b R w h (by omega) (by omega) (by omega) (hc.yes S M rfl rfl (by omega) (by omega) (by omega) (by omega)) (hc.no S M rfl rfl (by omega) (by omega) (by omega) (by omega))

end Go.Proofs.Ytkgaajploobjdaa.Wb
