/- Changing words of a bitmap, by the reference. Conditions: a list that a slice of bools reads as. -/
import Derived.Test.YtkgaajploobjdaaBch
namespace Go.Proofs.Ytkgaajploobjdaa.Wb
open Go.RowKit Go.Proofs.Ytkgaajploobjdaa.Pl Go.Proofs.Ytkgaajploobjdaa.Wk

set_option maxHeartbeats 4000000 in
theorem sSet_any (b0 off n c s M : Nat) (l : List Bool) (u : Bool) (w : World) (h : Lst w w.heap.size (some ⟨b0, off, none⟩) n l) (hn : n ≤ 64) (hm1 : 1 ≤ M) (hs : s + M ≤ n) :
    Calls Try.prog 26 #[.slice (some ⟨b0, off, none⟩) n c, .int .i64 s, .int .i64 M, .bool u] w fun e w' => ∃ A' c', e = .returned (.slice A' n c') ∧ Own w' w.heap.size (.slice A' n c') (setB l s M u) ∧ Below w.heap.size w w' := by
  have HN := Lib.hid h.len
  have H1 := Lib.hid (h.below ((Below.refl w.heap.size w).alloc (Nat.le_refl _) (.cells #[] 4)) (Nat.le_refl _))
  clear h
  go_enter Try.func26, Try.ntmps26
  go_wp2_with (at_builtin; refine append_b (by rfl) _ _ (by rfl) w.heap.size w.heap.size [] l _ (some ⟨b0, off, none⟩) n c (by rfl) (own_empty w) (by rfl) H1.out (by simp; omega) (by simp) n (by simp) ?_; intro A1 c1 w1 o1 b1 g1 t1)
  obtain ⟨g, rfl, hg1, hg2⟩ := (own_form o1).2 (by omega)
  have B1 := ((Below.refl w.heap.size w).alloc (Nat.le_refl _) (.cells #[] 4)).trans b1
  have O1 := Lib.hid (show Own w1 w.heap.size (.slice (some ⟨g, 0, none⟩) n c1) l by simpa using o1)
  clear o1 t1 g1 b1
  go_wp2
  go_loopw [10] (fun i wr => ∃ j : Nat, j ≤ M ∧ i = .int .i64 (((s + j : Nat) : Int)) ∧ Own wr w.heap.size (.slice (some ⟨g, 0, none⟩) n c1) (setB l s j u) ∧ Below w.heap.size w wr ∧ g < wr.heap.size) (fun i _ => s + M - (intOf i).toNat)
  case atStart => exact ⟨0, Nat.zero_le _, rfl, by rw [setB_zero]; exact O1.out, B1, hg2⟩
  case round =>
    obtain ⟨j, hj, rfl, ho, hbl, hg3⟩ := hrel
    by_cases hlt : j < M
    · obtain ⟨k, hk⟩ : ∃ k : Nat, k = s + j := ⟨_, rfl⟩
      have HK := Lib.hid hk
      rw [← hk]
      have hkn : k < n := by omega
      have hk3 : (k : Int) < (s : Int) + (M : Int) := by omega
      have ho2 := own_set ho k u
      have hst : (setB l s j u).set k u = setB l s (j + 1) u := by rw [hk]; exact setB_step (by have := HN.out; omega)
      rw [hst] at ho2
      have HO2 := Lib.hid ho2
      have hfz := own_frozen ho k
      have hcell : ∃ v, wr.cell? ⟨g, k, none⟩ = some v := by
        obtain ⟨b', off', e, _, cc⟩ := (own_lstn ho).cells k hkn
        injection e with e; injection e with e1 e2 _
        subst e1 e2
        rw [Nat.zero_add] at cc
        exact ⟨_, cc⟩
      obtain ⟨v0, hcell0⟩ := hcell
      clear hk hst ho2 ho
      have hbn := hbl
      go_wp2
      go_roundw
      case rel => exact ⟨j + 1, by omega, by have e := HK.out; go_num, HO2.out, hbn.setCell (p := ⟨g, _, none⟩) hg1 _, by simp [World.setCell]; omega⟩
      case measure => have e := HK.out; simp [intOf]; omega
    · have hjM : j = M := by omega
      subst hjM
      have hk3 : ¬ ((s + j : Nat) : Int) < (s : Int) + (j : Int) := by omega
      have HO2 := Lib.hid ho
      clear ho
      go_wp2
      go_ret
      exact ⟨_, _, rfl, HO2.out, hbl⟩

/-- append onto an empty slice: a copy. -/
theorem own_nilapp {w : World} {B : Nat} {v : Value} {l : List Bool} (h : Own w B v ([] ++ l)) : Own w B v l := by simpa using h
theorem lst_alloc {w : World} {B : Nat} {A : Option Addr} {n : Nat} {l : List Bool} (h : Lst w B A n l) (hB : B ≤ w.heap.size) (o : Obj) : Lst (w.alloc o) B A n l := h.below ((Below.refl w.heap.size w).alloc (Nat.le_refl _) o) hB

theorem sTakeB_inv (A : Option Addr) (n c : Nat) (s m : Int) (w : World) (hv : 64 < n ∨ m < 1 ∨ 64 < m) :
    Calls Try.prog 17 #[.slice A n c, .int .i64 s, .int .i64 m] w (PostL [] (.bool false) w) := by
  by_cases hm : m < 1 ∨ 64 < m
  · clear hv
    go_enter Try.func17, Try.ntmps17
    go_wp2_with (with_reducible refine (in_no _ _ _ _ hm).mono ?_; rintro e w' ⟨rfl, rfl⟩)
    exact bodyPost_ret (v := .tuple #[.slice (some ⟨w.heap.size, 0, none⟩) 0 0, .bool false]) (by simp [results, Try.results17, go_sem]) rfl (postL_of ⟨_, rfl, own_empty w, (Below.refl _ _).alloc (Nat.le_refl _) _⟩)
  · have hn2 : (64 : Int) < n := by omega
    have hm2 : 1 ≤ m ∧ m ≤ 64 := by omega
    clear hv hm
    go_enter Try.func17, Try.ntmps17
    go_wp2_with (with_reducible refine (in_yes _ _ _ _ hm2).mono ?_; rintro e w' ⟨rfl, rfl⟩)
    exact bodyPost_ret (v := .tuple #[.slice (some ⟨w.heap.size, 0, none⟩) 0 0, .bool false]) (by simp [results, Try.results17, go_sem]) rfl (postL_of ⟨_, rfl, own_empty w, (Below.refl _ _).alloc (Nat.le_refl _) _⟩)

theorem sTakeB_out (A : Option Addr) (n c : Nat) (l : List Bool) (s m : Int) (w : World) (h : Lst w w.heap.size A n l) (hn : n ≤ 64) (hm : 1 ≤ m ∧ m ≤ 64) (hs : s < 0 ∨ (n : Int) - m < s) :
    Calls Try.prog 17 #[.slice A n c, .int .i64 s, .int .i64 m] w (PostL l (.bool false) w) := by
  have hn2 : ¬ (64 : Int) < n := by omega
  have H1 := Lib.hid (lst_alloc h (Nat.le_refl _) (.cells #[] 4))
  clear h
  go_enter Try.func17, Try.ntmps17
  go_wp2_with (first
    | (with_reducible refine (in_no _ _ _ _ hs).mono ?_; rintro e w' ⟨rfl, rfl⟩)
    | (with_reducible refine (in_yes _ _ _ _ hm).mono ?_; rintro e w' ⟨rfl, rfl⟩)
    | (at_builtin; refine append_b (by rfl) _ _ (by rfl) w.heap.size w.heap.size [] l _ A n c (by rfl) (own_empty w) (by rfl) H1.out (by simp; omega) (by simp) n (by simp) ?_; intro A1 c1 w1 o1 b1 g1 t1))
  exact bodyPost_ret (v := .tuple #[.slice A1 n c1, .bool false]) (by simp [results, Try.results17, go_sem]) rfl (postL_of ⟨_, rfl, own_nilapp o1, ((Below.refl w.heap.size w).alloc (Nat.le_refl _) (.cells #[] 4)).trans b1⟩)

set_option maxHeartbeats 2000000 in
theorem sTakeB_in (b0 off n c s M : Nat) (l : List Bool) (b : Bool) (R : List Bool) (w : World) (h : Lst w w.heap.size (some ⟨b0, off, none⟩) n l) (hn : n ≤ 64) (hm1 : 1 ≤ M) (hs : s + M ≤ n)
    (hy : AllAt l s M false → b = true ∧ R = setB l s M true) (hno : ¬ AllAt l s M false → b = false ∧ R = l) :
    Calls Try.prog 17 #[.slice (some ⟨b0, off, none⟩) n c, .int .i64 s, .int .i64 M] w (PostL R (.bool b) w) := by
  have hn2 : ¬ (64 : Int) < n := by omega
  have hm : 1 ≤ (M : Int) ∧ (M : Int) ≤ 64 := by omega
  have hs1 : 0 ≤ (s : Int) ∧ (s : Int) ≤ (n : Int) - M := by omega
  have HH := Lib.hid h
  by_cases hf : AllAt l s M false
  · obtain ⟨rfl, rfl⟩ := hy hf
    have HF := Lib.hid (free_any _ n c s M l true w h hn hs (by simp [hf]))
    clear hy hno hf h
    go_enter Try.func17, Try.ntmps17
    go_wp2_with (first
      | (with_reducible refine (in_yes _ _ _ _ hs1).mono ?_; rintro e w' ⟨rfl, rfl⟩)
      | (with_reducible refine (in_yes _ _ _ _ hm).mono ?_; rintro e w' ⟨rfl, rfl⟩)
      | (with_reducible refine HF.out.mono ?_; rintro e w1 ⟨rfl, b1⟩)
      | (with_reducible refine (sSet_any b0 off n c s M l true w1 (lst_up HH.out b1) hn hm1 hs).mono ?_; rintro e w2 ⟨A2, c2, rfl, o2, b2⟩))
    exact bodyPost_ret (v := .tuple #[.slice A2 n c2, .bool true]) (by simp [results, Try.results17, go_sem]) rfl (postL_of ⟨_, rfl, o2.mono b1.size, b1.trans (b2.mono b1.size)⟩)
  · obtain ⟨rfl, rfl⟩ := hno hf
    have HF := Lib.hid (free_any _ n c s M R false w h hn hs (by simp [hf]))
    clear hy hno hf h
    go_enter Try.func17, Try.ntmps17
    go_wp2_with (first
      | (with_reducible refine (in_yes _ _ _ _ hs1).mono ?_; rintro e w' ⟨rfl, rfl⟩)
      | (with_reducible refine (in_yes _ _ _ _ hm).mono ?_; rintro e w' ⟨rfl, rfl⟩)
      | (with_reducible refine HF.out.mono ?_; rintro e w1 ⟨rfl, b1⟩)
      | (at_builtin; refine append_b (by rfl) _ _ (by rfl) w1.heap.size w1.heap.size [] R _ _ n c (by rfl) (own_empty w1) (by rfl) (lst_alloc (lst_up HH.out b1) (Nat.le_refl _) _) (by simp; omega) (by simp) n (by simp) ?_; intro A2 c2 w2 o2 b2 g2 t2))
    exact bodyPost_ret (v := .tuple #[.slice A2 n c2, .bool false]) (by simp [results, Try.results17, go_sem]) rfl (postL_of ⟨_, rfl, (own_nilapp o2).mono b1.size, (b1.trans (((Below.refl w1.heap.size w1).alloc (Nat.le_refl _) (.cells #[] 4)).mono b1.size)).trans (b2.mono b1.size)⟩)

theorem sTakeB_any (A : Option Addr) (n c : Nat) (l : List Bool) (s m : Int) (R : List Bool) (b : Bool) (w : World) (h : Lst w w.heap.size A n l) (hc : Chg l n s m true R b) :
    Calls Try.prog 17 #[.slice A n c, .int .i64 s, .int .i64 m] w (PostL R (.bool b) w) := by
  by_cases h1 : 64 < n ∨ m < 1 ∨ 64 < m
  · obtain ⟨rfl, rfl⟩ := hc.inv h1
    exact sTakeB_inv A n c s m w h1
  · by_cases h2 : s < 0 ∨ (n : Int) - m < s
    · obtain ⟨rfl, rfl⟩ := hc.out h1 h2
      exact sTakeB_out A n c R s m w h (by omega) (by omega) h2
    · obtain ⟨S, rfl⟩ := Int.eq_ofNat_of_zero_le (show 0 ≤ s by omega)
      obtain ⟨M, rfl⟩ := Int.eq_ofNat_of_zero_le (show 0 ≤ m by omega)
      obtain ⟨b0, off, rfl, _⟩ := h.cells 0 (by omega)
      exact sTakeB_in b0 off n c S M l b R w h (by omega) (by omega) (by omega) (hc.yes S M rfl rfl (by omega) (by omega) (by omega) (by omega)) (hc.no S M rfl rfl (by omega) (by omega) (by omega) (by omega))

end Go.Proofs.Ytkgaajploobjdaa.Wb
