/- GiveBlock, of the program and of the reference. Conditions: none. -/
import Derived.Test.YtidkejmphhpjlaaSl
import Derived.Test.YtidkejmphhpjlaaGvp
namespace Go.Proofs.Ytidkejmphhpjlaa.Wk
open Go.RowKit Go.Proofs.Ytidkejmphhpjlaa.Pl

theorem cellsL_set {R : List Blk} {i : Nat} (h : i < R.length) (x : Int) (hu : (bk R i).u = false) : cellsL (R.set i ⟨(bk R i).s, x, false⟩) = (cellsL R).set (i * 3 + 1) (.int .i64 x) := by
  induction R generalizing i with
  | nil => simp at h
  | cons b r ih =>
    cases i with
    | zero =>
      have hb : b.u = false := hu
      simp [cellsL_cons, bk, hb]
    | succ i =>
      have := ih (i := i) (by simpa using h) hu
      rw [List.set_cons_succ, cellsL_cons, cellsL_cons, show (i + 1) * 3 + 1 = i * 3 + 1 + 1 + 1 + 1 by omega]
      simp only [List.set_cons_succ]
      rw [← this]; rfl

/-- A store into the call's own blocks. -/
theorem own_set {w : World} {B g N cp : Nat} {R : List Blk} (h : Own w B (.slice (some ⟨g, 0, none⟩) N cp) R) {i : Nat} (hi : i < R.length) (x : Int) (hu : (bk R i).u = false) :
    Own (w.setCell ⟨g, i * 3 + 1, none⟩ (.int .i64 x)) B (.slice (some ⟨g, 0, none⟩) N cp) (R.set i ⟨(bk R i).s, x, false⟩) := by
  obtain ⟨hN, _⟩ := own_form h
  subst hN
  have h1 := (World.ownsRow.stored (show w.ownsRow B 39 3 (.slice (some ⟨g, 0, none⟩) R.length cp) R.length (cellsL R) from h) (i * 3 + 1) (.int .i64 x)).1
  rw [← cellsL_set hi x hu] at h1
  exact own_of h1 (by simp) rfl

theorem sGive_inv (A : Option Addr) (n c : Nat) (l : List Blk) (t k : Int) (w : World) (h : Lst w w.heap.size A n l) (hv : ¬ V l t) (hnm : n ≤ 1125899906842624) :
    Calls Try.prog 40 #[.slice A n c, .int .i64 t, .int .i64 k] w (PostL [] (.bool false) w) := by
  go_enter Try.func40, Try.ntmps40
  go_wp2_with fail
  refine (sValid_no A n c l t w h hv hnm).mono ?_
  rintro e w1 ⟨rfl, hb⟩
  go_wp2
  exact bodyPost_ret (v := .tuple #[.slice (some ⟨w1.heap.size, 0, none⟩) 0 0, .bool false]) (by simp [results, Try.results40, go_sem]) rfl ⟨_, _, rfl, (own_empty w1).mono hb.size, hb.alloc hb.size _⟩

theorem iGive_inv (A : Option Addr) (n c : Nat) (l : List Blk) (t k : Int) (w : World) (h : Lst w w.heap.size A n l) (hv : ¬ V l t) (hnm : n ≤ 1125899906842624) :
    Calls Try.prog 41 #[.slice A n c, .int .i64 t, .int .i64 k] w (PostL [] (.bool false) w) := by
  go_enter Try.func41, Try.ntmps41
  go_wp2_with fail
  refine (iValid_no A n c l t w h hv hnm).mono ?_
  rintro e w1 ⟨rfl, hb⟩
  go_wp2
  exact bodyPost_ret (v := .tuple #[.slice none 0 0, .bool false]) (by simp [results, Try.results41, go_sem]) rfl ⟨_, _, rfl, Own.nil _ _, hb⟩

set_option maxHeartbeats 2000000 in
theorem sGive_no (b off n c : Nat) (l : List Blk) (t k : Int) (w : World) (h : Lst w w.heap.size (some ⟨b, off, none⟩) n l) (hv : V l t) (hk : (k < 0 ∨ (n : Int) ≤ k) ∨ ∃ j : Nat, k = j ∧ j < n ∧ (bk l j).u = false) :
    Calls Try.prog 40 #[.slice (some ⟨b, off, none⟩) n c, .int .i64 t, .int .i64 k] w (PostL l (.bool false) w) := by
  have hn : n ≤ 1048576 := by have := (V_len hv); have := h.len; omega
  have HL := Lib.hid h.len
  go_enter Try.func40, Try.ntmps40
  go_wp2_with fail
  refine (sValid_yes _ n c l t w h hv).mono ?_
  rintro e w1 ⟨rfl, hb⟩
  have H1 := Lib.hid (h.below (hb.alloc hb.size (.cells #[] 39)) (Nat.le_refl _))
  have HH := Lib.hid h
  have hs := hb.size
  clear h hv
  go_wp2_with (at_builtin; refine append_blk (by rfl) _ _ (by rfl) w1.heap.size w.heap.size [] l _ (some ⟨b, off, none⟩) n c (by rfl) (own_empty w1) (by rfl) H1.out (by simp; omega) (by simp) n (by simp) ?_; intro A2 c2 w2 o2 b2 g2 t2)
  have B2 := (hb.alloc hb.size _).trans (b2.mono hs)
  clear t2 g2 b2
  rcases hk with hk | ⟨j, rfl, hj, hu⟩
  · go_wp2_with (refine (l1In_no _ _ _ _ (by omega)).mono ?_; rintro e w' ⟨rfl, rfl⟩)
    exact bodyPost_ret (v := .tuple #[.slice A2 n c2, .bool false]) (by simp [results, Try.results40, go_sem]) rfl (postL_of ⟨_, rfl, o2.mono hs, B2⟩)
  · obtain ⟨b', off', e, hbb, c0, c1, c2'⟩ := (HH.out.below B2 (Nat.le_refl _)).cells j hj
    simp only [Option.some.injEq, Addr.mk.injEq, and_true] at e
    obtain ⟨rfl, rfl⟩ := e
    rw [hu] at c2'
    have hki : (j : Int) < n := by omega
    have hk0 : (0 : Int) ≤ (j : Int) := by omega
    go_wp2_with (refine (l1In_yes _ _ _ _ (by omega)).mono ?_; rintro e w' ⟨rfl, rfl⟩)
    exact bodyPost_ret (v := .tuple #[.slice A2 n c2, .bool false]) (by simp [results, Try.results40, go_sem]) rfl (postL_of ⟨_, rfl, o2.mono hs, B2⟩)

set_option maxHeartbeats 2000000 in
theorem iGive_no (b off n c : Nat) (l : List Blk) (t k : Int) (w : World) (h : Lst w w.heap.size (some ⟨b, off, none⟩) n l) (hv : V l t) (hk : (k < 0 ∨ (n : Int) ≤ k) ∨ ∃ j : Nat, k = j ∧ j < n ∧ (bk l j).u = false) :
    Calls Try.prog 41 #[.slice (some ⟨b, off, none⟩) n c, .int .i64 t, .int .i64 k] w (PostL l (.bool false) w) := by
  have hn : n ≤ 1048576 := by have := (V_len hv); have := h.len; omega
  go_enter Try.func41, Try.ntmps41
  go_wp2_with fail
  refine (iValid_yes _ n c l t w h hv).mono ?_
  rintro e w1 ⟨rfl, hb⟩
  have HC := Lib.hid (clone_all (some ⟨b, off, none⟩) n c _ l w1 (h.below hb (Nat.le_refl _)) hb.size hn)
  have h1 := h.below hb (Nat.le_refl _)
  rcases hk with hk | ⟨j, rfl, hj, hu⟩
  · have hk' : k < 0 ∨ (¬ k < 0 ∧ (n : Int) ≤ k) := by omega
    clear h1 h hk
    rcases hk' with hk | ⟨hk0, hk⟩
    all_goals
      go_wp2_with fail
      refine HC.out.mono ?_
      rintro e w2 ⟨A2, c2, rfl, ho, hb2⟩
      go_wp2
      exact bodyPost_ret (v := .tuple #[.slice A2 n c2, .bool false]) (by simp [results, Try.results41, go_sem]) rfl (postL_of ⟨_, rfl, ho.mono hb.size, hb.trans (hb2.mono hb.size)⟩)
  · obtain ⟨b', off', e, hbb, c0, c1, c2'⟩ := h1.cells j hj
    simp only [Option.some.injEq, Addr.mk.injEq, and_true] at e
    obtain ⟨rfl, rfl⟩ := e
    rw [hu] at c2'
    have hki : (j : Int) < n := by omega
    have hk0 : ¬ (j : Int) < 0 := by omega
    clear h1 h
    go_wp2_with fail
    refine HC.out.mono ?_
    rintro e w2 ⟨A2, c2, rfl, ho, hb2⟩
    go_wp2
    exact bodyPost_ret (v := .tuple #[.slice A2 n c2, .bool false]) (by simp [results, Try.results41, go_sem]) rfl (postL_of ⟨_, rfl, ho.mono hb.size, hb.trans (hb2.mono hb.size)⟩)

end Go.Proofs.Ytidkejmphhpjlaa.Wk
