/- TakeBlock of the program refuses. Conditions: none. -/
import Derived.Test.YtidkejmphhpjlaaTky
namespace Go.Proofs.Ytidkejmphhpjlaa.Wk
open Go.RowKit Go.Proofs.Ytidkejmphhpjlaa.Pl

theorem iTake_inv (A : Option Addr) (n c : Nat) (l : List Blk) (t k z : Int) (w : World) (h : Lst w w.heap.size A n l) (hv : ¬ V l t) (hnm : n ≤ 1125899906842624) :
    Calls Try.prog 30 #[.slice A n c, .int .i64 t, .int .i64 k, .int .i64 z] w (PostL [] (.bool false) w) := by
  go_enter Try.func30, Try.ntmps30
  go_wp2_with (refine (iValid_no A n c l t w h hv hnm).mono ?_; rintro e w' ⟨rfl, hb⟩)
  exact bodyPost_ret (v := .tuple #[.slice none 0 0, .bool false]) (by simp [results, Try.results30, go_sem]) rfl (postL_of ⟨_, rfl, Own.nil _ _, hb⟩)

set_option maxHeartbeats 1000000 in
theorem iTake_out (b off n c : Nat) (l : List Blk) (t k z : Int) (w : World) (h : Lst w w.heap.size (some ⟨b, off, none⟩) n l) (hv : V l t) (hk : k < 0 ∨ (n : Int) ≤ k) :
    Calls Try.prog 30 #[.slice (some ⟨b, off, none⟩) n c, .int .i64 t, .int .i64 k, .int .i64 z] w (PostL l (.bool false) w) := by
  have hn : n ≤ 1048576 := by have := (V_len hv); have := h.len; omega
  go_enter Try.func30, Try.ntmps30
  rcases hk with hk | hk
  · go_wp2_with fail
    refine (iValid_yes _ n c l t w h hv).mono ?_
    rintro e w1 ⟨rfl, hb⟩
    go_wp2_with fail
    refine (clone_all (some ⟨b, off, none⟩) n c _ l w1 (h.below hb (Nat.le_refl _)) hb.size hn).mono ?_
    rintro e w2 ⟨A2, c2, rfl, ho, hb2⟩
    go_wp2
    exact bodyPost_ret (v := .tuple #[.slice A2 n c2, .bool false]) (by simp [results, Try.results30, go_sem]) rfl (postL_of ⟨_, rfl, ho.mono hb.size, hb.trans (hb2.mono hb.size)⟩)
  · have hk0 : ¬ k < 0 := by omega
    go_wp2_with fail
    refine (iValid_yes _ n c l t w h hv).mono ?_
    rintro e w1 ⟨rfl, hb⟩
    go_wp2_with fail
    refine (clone_all (some ⟨b, off, none⟩) n c _ l w1 (h.below hb (Nat.le_refl _)) hb.size hn).mono ?_
    rintro e w2 ⟨A2, c2, rfl, ho, hb2⟩
    go_wp2
    exact bodyPost_ret (v := .tuple #[.slice A2 n c2, .bool false]) (by simp [results, Try.results30, go_sem]) rfl (postL_of ⟨_, rfl, ho.mono hb.size, hb.trans (hb2.mono hb.size)⟩)

set_option maxHeartbeats 1000000 in
theorem iTake_used (b off n c k : Nat) (l : List Blk) (t z : Int) (w : World) (h : Lst w w.heap.size (some ⟨b, off, none⟩) n l) (hv : V l t) (hk : k < n) (hu : (bk l k).u = true) :
    Calls Try.prog 30 #[.slice (some ⟨b, off, none⟩) n c, .int .i64 t, .int .i64 k, .int .i64 z] w (PostL l (.bool false) w) := by
  have hn : n ≤ 1048576 := by have := (V_len hv); have := h.len; omega
  have hki : (k : Int) < n := by omega
  have hk0 : ¬ (k : Int) < 0 := by omega
  go_enter Try.func30, Try.ntmps30
  go_wp2_with fail
  refine (iValid_yes _ n c l t w h hv).mono ?_
  rintro e w1 ⟨rfl, hb⟩
  have h1 := h.below hb (Nat.le_refl _)
  obtain ⟨b', off', e, hbb, c0, c1, c2⟩ := h1.cells k hk
  simp only [Option.some.injEq, Addr.mk.injEq, and_true] at e
  obtain ⟨rfl, rfl⟩ := e
  rw [hu] at c2
  have H1 := Lib.hid h1
  clear h1 h
  go_wp2_with fail
  refine (clone_all (some ⟨b, off, none⟩) n c _ l w1 H1.out hb.size hn).mono ?_
  rintro e w2 ⟨A2, c2, rfl, ho, hb2⟩
  go_wp2
  exact bodyPost_ret (v := .tuple #[.slice A2 n c2, .bool false]) (by simp [results, Try.results30, go_sem]) rfl (postL_of ⟨_, rfl, ho.mono hb.size, hb.trans (hb2.mono hb.size)⟩)

set_option maxHeartbeats 1000000 in
theorem iTake_size (b off n c k : Nat) (l : List Blk) (t z : Int) (w : World) (h : Lst w w.heap.size (some ⟨b, off, none⟩) n l) (hv : V l t) (hk : k < n) (hu : (bk l k).u = false) (hz : z < 1 ∨ (bk l k).z < z) :
    Calls Try.prog 30 #[.slice (some ⟨b, off, none⟩) n c, .int .i64 t, .int .i64 k, .int .i64 z] w (PostL l (.bool false) w) := by
  have hn : n ≤ 1048576 := by have := (V_len hv); have := h.len; omega
  have hki : (k : Int) < n := by omega
  have hk0 : ¬ (k : Int) < 0 := by omega
  go_enter Try.func30, Try.ntmps30
  go_wp2_with fail
  refine (iValid_yes _ n c l t w h hv).mono ?_
  rintro e w1 ⟨rfl, hb⟩
  have h1 := h.below hb (Nat.le_refl _)
  obtain ⟨b', off', e, hbb, c0, c1, c2⟩ := h1.cells k hk
  simp only [Option.some.injEq, Addr.mk.injEq, and_true] at e
  obtain ⟨rfl, rfl⟩ := e
  rw [hu] at c2
  have H1 := Lib.hid h1
  clear h1 h
  rcases hz with hz | hz
  · go_wp2_with fail
    refine (clone_all (some ⟨b, off, none⟩) n c _ l w1 H1.out hb.size hn).mono ?_
    rintro e w2 ⟨A2, c2, rfl, ho, hb2⟩
    go_wp2
    exact bodyPost_ret (v := .tuple #[.slice A2 n c2, .bool false]) (by simp [results, Try.results30, go_sem]) rfl (postL_of ⟨_, rfl, ho.mono hb.size, hb.trans (hb2.mono hb.size)⟩)
  · by_cases hz1 : z < 1
    all_goals
      go_wp2_with fail
      refine (clone_all (some ⟨b, off, none⟩) n c _ l w1 H1.out hb.size hn).mono ?_
      rintro e w2 ⟨A2, c2, rfl, ho, hb2⟩
      go_wp2
      exact bodyPost_ret (v := .tuple #[.slice A2 n c2, .bool false]) (by simp [results, Try.results30, go_sem]) rfl (postL_of ⟨_, rfl, ho.mono hb.size, hb.trans (hb2.mono hb.size)⟩)

end Go.Proofs.Ytidkejmphhpjlaa.Wk
