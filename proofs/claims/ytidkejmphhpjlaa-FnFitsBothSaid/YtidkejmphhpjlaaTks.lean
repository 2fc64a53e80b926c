/- TakeBlock of the reference. Conditions: none. -/
import Derived.Test.YtidkejmphhpjlaaTky
import Derived.Test.YtidkejmphhpjlaaTake
namespace Go.Proofs.Ytidkejmphhpjlaa.Wk
open Go.RowKit Go.Proofs.Ytidkejmphhpjlaa.Pl

theorem l1In_yes (n lo hi : Int) (w : World) (h : lo ≤ n ∧ n ≤ hi) : Calls Try.prog 42 #[.int .i64 n, .int .i64 lo, .int .i64 hi] w fun e w' => e = .returned (.bool true) ∧ w = w' := by
  refine (l1In_any n lo hi w).mono ?_
  rintro e w' ⟨rfl, rfl⟩
  exact ⟨by simp [h], rfl⟩
theorem l1In_no (n lo hi : Int) (w : World) (h : n < lo ∨ hi < n) : Calls Try.prog 42 #[.int .i64 n, .int .i64 lo, .int .i64 hi] w fun e w' => e = .returned (.bool false) ∧ w = w' := by
  refine (l1In_any n lo hi w).mono ?_
  rintro e w' ⟨rfl, rfl⟩
  exact ⟨by simp; omega, rfl⟩

theorem own_emptyH (w : World) (H : Nat) (hH : w.heap.size = H) : Own (w.alloc (.cells #[] 39)) H (.slice (some ⟨H, 0, none⟩) 0 0) [] := by
  subst hH; exact own_empty w

theorem sTake_inv (A : Option Addr) (n c : Nat) (l : List Blk) (t k z : Int) (w : World) (h : Lst w w.heap.size A n l) (hv : ¬ V l t) (hnm : n ≤ 1125899906842624) :
    Calls Try.prog 35 #[.slice A n c, .int .i64 t, .int .i64 k, .int .i64 z] w (PostL [] (.bool false) w) := by
  go_enter Try.func35, Try.ntmps35
  go_wp2_with fail
  refine (sValid_no A n c l t w h hv hnm).mono ?_
  rintro e w1 ⟨rfl, hb⟩
  go_wp2
  exact bodyPost_ret (v := .tuple #[.slice (some ⟨w1.heap.size, 0, none⟩) 0 0, .bool false]) (by simp [results, Try.results35, go_sem]) rfl ⟨_, _, rfl, (own_empty w1).mono hb.size, hb.alloc hb.size _⟩

set_option maxHeartbeats 1000000 in
theorem sTake_out (b off n c : Nat) (l : List Blk) (t k z : Int) (w : World) (h : Lst w w.heap.size (some ⟨b, off, none⟩) n l) (hv : V l t) (hk : k < 0 ∨ (n : Int) ≤ k) :
    Calls Try.prog 35 #[.slice (some ⟨b, off, none⟩) n c, .int .i64 t, .int .i64 k, .int .i64 z] w (PostL l (.bool false) w) := by
  have hn : n ≤ 1048576 := by have := (V_len hv); have := h.len; omega
  have HL := Lib.hid h.len
  go_enter Try.func35, Try.ntmps35
  go_wp2_with fail
  refine (sValid_yes _ n c l t w h hv).mono ?_
  rintro e w1 ⟨rfl, hb⟩
  have H1 := Lib.hid (h.below (hb.alloc hb.size (.cells #[] 39)) (Nat.le_refl _))
  have hs := hb.size
  clear h hv
  go_wp2_with (first
    | (at_builtin; refine append_blk (by rfl) _ _ (by rfl) w1.heap.size w.heap.size [] l _ (some ⟨b, off, none⟩) n c (by rfl) (own_empty w1) (by rfl) H1.out (by simp; omega) (by simp) n (by simp) ?_; intro A2 c2 w2 o2 b2 g2 t2)
    | (refine (l1In_no _ _ _ _ (by omega)).mono ?_; rintro e w' ⟨rfl, rfl⟩))
  exact bodyPost_ret (v := .tuple #[.slice A2 n c2, .bool false]) (by simp [results, Try.results35, go_sem]) rfl (postL_of ⟨_, rfl, o2.mono hs, (hb.alloc hb.size _).trans (b2.mono hs)⟩)

set_option maxHeartbeats 2000000 in
theorem sTake_bad (b off n c k : Nat) (l : List Blk) (t z : Int) (w : World) (h : Lst w w.heap.size (some ⟨b, off, none⟩) n l) (hv : V l t) (hk : k < n) (hz : (bk l k).u = true ∨ z < 1 ∨ (bk l k).z < z) :
    Calls Try.prog 35 #[.slice (some ⟨b, off, none⟩) n c, .int .i64 t, .int .i64 k, .int .i64 z] w (PostL l (.bool false) w) := by
  have hn : n ≤ 1048576 := by have := (V_len hv); have := h.len; omega
  have hki : (k : Int) < n := by omega
  have hk0 : (0 : Int) ≤ (k : Int) := by omega
  have HL := Lib.hid h.len
  go_enter Try.func35, Try.ntmps35
  go_wp2_with fail
  refine (sValid_yes _ n c l t w h hv).mono ?_
  rintro e w1 ⟨rfl, hb⟩
  have H1 := Lib.hid (h.below (hb.alloc hb.size (.cells #[] 39)) (Nat.le_refl _))
  have HH := Lib.hid h
  have hs := hb.size
  clear h hv
  go_wp2_with (at_builtin; refine append_blk (by rfl) _ _ (by rfl) w1.heap.size w.heap.size [] l _ (some ⟨b, off, none⟩) n c (by rfl) (own_empty w1) (by rfl) H1.out (by simp; omega) (by simp) n (by simp) ?_; intro A2 c2 w2 o2 b2 g2 t2)
  have B2 := (hb.alloc hb.size _).trans (b2.mono hs)
  obtain ⟨b', off', e, hbb, c0, c1, c2'⟩ := (HH.out.below B2 (Nat.le_refl _)).cells k hk
  simp only [Option.some.injEq, Addr.mk.injEq, and_true] at e
  obtain ⟨rfl, rfl⟩ := e
  clear t2 g2 b2
  by_cases hu : (bk l k).u = true
  · rw [hu] at c2'
    clear hu hz
    go_wp2_with (refine (l1In_yes _ _ _ _ (by omega)).mono ?_; rintro e w' ⟨rfl, rfl⟩)
    exact bodyPost_ret (v := .tuple #[.slice A2 n c2, .bool false]) (by simp [results, Try.results35, go_sem]) rfl (postL_of ⟨_, rfl, o2.mono hs, B2⟩)
  · have hz2 := hz.resolve_left hu
    have hu2 : (bk l k).u = false := by simpa using hu
    rw [hu2] at c2'
    clear hu hz hu2
    go_wp2_with (first
      | (refine (l1In_yes _ _ _ _ (by omega)).mono ?_; rintro e w' ⟨rfl, rfl⟩)
      | (refine (l1In_no _ _ _ _ (by omega)).mono ?_; rintro e w' ⟨rfl, rfl⟩))
    exact bodyPost_ret (v := .tuple #[.slice A2 n c2, .bool false]) (by simp [results, Try.results35, go_sem]) rfl (postL_of ⟨_, rfl, o2.mono hs, B2⟩)

set_option maxRecDepth 100000 in
set_option maxHeartbeats 4000000 in
theorem sTake_yes (b off n c k : Nat) (l : List Blk) (t z : Int) (w : World) (h : Lst w w.heap.size (some ⟨b, off, none⟩) n l) (hnc : n ≤ c) (hv : V l t) (hk : k < n) (hu : (bk l k).u = false) (hz : 1 ≤ z) (hz2 : z ≤ (bk l k).z) :
    Calls Try.prog 35 #[.slice (some ⟨b, off, none⟩) n c, .int .i64 t, .int .i64 k, .int .i64 z] w (PostL (Pl.take l k z) (.bool true) w) := by
  have hn : n ≤ 1048576 := by have := (V_len hv); have := h.len; omega
  have hki : (k : Int) < n := by omega
  have hk0 : (0 : Int) ≤ (k : Int) := by omega
  have hkc : k ≤ c := by omega
  have hbd : 0 ≤ (bk l k).s ∧ (bk l k).s + (bk l k).z ≤ 256 := by
    have hh := V_blk hv (k := k) (by have := h.len; omega)
    have := V_len hv
    omega
  obtain ⟨hbd0, hbd1⟩ := hbd
  have HN := Lib.hid h.len
  have HL : RowKit.Hid ((l.take k).length = k) := Lib.hid (by have := h.len; simp; omega)
  go_enter Try.func35, Try.ntmps35
  go_wp2_with fail
  refine (sValid_yes _ n c l t w h hv).mono ?_
  rintro e w1 ⟨rfl, hb⟩
  have H1 := Lib.hid (h.below (hb.alloc hb.size (.cells #[] 39)) (Nat.le_refl _))
  have HH := Lib.hid h
  have hs := hb.size
  clear h hv
  go_wp2_with (at_builtin; refine append_blk (by rfl) _ _ (by rfl) w1.heap.size w.heap.size [] l _ (some ⟨b, off, none⟩) n c (by rfl) (own_empty w1) (by rfl) H1.out (by simp; omega) (by simp) n (by simp) ?_; intro A2 c2 w2 o2 b2 g2 t2)
  have B2 := (hb.alloc hb.size _).trans (b2.mono hs)
  obtain ⟨b', off', e, hbb, c0, c1, c2'⟩ := (HH.out.below B2 (Nat.le_refl _)).cells k hk
  simp only [Option.some.injEq, Addr.mk.injEq, and_true] at e
  obtain ⟨rfl, rfl⟩ := e
  rw [hu] at c2'
  have HT := Lib.hid (fun (w' : World) (hw' : Below w.heap.size w w') => lst_take (HH.out.below hw' (Nat.le_refl _)) (Nat.le_of_lt hk))
  have HD := Lib.hid (fun (w' : World) (hw' : Below w.heap.size w w') (hk1 : k + 1 ≤ n) => lst_drop (HH.out.below hw' (Nat.le_refl _)) hk1)
  have HZ := Lib.hid (fun (w' : World) (A : Option Addr) (hck : n ≤ k + 1) => (by rw [List.drop_eq_nil_of_le (by have := HN.out; omega)]; exact ⟨rfl, fun j hj => by omega⟩ : Lst w' w.heap.size A 0 (l.drop (k + 1))))
  have z2 := B2.size
  clear t2 g2 b2 o2
  by_cases hck : c = k + 1
  case' pos =>
    subst hck
    obtain ⟨n0, hn0⟩ : ∃ n0 : Nat, n0 = n := ⟨_, rfl⟩
    obtain rfl : n = k + 1 := by omega
  case' neg => obtain ⟨n0, hn0⟩ : ∃ n0 : Nat, n0 = n := ⟨_, rfl⟩
  all_goals
    have HN0 := Lib.hid hn0
    clear hn0
    by_cases hgt : z < (bk l k).z
    · go_wp2_with (first
        | (refine (l1In_yes _ _ _ _ (by omega)).mono ?_; rintro e w' ⟨rfl, rfl⟩)
        | (at_builtin; refine append_blk (by rfl) _ _ (by rfl) (w2.heap.size + 1) w.heap.size [] (l.take k) _ (some ⟨b, off, none⟩) k _ (by rfl) (own_emptyH (w2.alloc (.cells #[.int .i64 (bk l k).s, .int .i64 (bk l k).z, .bool false] 39)) (w2.heap.size + 1) (by simp)) (by rfl) (HT.out _ ((B2.alloc B2.size _).alloc (by simp; omega) _)) (by simp; omega) (by simp) k (by simp) ?_; intro A3 c3 w3 o3 b3 g3 t3; have K3 := ((Bk.new w2 #[.int .i64 (bk l k).s, .int .i64 (bk l k).z, .bool false] 39).alloc (.cells #[] 39)).below b3 (by omega); have B3 := ((B2.alloc B2.size (.cells #[.int .i64 (bk l k).s, .int .i64 (bk l k).z, .bool false] 39)).alloc (by simp; omega) (.cells #[] 39)).trans (b3.mono (by omega)); have d0 := K3.cell 0; have d1 := K3.cell 1; have z3 : w2.heap.size + 1 ≤ w3.heap.size := Nat.le_trans (by simp) b3.size)
        | (at_builtin; refine append_blk (by rfl) _ _ (by rfl) (w2.heap.size + 1) _ ([] ++ l.take k) [⟨(bk l k).s, z, true⟩] _ (some ⟨w3.heap.size, 0, none⟩) 1 1 (by rfl) (o3.below ((Below.refl _ _).alloc (Nat.le_refl _) _)) (by rfl) (lst_one (Bk.new w3 #[.int .i64 (bk l k).s, .int .i64 z, .bool true] 39)) (by rw [List.nil_append, HL.out]; omega) (by simp; omega) (k + 1) (by rw [List.nil_append, HL.out]) ?_; intro A4 c4 w4 o4 b4 g4 t4; have K4 := (K3.alloc (.cells #[.int .i64 (bk l k).s, .int .i64 z, .bool true] 39)).below b4 (by omega); have B4 := (B3.alloc B3.size (.cells #[.int .i64 (bk l k).s, .int .i64 z, .bool true] 39)).trans (b4.mono (by omega)); have e0 := K4.cell 0; have e1 := K4.cell 1; have z4 : w3.heap.size ≤ w4.heap.size := Nat.le_trans (by simp) b4.size)
        | (at_builtin; refine append_blk (by rfl) _ _ (by rfl) (w2.heap.size + 1) _ ([] ++ l.take k ++ [⟨(bk l k).s, z, true⟩]) [⟨(bk l k).s + z, (bk l k).z - z, false⟩] _ (some ⟨w4.heap.size, 0, none⟩) 1 1 (by rfl) (o4.below ((Below.refl _ _).alloc (Nat.le_refl _) _)) (by rfl) (lst_one (Bk.new w4 #[.int .i64 ((bk l k).s + z), .int .i64 ((bk l k).z - z), .bool false] 39)) (by rw [List.length_append, List.nil_append, HL.out]; simp; omega) (by simp; omega) (k + 1 + 1) (by rw [List.length_append, List.nil_append, HL.out]; rfl) ?_; intro A5 c5 w5 o5 b5 g5 t5; have B5 := (B4.alloc B4.size (.cells #[.int .i64 ((bk l k).s + z), .int .i64 ((bk l k).z - z), .bool false] 39)).trans (b5.mono (by omega)); have z5 : w4.heap.size ≤ w5.heap.size := Nat.le_trans (by simp) b5.size)
        | (at_builtin; go_loud (refine append_blk (by rfl) _ _ (by rfl) (w2.heap.size + 1) w.heap.size _ (l.drop (k + 1)) _ _ _ _ (by rfl) o5 (by rfl) (by first | exact HD.out _ B5 (by omega) | exact HZ.out _ _ (by omega)) (by simp [HL.out]; omega) (by omega) (n0 + 1) (by have := HN0.out; simp [HL.out]; omega) ?_); intro A6 c6 w6 o6 b6 g6 t6))
      exact bodyPost_ret (v := .tuple #[.slice A6 (n0 + 1) c6, .bool true]) (by simp [results, Try.results35, go_sem]) rfl (postL_of ⟨_, rfl, by rw [← take_eq1 hgt]; exact o6.mono (by omega), B5.trans (b6.mono (by omega))⟩)
    · go_wp2_with (first
        | (refine (l1In_yes _ _ _ _ (by omega)).mono ?_; rintro e w' ⟨rfl, rfl⟩)
        | (at_builtin; refine append_blk (by rfl) _ _ (by rfl) (w2.heap.size + 1) w.heap.size [] (l.take k) _ (some ⟨b, off, none⟩) k _ (by rfl) (own_emptyH (w2.alloc (.cells #[.int .i64 (bk l k).s, .int .i64 (bk l k).z, .bool false] 39)) (w2.heap.size + 1) (by simp)) (by rfl) (HT.out _ ((B2.alloc B2.size _).alloc (by simp; omega) _)) (by simp; omega) (by simp) k (by simp) ?_; intro A3 c3 w3 o3 b3 g3 t3; have K3 := ((Bk.new w2 #[.int .i64 (bk l k).s, .int .i64 (bk l k).z, .bool false] 39).alloc (.cells #[] 39)).below b3 (by omega); have B3 := ((B2.alloc B2.size (.cells #[.int .i64 (bk l k).s, .int .i64 (bk l k).z, .bool false] 39)).alloc (by simp; omega) (.cells #[] 39)).trans (b3.mono (by omega)); have d0 := K3.cell 0; have d1 := K3.cell 1; have z3 : w2.heap.size + 1 ≤ w3.heap.size := Nat.le_trans (by simp) b3.size)
        | (at_builtin; refine append_blk (by rfl) _ _ (by rfl) (w2.heap.size + 1) _ ([] ++ l.take k) [⟨(bk l k).s, z, true⟩] _ (some ⟨w3.heap.size, 0, none⟩) 1 1 (by rfl) (o3.below ((Below.refl _ _).alloc (Nat.le_refl _) _)) (by rfl) (lst_one (Bk.new w3 #[.int .i64 (bk l k).s, .int .i64 z, .bool true] 39)) (by rw [List.nil_append, HL.out]; omega) (by simp; omega) (k + 1) (by rw [List.nil_append, HL.out]) ?_; intro A4 c4 w4 o4 b4 g4 t4; have K4 := (K3.alloc (.cells #[.int .i64 (bk l k).s, .int .i64 z, .bool true] 39)).below b4 (by omega); have B4 := (B3.alloc B3.size (.cells #[.int .i64 (bk l k).s, .int .i64 z, .bool true] 39)).trans (b4.mono (by omega)); have e0 := K4.cell 0; have e1 := K4.cell 1; have z4 : w3.heap.size ≤ w4.heap.size := Nat.le_trans (by simp) b4.size)
        | (at_builtin; go_loud (refine append_blk (by rfl) _ _ (by rfl) (w2.heap.size + 1) w.heap.size _ (l.drop (k + 1)) _ _ _ _ (by rfl) o4 (by rfl) (by first | exact HD.out _ B4 (by omega) | exact HZ.out _ _ (by omega)) (by simp [HL.out]; omega) (by omega) n0 (by have := HN0.out; simp [HL.out]; omega) ?_); intro A6 c6 w6 o6 b6 g6 t6))
      exact bodyPost_ret (v := .tuple #[.slice A6 n0 c6, .bool true]) (by simp [results, Try.results35, go_sem]) rfl (postL_of ⟨_, rfl, by rw [← take_eq2 (show ¬ z < (bk l k).z by omega)]; exact o6.mono (by omega), B4.trans (b6.mono (by omega))⟩)

end Go.Proofs.Ytidkejmphhpjlaa.Wk
