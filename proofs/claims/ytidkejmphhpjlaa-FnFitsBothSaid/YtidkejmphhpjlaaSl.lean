/- SlideBlocks, of the program and of the reference. Conditions: none. -/
import Derived.Test.YtidkejmphhpjlaaTkb
import Derived.Test.YtidkejmphhpjlaaBlkSl
namespace Go.Proofs.Ytidkejmphhpjlaa.Wk
open Go.RowKit Go.Proofs.Ytidkejmphhpjlaa.Pl

/-- What has been made of the first j blocks. -/
def SlAt (l : List Blk) (j : Nat) (e m : Int) (R : List Blk) : Prop := e = uw (l.take j) ∧ m = mvd 0 (l.take j) ∧ R = slU 0 (l.take j)

theorem SlAt_zero (l : List Blk) : SlAt l 0 0 0 [] := ⟨rfl, rfl, rfl⟩
theorem SlAt_free {l : List Blk} {j : Nat} {e m : Int} {R : List Blk} (h : SlAt l j e m R) (hj : j < l.length) (hu : (bk l j).u = false) : SlAt l (j + 1) e m R := by
  obtain ⟨h1, h2, h3⟩ := h
  refine ⟨?_, ?_, ?_⟩
  · rw [uw_take hj, hu]; simpa using h1
  · rw [mvd_take hj, hu]; simpa using h2
  · rw [slU_take hj, hu]; simpa using h3
theorem SlAt_same {l : List Blk} {j : Nat} {e m : Int} {R : List Blk} (h : SlAt l j e m R) (hj : j < l.length) (hu : (bk l j).u = true) (hs : (bk l j).s = e) : SlAt l (j + 1) (e + (bk l j).z) m (R ++ [⟨e, (bk l j).z, true⟩]) := by
  obtain ⟨h1, h2, h3⟩ := h
  subst h1
  refine ⟨?_, ?_, ?_⟩
  · rw [uw_take hj, hu]; simp
  · rw [mvd_take hj, hu, hs]; simpa using h2
  · rw [slU_take hj, hu, h3]; simp
theorem SlAt_move {l : List Blk} {j : Nat} {e m : Int} {R : List Blk} (h : SlAt l j e m R) (hj : j < l.length) (hu : (bk l j).u = true) (hs : ¬ (bk l j).s = e) : SlAt l (j + 1) (e + (bk l j).z) (m + (bk l j).z) (R ++ [⟨e, (bk l j).z, true⟩]) := by
  obtain ⟨h1, h2, h3⟩ := h
  subst h1
  refine ⟨?_, ?_, ?_⟩
  · rw [uw_take hj, hu]; simp
  · rw [mvd_take hj, hu]; simp [hs, h2]
  · rw [slU_take hj, hu, h3]; simp
theorem SlAt_bd {l : List Blk} {t : Int} {j : Nat} {e m : Int} {R : List Blk} (hv : V l t) (h : SlAt l j e m R) : 0 ≤ e ∧ e ≤ t ∧ 0 ≤ m ∧ m ≤ t ∧ R.length ≤ j := by
  obtain ⟨rfl, rfl, rfl⟩ := h
  obtain ⟨h1, h2, h3, h4⟩ := uw_take_bd hv j
  have := slU_len 0 (l.take j)
  have := List.length_take_le j l
  exact ⟨h1, h2, h3, h4, by omega⟩
theorem SlAt_next {l : List Blk} {t : Int} {j : Nat} (hv : V l t) (hj : j < l.length) : 1 ≤ (bk l j).z ∧ (bk l j).z ≤ 256 ∧ -1000 ≤ (bk l j).s ∧ (bk l j).s ≤ 256 := by
  have h1 := V_blk hv hj
  have := V_len hv
  omega
theorem SlAt_all {l : List Blk} {e m : Int} {R : List Blk} (h : SlAt l l.length e m R) (t : Int) : (e < t → R ++ [⟨e, t - e, false⟩] = slide l t) ∧ (¬ e < t → R = slide l t) ∧ m = mvd 0 l := by
  obtain ⟨h1, h2, h3⟩ := h
  rw [List.take_length] at h1 h2 h3
  subst h1 h2 h3
  refine ⟨fun h => ?_, fun h => ?_, rfl⟩
  · unfold slide; rw [if_pos h]
  · unfold slide; rw [if_neg h, List.append_nil]

theorem sSlide_inv (A : Option Addr) (n c : Nat) (l : List Blk) (t : Int) (w : World) (h : Lst w w.heap.size A n l) (hv : ¬ V l t) (hnm : n ≤ 1125899906842624) :
    Calls Try.prog 38 #[.slice A n c, .int .i64 t] w (PostL [] (.int .i64 (-1)) w) := by
  have H := Lib.hid (h.up ((Below.refl w.heap.size w).alloc (Nat.le_refl _) (.cells #[] 39)) (Nat.le_refl _) (B2 := (w.alloc (.cells #[] 39)).heap.size) (by simp))
  clear h
  go_enter Try.func38, Try.ntmps38
  go_wp2_with fail
  refine (sValid_no A n c l t _ H.out hv hnm).mono ?_
  rintro e w1 ⟨rfl, hb⟩
  go_wp2
  exact bodyPost_ret (v := .tuple #[.slice (some ⟨w.heap.size, 0, none⟩) 0 0, .int .i64 (-1)]) (by simp [results, Try.results38, go_sem]) rfl ⟨_, _, rfl, (own_empty w).below hb, ((Below.refl _ _).alloc (Nat.le_refl _) _).trans (hb.mono (by simp))⟩

theorem iSlide_inv (A : Option Addr) (n c : Nat) (l : List Blk) (t : Int) (w : World) (h : Lst w w.heap.size A n l) (hv : ¬ V l t) (hnm : n ≤ 1125899906842624) :
    Calls Try.prog 39 #[.slice A n c, .int .i64 t] w (PostL [] (.int .i64 (-1)) w) := by
  go_enter Try.func39, Try.ntmps39
  go_wp2_with fail
  refine (iValid_no A n c l t w h hv hnm).mono ?_
  rintro e w1 ⟨rfl, hb⟩
  go_wp2
  exact bodyPost_ret (v := .tuple #[.slice none 0 0, .int .i64 (-1)]) (by simp [results, Try.results39, go_sem]) rfl ⟨_, _, rfl, Own.nil _ _, hb⟩

set_option maxRecDepth 100000 in
set_option maxHeartbeats 4000000 in
theorem sSlide_yes (b off n c : Nat) (l : List Blk) (t : Int) (w : World) (h : Lst w w.heap.size (some ⟨b, off, none⟩) n l) (hv : V l t) :
    Calls Try.prog 38 #[.slice (some ⟨b, off, none⟩) n c, .int .i64 t] w (PostL (slide l t) (.int .i64 (mvd 0 l)) w) := by
  obtain ⟨hl, ht2, ht1⟩ := V_len hv
  have hn1 : n ≤ 256 := by have := h.len; omega
  have HN := Lib.hid h.len
  have HV := Lib.hid hv
  have HH := Lib.hid h
  have H := Lib.hid (h.up ((Below.refl w.heap.size w).alloc (Nat.le_refl _) (.cells #[] 39)) (Nat.le_refl _) (B2 := (w.alloc (.cells #[] 39)).heap.size) (by simp))
  clear h hv
  go_enter Try.func38, Try.ntmps38
  go_wp2_with fail
  refine (sValid_yes _ n c l t _ H.out HV.out).mono ?_
  rintro e w1 ⟨rfl, hb⟩
  have O1 := Lib.hid ((own_empty w).below hb)
  have B1 := ((Below.refl w.heap.size w).alloc (Nat.le_refl _) (.cells #[] 39)).trans (hb.mono (by simp))
  clear hb
  go_wp2
  go_loopw [6, 7, 8, 9] (fun o a q i wr => ∃ (k N cp : Nat) (e m : Int) (A : Option Addr) (R : List Blk), k ≤ n ∧ i = .int .i64 k ∧ a = .int .i64 e ∧ q = .int .i64 m ∧ o = .slice A N cp ∧ SlAt l k e m R ∧ Own wr w.heap.size (.slice A N cp) R ∧ Below w.heap.size w wr) (fun _ _ _ i _ => n - (intOf i).toNat)
  case atStart => exact ⟨0, 0, 0, 0, 0, _, [], Nat.zero_le _, rfl, rfl, rfl, rfl, SlAt_zero l, O1.out, B1⟩
  case round =>
    obtain ⟨k, N, cp, e, m, A, R, hk, rfl, rfl, rfl, rfl, ha, hown, hb⟩ := hrel
    obtain ⟨g1, g2, g3, g4, g5⟩ := SlAt_bd HV.out ha
    have OW := Lib.hid hown
    have HR := Lib.hid (own_form hown).1
    clear hown O1 B1
    by_cases hlt : k < n
    · have hkl : k < l.length := by have := HN.out; omega
      obtain ⟨b', off', e', hbb, c0, c1, c2⟩ := (HH.out.below hb (Nat.le_refl _)).cells k hlt
      simp only [Option.some.injEq, Addr.mk.injEq, and_true] at e'
      obtain ⟨rfl, rfl⟩ := e'
      obtain ⟨j1, j2, j3, j4⟩ := SlAt_next HV.out hkl
      have hNl : N ≤ 256 := by have := HR.out; omega
      by_cases hu : (bk l k).u = true
      · have S1 := Lib.hid (fun hs => SlAt_same ha hkl hu hs)
        have S2 := Lib.hid (fun hs => SlAt_move ha hkl hu hs)
        rw [hu] at c2
        clear hu ha
        have hbn := hb
        by_cases hs : (bk l k).s = e
        · have S := Lib.hid (S1.out hs)
          clear S1 S2
          have hs2 := Lib.hid hs
          rw [hs] at c0
          clear hs
          go_wp2_with (at_builtin; refine append_blk (by rfl) _ _ (by rfl) w.heap.size _ R [⟨e, (bk l k).z, true⟩] _ (some ⟨wr.heap.size, 0, none⟩) 1 1 (by rfl) (OW.out.below ((Below.refl _ _).alloc (Nat.le_refl _) _)) (by rfl) (lst_one (Bk.new wr #[.int .i64 e, .int .i64 (bk l k).z, .bool true] 39)) (by have := HR.out; omega) (by have := hbn.size; simp; omega) (N + 1) (by have := HR.out; omega) ?_; intro A3 c3 w3 o3 b3 g3 t3; have B3 := (hbn.alloc hbn.size (.cells #[.int .i64 e, .int .i64 (bk l k).z, .bool true] 39)).trans b3; have q3 := (HH.out.below B3 (Nat.le_refl _)).cells k hlt; obtain ⟨b', off', e', _, d0, d1, d2⟩ := q3; simp only [Option.some.injEq, Addr.mk.injEq, and_true] at e'; obtain ⟨rfl, rfl⟩ := e')
          go_roundw
          case rel => exact ⟨k + 1, N + 1, c3, _, _, A3, _, by omega, by go_num, rfl, rfl, rfl, S.out, o3, B3⟩
          case measure => simp [intOf]; omega
        · have S := Lib.hid (S2.out hs)
          clear S1 S2
          go_wp2_with (at_builtin; refine append_blk (by rfl) _ _ (by rfl) w.heap.size _ R [⟨e, (bk l k).z, true⟩] _ (some ⟨wr.heap.size, 0, none⟩) 1 1 (by rfl) (OW.out.below ((Below.refl _ _).alloc (Nat.le_refl _) _)) (by rfl) (lst_one (Bk.new wr #[.int .i64 e, .int .i64 (bk l k).z, .bool true] 39)) (by have := HR.out; omega) (by have := hbn.size; simp; omega) (N + 1) (by have := HR.out; omega) ?_; intro A3 c3 w3 o3 b3 g3 t3; have B3 := (hbn.alloc hbn.size (.cells #[.int .i64 e, .int .i64 (bk l k).z, .bool true] 39)).trans b3; have q3 := (HH.out.below B3 (Nat.le_refl _)).cells k hlt; obtain ⟨b', off', e', _, d0, d1, d2⟩ := q3; simp only [Option.some.injEq, Addr.mk.injEq, and_true] at e'; obtain ⟨rfl, rfl⟩ := e')
          go_roundw
          case rel => exact ⟨k + 1, N + 1, c3, _, _, A3, _, by omega, by go_num, rfl, rfl, rfl, S.out, o3, B3⟩
          case measure => simp [intOf]; omega
      · have hu2 : (bk l k).u = false := by simpa using hu
        have S := Lib.hid (SlAt_free ha hkl hu2)
        rw [hu2] at c2
        clear hu hu2 ha
        go_wp2
        go_roundw
        case rel => exact ⟨k + 1, N, cp, _, _, A, _, by omega, by go_num, rfl, rfl, rfl, S.out, OW.out, hb⟩
        case measure => simp [intOf]; omega
    · have hkn : k = n := by omega
      subst hkn
      have hsz := hb.size
      have hNl : N ≤ 256 := by have := HR.out; omega
      have HE := Lib.hid (SlAt_all (by rw [HN.out] at ha; exact ha) t)
      clear ha
      by_cases het : e < t
      · go_wp2_with (at_builtin; refine append_blk (by rfl) _ _ (by rfl) w.heap.size _ R [⟨e, t - e, false⟩] _ (some ⟨wr.heap.size, 0, none⟩) 1 1 (by rfl) (OW.out.below ((Below.refl _ _).alloc (Nat.le_refl _) _)) (by rfl) (lst_one (Bk.new wr #[.int .i64 e, .int .i64 (t - e), .bool false] 39)) (by have := HR.out; omega) (by simp; omega) (N + 1) (by have := HR.out; omega) ?_; intro A3 c3 w3 o3 b3 g3 t3; have B3 := (hb.alloc hb.size (.cells #[.int .i64 e, .int .i64 (t - e), .bool false] 39)).trans b3)
        exact bodyPost_ret (v := .tuple #[.slice A3 (N + 1) c3, .int .i64 m]) (by simp [results, Try.results38, go_sem]) rfl (postL_of ⟨_, by rw [HE.out.2.2], by rw [← HE.out.1 het]; exact o3, B3⟩)
      · go_wp2
        exact bodyPost_ret (v := .tuple #[.slice A N cp, .int .i64 m]) (by simp [results, Try.results38, go_sem]) rfl (postL_of ⟨_, by rw [HE.out.2.2], by rw [← HE.out.2.1 (by omega)]; exact OW.out, hb⟩)

theorem Bk.newH (w : World) (cs : Array Value) (T : TypeId) {H : Nat} (hH : w.heap.size = H) : Bk (w.alloc (.cells cs T)) H cs T := by subst hH; exact Bk.new w cs T
theorem Bk.row {w w' : World} {b : Nat} {cs : Array Value} {T : TypeId} {r : Option Nat} (h : Bk w b cs T) (hg : w.grownBy w' r) (hb : some b ≠ r) : Bk w' b cs T := (hg.block b h.lt hb).trans h

set_option maxRecDepth 100000 in
set_option maxHeartbeats 4000000 in
theorem iSlide_yes (b off n c : Nat) (l : List Blk) (t : Int) (w : World) (h : Lst w w.heap.size (some ⟨b, off, none⟩) n l) (hv : V l t) :
    Calls Try.prog 39 #[.slice (some ⟨b, off, none⟩) n c, .int .i64 t] w (PostL (slide l t) (.int .i64 (mvd 0 l)) w) := by
  obtain ⟨hl, ht2, ht1⟩ := V_len hv
  have hn1 : n ≤ 256 := by have := h.len; omega
  have HN := Lib.hid h.len
  have HV := Lib.hid hv
  have HH := Lib.hid h
  clear h hv
  go_enter Try.func39, Try.ntmps39
  go_wp2_with fail
  refine (iValid_yes _ n c l t _ HH.out HV.out).mono ?_
  rintro e w1 ⟨rfl, hb⟩
  have O1 := Lib.hid ((own_empty w1).mono hb.size)
  have B1 := hb.alloc hb.size (.cells #[] 39)
  clear hb
  go_wp2
  go_loopw [6, 7, 8, 18] (fun o a q i wr => ∃ (k N cp : Nat) (e m : Int) (A : Option Addr) (R : List Blk), k ≤ n ∧ i = .int .i64 k ∧ a = .int .i64 e ∧ q = .int .i64 m ∧ o = .slice A N cp ∧ SlAt l k e m R ∧ Own wr w.heap.size (.slice A N cp) R ∧ Below w.heap.size w wr) (fun _ _ _ i _ => n - (intOf i).toNat)
  case atStart => exact ⟨0, 0, 0, 0, 0, _, [], Nat.zero_le _, rfl, rfl, rfl, rfl, SlAt_zero l, O1.out, B1⟩
  case round =>
    obtain ⟨k, N, cp, e, m, A, R, hk, rfl, rfl, rfl, rfl, ha, hown, hb⟩ := hrel
    obtain ⟨g1, g2, g3, g4, g5⟩ := SlAt_bd HV.out ha
    have OW := Lib.hid hown
    have HR := Lib.hid (own_form hown).1
    clear hown O1 B1
    by_cases hlt : k < n
    · have hkl : k < l.length := by have := HN.out; omega
      obtain ⟨b', off', e', hbb, c0, c1, c2⟩ := (HH.out.below hb (Nat.le_refl _)).cells k hlt
      simp only [Option.some.injEq, Addr.mk.injEq, and_true] at e'
      obtain ⟨rfl, rfl⟩ := e'
      obtain ⟨j1, j2, j3, j4⟩ := SlAt_next HV.out hkl
      have hNl : N ≤ 256 := by have := HR.out; omega
      by_cases hu : (bk l k).u = true
      · have S1 := Lib.hid (fun hs => SlAt_same ha hkl hu hs)
        have S2 := Lib.hid (fun hs => SlAt_move ha hkl hu hs)
        rw [hu] at c2
        clear hu ha
        have hbn := hb
        by_cases hs : (bk l k).s = e
        · have S := Lib.hid (S1.out hs)
          clear S1 S2
          have hs2 := Lib.hid hs
          rw [hs] at c0
          clear hs
          go_wp2_with (at_builtin; refine append_blk (by rfl) _ _ (by rfl) w.heap.size _ R [⟨e, (bk l k).z, true⟩] _ (some ⟨wr.heap.size + 1, 0, none⟩) 1 1 (by rfl) (OW.out.below (((Below.refl _ _).alloc (Nat.le_refl _) (.cells #[.int .i64 e, .int .i64 (bk l k).z, .bool true] 39)).alloc (by simp) (.cells #[.int .i64 e, .int .i64 (bk l k).z, .bool true] 39))) (by rfl) (lst_one (Bk.newH (wr.alloc (.cells #[.int .i64 e, .int .i64 (bk l k).z, .bool true] 39)) _ _ (by simp))) (by have := HR.out; omega) (by have := hbn.size; simp; omega) (N + 1) (by have := HR.out; omega) ?_; intro A3 c3 w3 o3 b3 g3 t3; have B3 := ((hbn.alloc hbn.size (.cells #[.int .i64 e, .int .i64 (bk l k).z, .bool true] 39)).alloc (by have := hbn.size; simp; omega) (.cells #[.int .i64 e, .int .i64 (bk l k).z, .bool true] 39)).trans b3; have K3 := ((Bk.new wr #[.int .i64 e, .int .i64 (bk l k).z, .bool true] 39).alloc (.cells #[.int .i64 e, .int .i64 (bk l k).z, .bool true] 39)).row g3 (fun e => by have := own_at OW.out _ e.symm; omega); have d0 := K3.cell 1)
          go_roundw
          case rel => exact ⟨k + 1, N + 1, c3, _, _, A3, _, by omega, by go_num, rfl, rfl, rfl, S.out, o3, B3⟩
          case measure => simp [intOf]; omega
        · have S := Lib.hid (S2.out hs)
          clear S1 S2
          go_wp2_with (at_builtin; refine append_blk (by rfl) _ _ (by rfl) w.heap.size _ R [⟨e, (bk l k).z, true⟩] _ (some ⟨wr.heap.size + 1, 0, none⟩) 1 1 (by rfl) (OW.out.below (((Below.refl _ _).alloc (Nat.le_refl _) (.cells #[.int .i64 (bk l k).s, .int .i64 (bk l k).z, .bool true] 39)).alloc (by simp) (.cells #[.int .i64 e, .int .i64 (bk l k).z, .bool true] 39))) (by rfl) (lst_one (Bk.newH (wr.alloc (.cells #[.int .i64 (bk l k).s, .int .i64 (bk l k).z, .bool true] 39)) _ _ (by simp))) (by have := HR.out; omega) (by have := hbn.size; simp; omega) (N + 1) (by have := HR.out; omega) ?_; intro A3 c3 w3 o3 b3 g3 t3; have B3 := ((hbn.alloc hbn.size (.cells #[.int .i64 (bk l k).s, .int .i64 (bk l k).z, .bool true] 39)).alloc (by have := hbn.size; simp; omega) (.cells #[.int .i64 e, .int .i64 (bk l k).z, .bool true] 39)).trans b3; have K3 := ((Bk.new wr #[.int .i64 (bk l k).s, .int .i64 (bk l k).z, .bool true] 39).alloc (.cells #[.int .i64 e, .int .i64 (bk l k).z, .bool true] 39)).row g3 (fun e => by have := own_at OW.out _ e.symm; omega); have d0 := K3.cell 1)
          go_roundw
          case rel => exact ⟨k + 1, N + 1, c3, _, _, A3, _, by omega, by go_num, rfl, rfl, rfl, S.out, o3, B3⟩
          case measure => simp [intOf]; omega
      · have hu2 : (bk l k).u = false := by simpa using hu
        have S := Lib.hid (SlAt_free ha hkl hu2)
        rw [hu2] at c2
        clear hu hu2 ha
        go_wp2
        go_roundw
        case rel => exact ⟨k + 1, N, cp, _, _, A, _, by omega, by go_num, rfl, rfl, rfl, S.out, OW.out.below ((Below.refl _ _).alloc (Nat.le_refl _) _), hb.alloc hb.size _⟩
        case measure => simp [intOf]; omega
    · have hkn : k = n := by omega
      subst hkn
      have hsz := hb.size
      have hNl : N ≤ 256 := by have := HR.out; omega
      have HE := Lib.hid (SlAt_all (by rw [HN.out] at ha; exact ha) t)
      clear ha
      by_cases het : e < t
      · go_wp2_with (at_builtin; refine append_blk (by rfl) _ _ (by rfl) w.heap.size _ R [⟨e, t - e, false⟩] _ (some ⟨wr.heap.size, 0, none⟩) 1 1 (by rfl) (OW.out.below ((Below.refl _ _).alloc (Nat.le_refl _) _)) (by rfl) (lst_one (Bk.new wr #[.int .i64 e, .int .i64 (t - e), .bool false] 39)) (by have := HR.out; omega) (by simp; omega) (N + 1) (by have := HR.out; omega) ?_; intro A3 c3 w3 o3 b3 g3 t3; have B3 := (hb.alloc hb.size (.cells #[.int .i64 e, .int .i64 (t - e), .bool false] 39)).trans b3)
        exact bodyPost_ret (v := .tuple #[.slice A3 (N + 1) c3, .int .i64 m]) (by simp [results, Try.results39, go_sem]) rfl (postL_of ⟨_, by rw [HE.out.2.2], by rw [← HE.out.1 het]; exact o3, B3⟩)
      · go_wp2
        exact bodyPost_ret (v := .tuple #[.slice A N cp, .int .i64 m]) (by simp [results, Try.results39, go_sem]) rfl (postL_of ⟨_, by rw [HE.out.2.2], by rw [← HE.out.2.1 (by omega)]; exact OW.out, hb⟩)

end Go.Proofs.Ytidkejmphhpjlaa.Wk
