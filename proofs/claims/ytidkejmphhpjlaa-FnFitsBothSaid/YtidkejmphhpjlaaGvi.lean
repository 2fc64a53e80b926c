/- GiveBlock of the program gives. Conditions: valid blocks, a used block. -/
import Derived.Test.YtidkejmphhpjlaaGv
import Derived.StillTailTactics
import Derived.IntWalk
namespace Go.Proofs.Ytidkejmphhpjlaa.Wk
open Go.RowKit Go.Proofs.Ytidkejmphhpjlaa.Pl

set_option maxRecDepth 100000 in
set_option maxHeartbeats 8000000 in
theorem iGive_yes (b off n c x : Nat) (l : List Blk) (t : Int) (w : World) (h : Lst w w.heap.size (some ⟨b, off, none⟩) n l) (hv : V l t) (hx : x < n) (hux : (bk l x).u = true) :
    Calls Try.prog 41 #[.slice (some ⟨b, off, none⟩) n c, .int .i64 t, .int .i64 x] w (PostL (give l x) (.bool true) w) := by
  obtain ⟨hl, ht2, ht1⟩ := V_len hv
  have hn1 : n ≤ 256 := by have := h.len; omega
  have hxi : (x : Int) < n := by omega
  have hx0 : (0 : Int) ≤ (x : Int) := by omega
  have q1 : decide (n ≤ x) = false := by simp; omega
  have q2 : decide ((x : Int) < 0) = false := by simp
  have HN := Lib.hid h.len
  have HV := Lib.hid hv
  have HH := Lib.hid h
  clear h hv
  go_enter Try.func41, Try.ntmps41
  go_wp2_with fail
  refine (iValid_yes _ n c l t _ HH.out HV.out).mono ?_
  rintro e w1 ⟨rfl, hb⟩
  obtain ⟨b', off', e', hbb, c0, c1, c2⟩ := (HH.out.below hb (Nat.le_refl _)).cells x hx
  simp only [Option.some.injEq, Addr.mk.injEq, and_true] at e'
  obtain ⟨rfl, rfl⟩ := e'
  rw [hux] at c2
  have O1 := Lib.hid ((own_empty w1).mono hb.size)
  have B1 := hb.alloc hb.size (.cells #[] 39)
  clear hb
  go_wp2
  go_loopw [8, 37] (fun o i wr => ∃ (k N cp : Nat) (A : Option Addr) (R : List Blk), k ≤ n ∧ i = .int .i64 k ∧ o = .slice A N cp ∧ GvAt l x k R ∧ Own wr w.heap.size (.slice A N cp) R ∧ Below w.heap.size w wr) (fun _ i _ => n - (intOf i).toNat)
  case atStart => exact ⟨0, 0, 0, _, [], Nat.zero_le _, rfl, rfl, GvAt_zero l x, O1.out, B1⟩
  case round =>
    obtain ⟨k, N, cp, A, R, hk, rfl, rfl, ha, hown, hb⟩ := hrel
    have hxl : x < l.length := by have := HN.out; omega
    obtain ⟨g1, g2, g3⟩ := GvAt_bd HV.out hxl ha
    have OW := Lib.hid hown
    have HR := Lib.hid (own_form hown).1
    have HF := Lib.hid (own_form hown).2
    have G3 := Lib.hid g3
    clear hown O1 B1 c0 c1 c2 g3
    by_cases hlt : k < n
    · have hkl : k < l.length := by have := HN.out; omega
      obtain ⟨b', off', e', hbb, c0, c1, c2⟩ := (HH.out.below hb (Nat.le_refl _)).cells k hlt
      simp only [Option.some.injEq, Addr.mk.injEq, and_true] at e'
      obtain ⟨rfl, rfl⟩ := e'
      have hbl := V_blk HV.out hkl
      obtain ⟨j1, j2, j3⟩ := hbl
      have hNl : N ≤ 256 := by have := HR.out; omega
      have hsz := hb.size
      have hbw : b < wr.heap.size := by omega
      have HA := Lib.hid ha
      have HU := Lib.hid hux
      clear ha
      by_cases hkx : k = x
      · by_cases hN : N = 0
        · subst hN
          have x1 : ((k : Int) == (x : Int)) = true := by rw [beq_iff_eq]; omega
          have x2 : ((k : Int) != (x : Int)) = false := by rw [bne_eq_false_iff_eq]; omega
          have x3 : (k == x) = true := by rw [beq_iff_eq]; omega
          have x4 : (k != x) = false := by rw [bne_eq_false_iff_eq]; omega
          have hcu : (bk l k).u = true := by rw [hkx]; exact HU.out
          rw [hcu] at c2
          have SP := Lib.hid (GvAt_put HA.out hxl hkl false (by simp [hkx]) (.inr (.inl (by have := HR.out; omega))))
          clear hkx hcu hux
          go_wp2_with (at_builtin; go_loud (refine append_blk (by rfl) _ _ (by rfl) w.heap.size _ R [⟨(bk l k).s, (bk l k).z, false⟩] _ (some ⟨wr.heap.size + 1, 0, none⟩) 1 1 (by rfl) (OW.out.below (((Below.refl _ _).alloc (Nat.le_refl _) (.cells #[.int .i64 (bk l k).s, .int .i64 (bk l k).z, .bool false] 39)).alloc (by simp) (.cells #[.int .i64 (bk l k).s, .int .i64 (bk l k).z, .bool false] 39))) (by rfl) (lst_one (Bk.newH (wr.alloc (.cells #[.int .i64 (bk l k).s, .int .i64 (bk l k).z, .bool false] 39)) _ _ (by simp))) (by have := HR.out; omega) (by simp; omega) (0 + 1) (by have := HR.out; omega) ?_); intro A3 c3 w3 o3 b3 g3 t3; have B3 := ((hb.alloc hb.size (.cells #[.int .i64 (bk l k).s, .int .i64 (bk l k).z, .bool false] 39)).alloc (by simp; omega) (.cells #[.int .i64 (bk l k).s, .int .i64 (bk l k).z, .bool false] 39)).trans b3)
          go_roundw
          case rel => first | exact ⟨k + 1, 0 + 1, c3, A3, _, by omega, by go_num, rfl, SP.out, o3, B3⟩ | ((repeat apply Exists.intro); exact ⟨⟨k + 1, 0 + 1, c3, A3, _, by omega, by go_num, rfl, SP.out, o3, B3⟩, rfl⟩)
          case measure => simp [intOf]; omega
        · obtain ⟨M, rfl⟩ : ∃ M, N = M + 1 := ⟨N - 1, by omega⟩
          obtain ⟨g, rfl, hg0, hg1⟩ := HF.out (by omega)
          obtain ⟨b2, off2, e2, hb2, d0, d1, d2⟩ := (own_lst OW.out).cells M (by have := HR.out; omega)
          simp only [Option.some.injEq, Addr.mk.injEq, and_true] at e2
          obtain ⟨rfl, rfl⟩ := e2
          simp only [Nat.zero_add] at d0 d1 d2
          by_cases hr : (bk R M).u = true
          · have x1 : ((k : Int) == (x : Int)) = true := by rw [beq_iff_eq]; omega
            have x2 : ((k : Int) != (x : Int)) = false := by rw [bne_eq_false_iff_eq]; omega
            have x3 : (k == x) = true := by rw [beq_iff_eq]; omega
            have x4 : (k != x) = false := by rw [bne_eq_false_iff_eq]; omega
            have hcu : (bk l k).u = true := by rw [hkx]; exact HU.out
            rw [hcu] at c2
            have SP := Lib.hid (GvAt_put HA.out hxl hkl false (by simp [hkx]) (.inr (.inr (by rw [show R.length - 1 = M by have := HR.out; omega]; exact hr))))
            rw [hr] at d2
            clear hkx hcu hux hr
            go_wp2_with (at_builtin; go_loud (refine append_blk (by rfl) _ _ (by rfl) w.heap.size _ R [⟨(bk l k).s, (bk l k).z, false⟩] _ (some ⟨wr.heap.size + 1, 0, none⟩) 1 1 (by rfl) (OW.out.below (((Below.refl _ _).alloc (Nat.le_refl _) (.cells #[.int .i64 (bk l k).s, .int .i64 (bk l k).z, .bool false] 39)).alloc (by simp) (.cells #[.int .i64 (bk l k).s, .int .i64 (bk l k).z, .bool false] 39))) (by rfl) (lst_one (Bk.newH (wr.alloc (.cells #[.int .i64 (bk l k).s, .int .i64 (bk l k).z, .bool false] 39)) _ _ (by simp))) (by have := HR.out; omega) (by simp; omega) ((M + 1) + 1) (by have := HR.out; omega) ?_); intro A3 c3 w3 o3 b3 g3 t3; have B3 := ((hb.alloc hb.size (.cells #[.int .i64 (bk l k).s, .int .i64 (bk l k).z, .bool false] 39)).alloc (by simp; omega) (.cells #[.int .i64 (bk l k).s, .int .i64 (bk l k).z, .bool false] 39)).trans b3)
            go_roundw
            case rel => exact ⟨k + 1, (M + 1) + 1, c3, A3, _, by omega, by go_num, rfl, SP.out, o3, B3⟩
            case measure => simp [intOf]; omega
          · have hr2 : (bk R M).u = false := by simpa using hr
            clear hr
            have x1 : ((k : Int) == (x : Int)) = true := by rw [beq_iff_eq]; omega
            have x2 : ((k : Int) != (x : Int)) = false := by rw [bne_eq_false_iff_eq]; omega
            have x3 : (k == x) = true := by rw [beq_iff_eq]; omega
            have x4 : (k != x) = false := by rw [bne_eq_false_iff_eq]; omega
            have hcu : (bk l k).u = true := by rw [hkx]; exact HU.out
            rw [hcu] at c2
            have SJ := Lib.hid (GvAt_join HA.out hxl hkl (.inr hkx) (by have := HR.out; omega) (by rw [show R.length - 1 = M by have := HR.out; omega]; exact hr2))
            rw [show R.length - 1 = M by have := HR.out; omega] at SJ
            have OS := Lib.hid (fun (w' : World) (ho : Own w' w.heap.size (.slice (some ⟨g, 0, none⟩) (M + 1) cp) R) => own_set ho (i := M) (by have := HR.out; omega) ((bk R M).z + (bk l k).z) hr2)
            have hg3 := G3.out M (by have := HR.out; omega)
            obtain ⟨k1, k2, k3⟩ := hg3
            rw [hr2] at d2
            have hne : wr.heap.size ≠ g := by omega
            have hne' : g ≠ wr.heap.size := by omega
            have FZ := World.ownsRow.frozenAt (g := g) (show wr.ownsRow w.heap.size 39 3 (.slice (some ⟨g, 0, none⟩) R.length cp) R.length (cellsL R) by have e := HR.out; have := OW.out; rw [e] at this; exact this) (M * 3 + 1)
            clear hkx hcu hux hr2
            go_wp2
            obtain ⟨w2, hw2⟩ : ∃ y : World, wr.alloc (.cells #[.int .i64 (bk l k).s, .int .i64 (bk l k).z, .bool false] 39) = y := ⟨_, rfl⟩
            have X2 : Below wr.heap.size wr w2 := by rw [← hw2]; exact (Below.refl _ _).alloc (Nat.le_refl _) _
            have e1 : w2.cell? ⟨wr.heap.size, 1, none⟩ = some (.int .i64 (bk l k).z) := by rw [← hw2]; exact (Bk.new wr _ _).cell 1
            have e2 : w2.cell? ⟨g, M * 3 + 1, none⟩ = some (.int .i64 (bk R M).z) := (X2.cell (p := ⟨g, M * 3 + 1, none⟩) hg1).trans d1
            have f2 : w2.frozen? ⟨g, M * 3 + 1, none⟩ = false := (X2.frozen (p := ⟨g, M * 3 + 1, none⟩) hg1).trans FZ
            have i1 : (0 : Int) ≤ (M : Int) := by omega
            have i2 : (M : Int) < (M : Int) + 1 := by omega
            have i3 : IntKind.i64.wrap ((bk R M).z + (bk l k).z) = (bk R M).z + (bk l k).z := IntWalk.i64_in _ (by omega)
            rw [hw2]
            go_still_tail 10, (by kernel_rfl)
            change wpList _ _ _ _ _ w2.drew
            have e1' : w2.drew.cell? ⟨wr.heap.size, 1, none⟩ = some (.int .i64 (bk l k).z) := e1
            have e2' : w2.drew.cell? ⟨g, M * 3 + 1, none⟩ = some (.int .i64 (bk R M).z) := e2
            have f2' : w2.drew.frozen? ⟨g, M * 3 + 1, none⟩ = false := f2
            have X3 := X2.drew
            generalize w2.drew = w3 at e1' e2' f2' X3 ⊢
            clear e1 e2 f2 X2 hw2
            go_wp2
            go_roundw
            case rel => exact ⟨k + 1, M + 1, cp, some ⟨g, 0, none⟩, _, by omega, by go_num, rfl, SJ.out, OS.out _ (OW.out.below X3), (hb.trans (X3.mono hsz)).setCell (p := ⟨g, _, none⟩) hg0 _⟩
            case measure => simp [intOf]; omega
      · by_cases hu : (bk l k).u = true
        · by_cases hN : N = 0
          · subst hN
            have x1 : ((k : Int) == (x : Int)) = false := by rw [beq_eq_false_iff_ne]; omega
            have x2 : ((k : Int) != (x : Int)) = true := by rw [bne_iff_ne]; omega
            have x3 : (k == x) = false := by rw [beq_eq_false_iff_ne]; exact hkx
            have x4 : (k != x) = true := by rw [bne_iff_ne]; exact hkx
            have hcu : (bk l k).u = true := hu
            rw [hcu] at c2
            have SP := Lib.hid (GvAt_put HA.out hxl hkl true (by simp [hu, hkx]) (.inl rfl))
            clear hkx hcu hu hux
            go_wp2_with (at_builtin; go_loud (refine append_blk (by rfl) _ _ (by rfl) w.heap.size _ R [⟨(bk l k).s, (bk l k).z, true⟩] _ (some ⟨wr.heap.size + 1, 0, none⟩) 1 1 (by rfl) (OW.out.below (((Below.refl _ _).alloc (Nat.le_refl _) (.cells #[.int .i64 (bk l k).s, .int .i64 (bk l k).z, .bool true] 39)).alloc (by simp) (.cells #[.int .i64 (bk l k).s, .int .i64 (bk l k).z, .bool true] 39))) (by rfl) (lst_one (Bk.newH (wr.alloc (.cells #[.int .i64 (bk l k).s, .int .i64 (bk l k).z, .bool true] 39)) _ _ (by simp))) (by have := HR.out; omega) (by simp; omega) (0 + 1) (by have := HR.out; omega) ?_); intro A3 c3 w3 o3 b3 g3 t3; have B3 := ((hb.alloc hb.size (.cells #[.int .i64 (bk l k).s, .int .i64 (bk l k).z, .bool true] 39)).alloc (by simp; omega) (.cells #[.int .i64 (bk l k).s, .int .i64 (bk l k).z, .bool true] 39)).trans b3)
            go_roundw
            case rel => first | exact ⟨k + 1, 0 + 1, c3, A3, _, by omega, by go_num, rfl, SP.out, o3, B3⟩ | ((repeat apply Exists.intro); exact ⟨⟨k + 1, 0 + 1, c3, A3, _, by omega, by go_num, rfl, SP.out, o3, B3⟩, rfl⟩)
            case measure => simp [intOf]; omega
          · obtain ⟨M, rfl⟩ : ∃ M, N = M + 1 := ⟨N - 1, by omega⟩
            obtain ⟨g, rfl, hg0, hg1⟩ := HF.out (by omega)
            obtain ⟨b2, off2, e2, hb2, d0, d1, d2⟩ := (own_lst OW.out).cells M (by have := HR.out; omega)
            simp only [Option.some.injEq, Addr.mk.injEq, and_true] at e2
            obtain ⟨rfl, rfl⟩ := e2
            simp only [Nat.zero_add] at d0 d1 d2
            by_cases hr : (bk R M).u = true
            · have x1 : ((k : Int) == (x : Int)) = false := by rw [beq_eq_false_iff_ne]; omega
              have x2 : ((k : Int) != (x : Int)) = true := by rw [bne_iff_ne]; omega
              have x3 : (k == x) = false := by rw [beq_eq_false_iff_ne]; exact hkx
              have x4 : (k != x) = true := by rw [bne_iff_ne]; exact hkx
              have hcu : (bk l k).u = true := hu
              rw [hcu] at c2
              have SP := Lib.hid (GvAt_put HA.out hxl hkl true (by simp [hu, hkx]) (.inl rfl))
              rw [hr] at d2
              clear hkx hcu hu hux hr
              go_wp2_with (at_builtin; go_loud (refine append_blk (by rfl) _ _ (by rfl) w.heap.size _ R [⟨(bk l k).s, (bk l k).z, true⟩] _ (some ⟨wr.heap.size + 1, 0, none⟩) 1 1 (by rfl) (OW.out.below (((Below.refl _ _).alloc (Nat.le_refl _) (.cells #[.int .i64 (bk l k).s, .int .i64 (bk l k).z, .bool true] 39)).alloc (by simp) (.cells #[.int .i64 (bk l k).s, .int .i64 (bk l k).z, .bool true] 39))) (by rfl) (lst_one (Bk.newH (wr.alloc (.cells #[.int .i64 (bk l k).s, .int .i64 (bk l k).z, .bool true] 39)) _ _ (by simp))) (by have := HR.out; omega) (by simp; omega) ((M + 1) + 1) (by have := HR.out; omega) ?_); intro A3 c3 w3 o3 b3 g3 t3; have B3 := ((hb.alloc hb.size (.cells #[.int .i64 (bk l k).s, .int .i64 (bk l k).z, .bool true] 39)).alloc (by simp; omega) (.cells #[.int .i64 (bk l k).s, .int .i64 (bk l k).z, .bool true] 39)).trans b3)
              go_roundw
              case rel => exact ⟨k + 1, (M + 1) + 1, c3, A3, _, by omega, by go_num, rfl, SP.out, o3, B3⟩
              case measure => simp [intOf]; omega
            · have hr2 : (bk R M).u = false := by simpa using hr
              clear hr
              have x1 : ((k : Int) == (x : Int)) = false := by rw [beq_eq_false_iff_ne]; omega
              have x2 : ((k : Int) != (x : Int)) = true := by rw [bne_iff_ne]; omega
              have x3 : (k == x) = false := by rw [beq_eq_false_iff_ne]; exact hkx
              have x4 : (k != x) = true := by rw [bne_iff_ne]; exact hkx
              have hcu : (bk l k).u = true := hu
              rw [hcu] at c2
              have SP := Lib.hid (GvAt_put HA.out hxl hkl true (by simp [hu, hkx]) (.inl rfl))
              rw [hr2] at d2
              clear hkx hcu hu hux hr2
              go_wp2_with (at_builtin; go_loud (refine append_blk (by rfl) _ _ (by rfl) w.heap.size _ R [⟨(bk l k).s, (bk l k).z, true⟩] _ (some ⟨wr.heap.size + 1, 0, none⟩) 1 1 (by rfl) (OW.out.below (((Below.refl _ _).alloc (Nat.le_refl _) (.cells #[.int .i64 (bk l k).s, .int .i64 (bk l k).z, .bool true] 39)).alloc (by simp) (.cells #[.int .i64 (bk l k).s, .int .i64 (bk l k).z, .bool true] 39))) (by rfl) (lst_one (Bk.newH (wr.alloc (.cells #[.int .i64 (bk l k).s, .int .i64 (bk l k).z, .bool true] 39)) _ _ (by simp))) (by have := HR.out; omega) (by simp; omega) ((M + 1) + 1) (by have := HR.out; omega) ?_); intro A3 c3 w3 o3 b3 g3 t3; have B3 := ((hb.alloc hb.size (.cells #[.int .i64 (bk l k).s, .int .i64 (bk l k).z, .bool true] 39)).alloc (by simp; omega) (.cells #[.int .i64 (bk l k).s, .int .i64 (bk l k).z, .bool true] 39)).trans b3)
              go_roundw
              case rel => exact ⟨k + 1, (M + 1) + 1, c3, A3, _, by omega, by go_num, rfl, SP.out, o3, B3⟩
              case measure => simp [intOf]; omega
        · have hu : (bk l k).u = false := by simpa using hu
          by_cases hN : N = 0
          · subst hN
            have x1 : ((k : Int) == (x : Int)) = false := by rw [beq_eq_false_iff_ne]; omega
            have x2 : ((k : Int) != (x : Int)) = true := by rw [bne_iff_ne]; omega
            have x3 : (k == x) = false := by rw [beq_eq_false_iff_ne]; exact hkx
            have x4 : (k != x) = true := by rw [bne_iff_ne]; exact hkx
            have hcu : (bk l k).u = false := hu
            rw [hcu] at c2
            have SP := Lib.hid (GvAt_put HA.out hxl hkl false (by simp [hu]) (.inr (.inl (by have := HR.out; omega))))
            clear hkx hcu hu hux
            go_wp2_with (at_builtin; go_loud (refine append_blk (by rfl) _ _ (by rfl) w.heap.size _ R [⟨(bk l k).s, (bk l k).z, false⟩] _ (some ⟨wr.heap.size + 1, 0, none⟩) 1 1 (by rfl) (OW.out.below (((Below.refl _ _).alloc (Nat.le_refl _) (.cells #[.int .i64 (bk l k).s, .int .i64 (bk l k).z, .bool false] 39)).alloc (by simp) (.cells #[.int .i64 (bk l k).s, .int .i64 (bk l k).z, .bool false] 39))) (by rfl) (lst_one (Bk.newH (wr.alloc (.cells #[.int .i64 (bk l k).s, .int .i64 (bk l k).z, .bool false] 39)) _ _ (by simp))) (by have := HR.out; omega) (by simp; omega) (0 + 1) (by have := HR.out; omega) ?_); intro A3 c3 w3 o3 b3 g3 t3; have B3 := ((hb.alloc hb.size (.cells #[.int .i64 (bk l k).s, .int .i64 (bk l k).z, .bool false] 39)).alloc (by simp; omega) (.cells #[.int .i64 (bk l k).s, .int .i64 (bk l k).z, .bool false] 39)).trans b3)
            go_roundw
            case rel => first | exact ⟨k + 1, 0 + 1, c3, A3, _, by omega, by go_num, rfl, SP.out, o3, B3⟩ | ((repeat apply Exists.intro); exact ⟨⟨k + 1, 0 + 1, c3, A3, _, by omega, by go_num, rfl, SP.out, o3, B3⟩, rfl⟩)
            case measure => simp [intOf]; omega
          · obtain ⟨M, rfl⟩ : ∃ M, N = M + 1 := ⟨N - 1, by omega⟩
            obtain ⟨g, rfl, hg0, hg1⟩ := HF.out (by omega)
            obtain ⟨b2, off2, e2, hb2, d0, d1, d2⟩ := (own_lst OW.out).cells M (by have := HR.out; omega)
            simp only [Option.some.injEq, Addr.mk.injEq, and_true] at e2
            obtain ⟨rfl, rfl⟩ := e2
            simp only [Nat.zero_add] at d0 d1 d2
            by_cases hr : (bk R M).u = true
            · have x1 : ((k : Int) == (x : Int)) = false := by rw [beq_eq_false_iff_ne]; omega
              have x2 : ((k : Int) != (x : Int)) = true := by rw [bne_iff_ne]; omega
              have x3 : (k == x) = false := by rw [beq_eq_false_iff_ne]; exact hkx
              have x4 : (k != x) = true := by rw [bne_iff_ne]; exact hkx
              have hcu : (bk l k).u = false := hu
              rw [hcu] at c2
              have SP := Lib.hid (GvAt_put HA.out hxl hkl false (by simp [hu]) (.inr (.inr (by rw [show R.length - 1 = M by have := HR.out; omega]; exact hr))))
              rw [hr] at d2
              clear hkx hcu hu hux hr
              go_wp2_with (at_builtin; go_loud (refine append_blk (by rfl) _ _ (by rfl) w.heap.size _ R [⟨(bk l k).s, (bk l k).z, false⟩] _ (some ⟨wr.heap.size + 1, 0, none⟩) 1 1 (by rfl) (OW.out.below (((Below.refl _ _).alloc (Nat.le_refl _) (.cells #[.int .i64 (bk l k).s, .int .i64 (bk l k).z, .bool false] 39)).alloc (by simp) (.cells #[.int .i64 (bk l k).s, .int .i64 (bk l k).z, .bool false] 39))) (by rfl) (lst_one (Bk.newH (wr.alloc (.cells #[.int .i64 (bk l k).s, .int .i64 (bk l k).z, .bool false] 39)) _ _ (by simp))) (by have := HR.out; omega) (by simp; omega) ((M + 1) + 1) (by have := HR.out; omega) ?_); intro A3 c3 w3 o3 b3 g3 t3; have B3 := ((hb.alloc hb.size (.cells #[.int .i64 (bk l k).s, .int .i64 (bk l k).z, .bool false] 39)).alloc (by simp; omega) (.cells #[.int .i64 (bk l k).s, .int .i64 (bk l k).z, .bool false] 39)).trans b3)
              go_roundw
              case rel => exact ⟨k + 1, (M + 1) + 1, c3, A3, _, by omega, by go_num, rfl, SP.out, o3, B3⟩
              case measure => simp [intOf]; omega
            · have hr2 : (bk R M).u = false := by simpa using hr
              clear hr
              have x1 : ((k : Int) == (x : Int)) = false := by rw [beq_eq_false_iff_ne]; omega
              have x2 : ((k : Int) != (x : Int)) = true := by rw [bne_iff_ne]; omega
              have x3 : (k == x) = false := by rw [beq_eq_false_iff_ne]; exact hkx
              have x4 : (k != x) = true := by rw [bne_iff_ne]; exact hkx
              have hcu : (bk l k).u = false := hu
              rw [hcu] at c2
              have SJ := Lib.hid (GvAt_join HA.out hxl hkl (.inl hu) (by have := HR.out; omega) (by rw [show R.length - 1 = M by have := HR.out; omega]; exact hr2))
              rw [show R.length - 1 = M by have := HR.out; omega] at SJ
              have OS := Lib.hid (fun (w' : World) (ho : Own w' w.heap.size (.slice (some ⟨g, 0, none⟩) (M + 1) cp) R) => own_set ho (i := M) (by have := HR.out; omega) ((bk R M).z + (bk l k).z) hr2)
              have hg3 := G3.out M (by have := HR.out; omega)
              obtain ⟨k1, k2, k3⟩ := hg3
              rw [hr2] at d2
              have hne : wr.heap.size ≠ g := by omega
              have hne' : g ≠ wr.heap.size := by omega
              have FZ := World.ownsRow.frozenAt (g := g) (show wr.ownsRow w.heap.size 39 3 (.slice (some ⟨g, 0, none⟩) R.length cp) R.length (cellsL R) by have e := HR.out; have := OW.out; rw [e] at this; exact this) (M * 3 + 1)
              clear hkx hcu hu hux hr2
              go_wp2
              obtain ⟨w2, hw2⟩ : ∃ y : World, wr.alloc (.cells #[.int .i64 (bk l k).s, .int .i64 (bk l k).z, .bool false] 39) = y := ⟨_, rfl⟩
              have X2 : Below wr.heap.size wr w2 := by rw [← hw2]; exact (Below.refl _ _).alloc (Nat.le_refl _) _
              have e1 : w2.cell? ⟨wr.heap.size, 1, none⟩ = some (.int .i64 (bk l k).z) := by rw [← hw2]; exact (Bk.new wr _ _).cell 1
              have e2 : w2.cell? ⟨g, M * 3 + 1, none⟩ = some (.int .i64 (bk R M).z) := (X2.cell (p := ⟨g, M * 3 + 1, none⟩) hg1).trans d1
              have f2 : w2.frozen? ⟨g, M * 3 + 1, none⟩ = false := (X2.frozen (p := ⟨g, M * 3 + 1, none⟩) hg1).trans FZ
              have i1 : (0 : Int) ≤ (M : Int) := by omega
              have i2 : (M : Int) < (M : Int) + 1 := by omega
              have i3 : IntKind.i64.wrap ((bk R M).z + (bk l k).z) = (bk R M).z + (bk l k).z := IntWalk.i64_in _ (by omega)
              rw [hw2]
              go_still_tail 10, (by kernel_rfl)
              change wpList _ _ _ _ _ w2.drew
              have e1' : w2.drew.cell? ⟨wr.heap.size, 1, none⟩ = some (.int .i64 (bk l k).z) := e1
              have e2' : w2.drew.cell? ⟨g, M * 3 + 1, none⟩ = some (.int .i64 (bk R M).z) := e2
              have f2' : w2.drew.frozen? ⟨g, M * 3 + 1, none⟩ = false := f2
              have X3 := X2.drew
              generalize w2.drew = w3 at e1' e2' f2' X3 ⊢
              clear e1 e2 f2 X2 hw2
              go_wp2
              go_roundw
              case rel => exact ⟨k + 1, M + 1, cp, some ⟨g, 0, none⟩, _, by omega, by go_num, rfl, SJ.out, OS.out _ (OW.out.below X3), (hb.trans (X3.mono hsz)).setCell (p := ⟨g, _, none⟩) hg0 _⟩
              case measure => simp [intOf]; omega
    · have hkn : k = n := by omega
      subst hkn
      have HE := Lib.hid (GvAt_all (by rw [HN.out] at ha; exact ha))
      clear ha
      go_wp2
      exact bodyPost_ret (v := .tuple #[.slice A N cp, .bool true]) (by simp [results, Try.results41, go_sem]) rfl (postL_of ⟨_, rfl, by rw [← HE.out]; exact OW.out, hb⟩)

end Go.Proofs.Ytidkejmphhpjlaa.Wk
