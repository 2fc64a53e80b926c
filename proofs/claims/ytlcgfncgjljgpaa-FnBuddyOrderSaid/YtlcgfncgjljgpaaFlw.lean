/- freeLists: the walk. Conditions: a list that a slice of buddies reads as, of orders from 0 to 8. -/
import Derived.Test.YtlcgfncgjljgpaaFl
import Derived.Deep.RegionLaw
namespace Go.Proofs.Ytlcgfncgjljgpaa.Wu
open Go.RowKit Go.Proofs.Ytlcgfncgjljgpaa.Pl Go.Proofs.Ytlcgfncgjljgpaa.Wk

theorem FlR.far {W w7 : World} {g B g2 : Nat} {l : List Blk} {k : Nat} {V : Nat → Value} (h : FlR W g B l k V) (h1 : g2 < g) (h2 : g < B) (hg : W.grownBy w7 (some g2)) : FlR w7 g B l k V :=
  ⟨h.arr.gr hg (by omega), fun o ho => rows_kept (h.row o ho) hg (fun b hb e => by have := ((h.row o ho).lt b hb).1; injection e with e; omega), h.sep⟩
theorem set9 (w : World) (g i : Nat) (v : Value) : w.grownBy (w.setCell ⟨g, i, none⟩ v) (some g) := ⟨rfl, rfl, rfl, by simp [World.setCell], fun b _ hne => Below.heap_setCell w ⟨g, i, none⟩ _ b (fun e => hne (by rw [e]))⟩
theorem _root_.Go.World.grownBy.trans_ {a b c : World} {row : Option Nat} (h : a.grownBy b row) (k : b.grownBy c row) : a.grownBy c row := grown_trans h k

theorem shows_one {w : World} {g : Nat} {u : Value} {T : TypeId} (h : Bk w g #[u] T) : Shows w w.heap.size 1 (some ⟨g, 0, none⟩) 1 [u] := by
  refine ⟨rfl, fun _ => ⟨g, 0, rfl, h.lt, fun j v hj => ?_⟩⟩
  cases j with
  | zero => simp at hj; subst hj; exact h.cell 0
  | succ j => simp at hj

set_option maxRecDepth 100000 in
set_option maxHeartbeats 8000000 in
theorem freeLists_any (A : Option Addr) (n c : Nat) (l : List Blk) (w : World) (h : Lst w w.heap.size A n l) (hn : n ≤ 256) (hz : ∀ k, k < l.length → 0 ≤ (bk l k).z ∧ (bk l k).z ≤ 8) :
    Calls Try.prog 47 #[.slice A n c] w fun e w' => ∃ V : Nat → Value, e = .returned (.agg #[V 0, V 1, V 2, V 3, V 4, V 5, V 6, V 7, V 8]) ∧ FlR w' (w.heap.size + 1) (w.heap.size + 2) l n V ∧ Below w.heap.size w w' := by
  have HN := Lib.hid h.len
  go_enter Try.func47, Try.ntmps47
  go_wp2
  go_loopw [4, 5, 8] (fun _ _ i wr => ∃ (k : Nat) (V : Nat → Value), k ≤ n ∧ i = .int .i64 k ∧ FlR wr (w.heap.size + 1) (w.heap.size + 2) l k V ∧ Bk wr w.heap.size #[.slice none 0 0, .slice none 0 0, .slice none 0 0, .slice none 0 0, .slice none 0 0, .slice none 0 0, .slice none 0 0, .slice none 0 0, .slice none 0 0] 61 ∧ Below w.heap.size w wr ∧ w.heap.size + 2 ≤ wr.heap.size) (fun _ _ i _ => n - (intOf i).toNat)
  case atStart =>
    refine ⟨0, fun _ => .slice none 0 0, Nat.zero_le _, rfl, ⟨by simpa using Bk.new (w.alloc (.cells #[.slice none 0 0, .slice none 0 0, .slice none 0 0, .slice none 0 0, .slice none 0 0, .slice none 0 0, .slice none 0 0, .slice none 0 0, .slice none 0 0] 61)) _ _, fun o _ => ⟨rfl, .inl ⟨rfl, rfl⟩⟩, fun o o' _ _ _ b hb => by cases hb⟩,
      (Bk.new w _ _).alloc _, ((Below.refl _ _).alloc (Nat.le_refl _) _).alloc (by simp) _, by simp⟩
  case round =>
    obtain ⟨k, V, hk, rfl, hF, hZ, hb, hsz⟩ := hrel
    by_cases hlt : k < n
    · have hkl : k < l.length := by have := HN.out; omega
      obtain ⟨b, off, rfl, hbb, c0, c1, c2⟩ := (h.below hb (Nat.le_refl _)).cells k hlt
      have hbw : b < wr.heap.size := by have := hb.size; omega
      by_cases hu : (bk l k).u = true
      · rw [hu] at c2
        have hb1 := (Below.refl wr.heap.size wr).alloc (Nat.le_refl _) (.cells #[.int .i64 (bk l k).s, .int .i64 (bk l k).z, .bool true] 44)
        have HF := Lib.hid (hF.skip hb1 hu)
        have HZ := Lib.hid (hZ.alloc (.cells #[.int .i64 (bk l k).s, .int .i64 (bk l k).z, .bool true] 44))
        have hbn := hb
        clear hF hZ hu hb1
        go_wp2
        go_roundw
        case rel => exact ⟨k + 1, V, by omega, by go_num, HF.out, HZ.out, hbn.alloc hbn.size _, by simp; omega⟩
        case measure => simp [intOf]; omega
      · have hu2 : (bk l k).u = false := by simpa using hu
        obtain ⟨z0, z8⟩ := hz k hkl
        obtain ⟨o, ho⟩ := Int.eq_ofNat_of_zero_le z0
        have ho9 : o < 9 := by omega
        have HU := Lib.hid hu2
        have HO := Lib.hid ho
        rw [hu2] at c2
        rw [ho] at c1
        clear hu hu2 ho z0 z8
        obtain ⟨s, hs⟩ : ∃ s, (bk l k).s = s := ⟨_, rfl⟩
        rw [hs] at c0
        clear hs
        have hb1 := (Below.refl wr.heap.size wr).alloc (Nat.le_refl _) (.cells #[.int .i64 s, .int .i64 o, .bool false] 44)
        have hbn := hb.alloc hb.size (.cells #[.int .i64 s, .int .i64 o, .bool false] 44)
        go_wp2
        obtain ⟨W, hW⟩ : ∃ W, wr.alloc (.cells #[.int .i64 s, .int .i64 o, .bool false] 44) = W := ⟨_, rfl⟩
        have F2 : FlR W (w.heap.size + 1) (w.heap.size + 2) l k V := by rw [← hW]; exact hF.keep hb1
        have Z2 : Bk W w.heap.size #[.slice none 0 0, .slice none 0 0, .slice none 0 0, .slice none 0 0, .slice none 0 0, .slice none 0 0, .slice none 0 0, .slice none 0 0, .slice none 0 0] 61 := by rw [← hW]; exact hZ.alloc _
        have BW : Below w.heap.size w W := by rw [← hW]; exact hbn
        have hWs : wr.heap.size < W.heap.size := by rw [← hW]; simp
        have d1 : W.cell? ⟨wr.heap.size, 1, none⟩ = some (.int .i64 o) := by rw [← hW]; exact (Bk.new wr _ _).cell 1
        have d2 : W.cell? ⟨w.heap.size + 1, o, none⟩ = some (V o) := (F2.arr.cell o).trans (arr_at V ho9)
        have f2 : W.frozen? ⟨w.heap.size + 1, o, none⟩ = false := F2.arr.free o
        have hvb : ∀ b, (V o).ownBlock = some b → w.heap.size + 2 ≤ b ∧ b < wr.heap.size := fun b hb' => (hF.row o ho9).lt b hb'
        rw [hW]
        clear hW hF hZ hb1 hbn hb
        have i1 : (0 : Int) ≤ (o : Int) := by omega
        have i2 : (o : Int) < 9 := by omega
        have bX : Below W.heap.size W (W.alloc (.cells #[.int .i64 k] 3)).drew := ((Below.refl W.heap.size W).alloc (Nat.le_refl _) _).drew
        have FX := Lib.hid (F2.keep bX)
        have KX : Bk (W.alloc (.cells #[.int .i64 k] 3)).drew W.heap.size #[.int .i64 k] 3 := Bk.new W _ _
        have SX := Lib.hid (shows_one KX)
        have e1 : (W.alloc (.cells #[.int .i64 k] 3)).drew.cell? ⟨wr.heap.size, 1, none⟩ = some (.int .i64 o) := (bX.cell (p := ⟨wr.heap.size, 1, none⟩) (by show wr.heap.size < W.heap.size; omega)).trans d1
        have e2 : (W.alloc (.cells #[.int .i64 k] 3)).drew.cell? ⟨w.heap.size + 1, o, none⟩ = some (V o) := (bX.cell (p := ⟨w.heap.size + 1, o, none⟩) F2.arr.lt).trans d2
        have e4 : (W.alloc (.cells #[.int .i64 k] 3)).cell? ⟨w.heap.size + 1, o, none⟩ = some (V o) := e2
        have e5 : W.drew.cell? ⟨w.heap.size + 1, o, none⟩ = some (V o) := d2
        clear KX bX
        go_region_law ((refine append_step elem_I (by rfl) _ _ (by rfl) (w.heap.size + 2) _ (V o) (fl l k o).length 1 1 (flc l k o) [.int .i64 k] (some ⟨W.heap.size, 0, none⟩) (by rfl) (FX.out.row o ho9) (by rfl) SX.out (by intro u hu; simp at hu; subst hu; rfl) (by have := fl_le l k o; unfold maxLen; omega) (by have := fl_le l k o; omega) (by simp; omega) ((fl l k o).length + 1) rfl ?_; intro A7 c7 w7 o7 b7 g7 t7; have k1 : w7.cell? ⟨wr.heap.size, 1, none⟩ = some (.int .i64 o) := (World.cell?_of_block (a := ⟨wr.heap.size, 1, none⟩) (g7.block wr.heap.size (by simp; omega) (fun e => by have := hvb _ e.symm; omega))).trans e1; have k2 : w7.cell? ⟨w.heap.size + 1, o, none⟩ = some (V o) := (World.cell?_of_block (a := ⟨w.heap.size + 1, o, none⟩) (g7.block (w.heap.size + 1) (by simp; omega) (fun e => by have := hvb _ e.symm; omega))).trans e2; have k3 : w7.frozen? ⟨w.heap.size + 1, o, none⟩ = false := (World.frozen?_of_block (a := ⟨w.heap.size + 1, o, none⟩) (g7.block (w.heap.size + 1) (by simp; omega) (fun e => by have := hvb _ e.symm; omega))).trans (FX.out.arr.free o)))
        all_goals
          have FA := Lib.hid (FX.out.add (A := A7) (c := c7) ho9 (by omega) HU.out HO.out rfl o7 g7 (t7.imp id (fun e => ⟨_, Nat.le_refl _, e⟩)))
          have ZX : Bk (W.alloc (.cells #[.int .i64 k] 3)).drew w.heap.size #[.slice none 0 0, .slice none 0 0, .slice none 0 0, .slice none 0 0, .slice none 0 0, .slice none 0 0, .slice none 0 0, .slice none 0 0, .slice none 0 0] 61 := Z2.alloc _
          have Z7 := (g7.block w.heap.size ZX.lt (fun e => by have := hvb _ e.symm; omega)).trans ZX
          have Z8 := Lib.hid (Bk.far (w := w7) (q := ⟨w.heap.size + 1, o, none⟩) Z7 (by show w.heap.size ≠ w.heap.size + 1; omega) (.slice A7 ((fl l k o).length + 1) c7))
          have B8 := (((BW.alloc BW.size (.cells #[.int .i64 k] 3)).drew.trans (b7.mono (by omega))).setCell (p := ⟨w.heap.size + 1, o, none⟩) (by show w.heap.size ≤ w.heap.size + 1; omega) (.slice A7 ((fl l k o).length + 1) c7))
          have s7 := g7.size
          have s8 : w.heap.size + 2 ≤ (w7.setCell ⟨w.heap.size + 1, o, none⟩ (.slice A7 ((fl l k o).length + 1) c7)).heap.size := by simp [World.setCell] at s7 ⊢; omega
          clear Z7 ZX o7 t7 g7 b7 s7
          go_wp2
          go_roundw
          case rel => exact ⟨k + 1, _, by omega, by go_num, FA.out, Z8.out, B8, s8⟩
          case measure => simp [intOf]; omega
    · have hkn : k = n := by omega
      subst hkn
      have FF := Lib.hid hF
      obtain ⟨A0, c0, v0, -, -⟩ := row_form (hF.row 0 (by omega))
      obtain ⟨A1, c1, v1, -, -⟩ := row_form (hF.row 1 (by omega))
      obtain ⟨A2, c2, v2, -, -⟩ := row_form (hF.row 2 (by omega))
      obtain ⟨A3, c3, v3, -, -⟩ := row_form (hF.row 3 (by omega))
      obtain ⟨A4, c4, v4, -, -⟩ := row_form (hF.row 4 (by omega))
      obtain ⟨A5, c5, v5, -, -⟩ := row_form (hF.row 5 (by omega))
      obtain ⟨A6, c6, v6, -, -⟩ := row_form (hF.row 6 (by omega))
      obtain ⟨A7, c7, v7, -, -⟩ := row_form (hF.row 7 (by omega))
      obtain ⟨A8, c8, v8, -, -⟩ := row_form (hF.row 8 (by omega))
      have a0 : wr.cell? ⟨w.heap.size + 1, 0, none⟩ = some (.slice A0 (fl l k 0).length c0) := (hF.arr.cell 0).trans (congrArg some v0)
      have a1 : wr.cell? ⟨w.heap.size + 1, 1, none⟩ = some (.slice A1 (fl l k 1).length c1) := (hF.arr.cell 1).trans (congrArg some v1)
      have a2 : wr.cell? ⟨w.heap.size + 1, 2, none⟩ = some (.slice A2 (fl l k 2).length c2) := (hF.arr.cell 2).trans (congrArg some v2)
      have a3 : wr.cell? ⟨w.heap.size + 1, 3, none⟩ = some (.slice A3 (fl l k 3).length c3) := (hF.arr.cell 3).trans (congrArg some v3)
      have a4 : wr.cell? ⟨w.heap.size + 1, 4, none⟩ = some (.slice A4 (fl l k 4).length c4) := (hF.arr.cell 4).trans (congrArg some v4)
      have a5 : wr.cell? ⟨w.heap.size + 1, 5, none⟩ = some (.slice A5 (fl l k 5).length c5) := (hF.arr.cell 5).trans (congrArg some v5)
      have a6 : wr.cell? ⟨w.heap.size + 1, 6, none⟩ = some (.slice A6 (fl l k 6).length c6) := (hF.arr.cell 6).trans (congrArg some v6)
      have a7 : wr.cell? ⟨w.heap.size + 1, 7, none⟩ = some (.slice A7 (fl l k 7).length c7) := (hF.arr.cell 7).trans (congrArg some v7)
      have a8 : wr.cell? ⟨w.heap.size + 1, 8, none⟩ = some (.slice A8 (fl l k 8).length c8) := (hF.arr.cell 8).trans (congrArg some v8)
      have z0 : wr.cell? ⟨w.heap.size, 0, none⟩ = some (.slice none 0 0) := hZ.cell 0
      have z1 : wr.cell? ⟨w.heap.size, 1, none⟩ = some (.slice none 0 0) := hZ.cell 1
      have z2 : wr.cell? ⟨w.heap.size, 2, none⟩ = some (.slice none 0 0) := hZ.cell 2
      have z3 : wr.cell? ⟨w.heap.size, 3, none⟩ = some (.slice none 0 0) := hZ.cell 3
      have z4 : wr.cell? ⟨w.heap.size, 4, none⟩ = some (.slice none 0 0) := hZ.cell 4
      have z5 : wr.cell? ⟨w.heap.size, 5, none⟩ = some (.slice none 0 0) := hZ.cell 5
      have z6 : wr.cell? ⟨w.heap.size, 6, none⟩ = some (.slice none 0 0) := hZ.cell 6
      have z7 : wr.cell? ⟨w.heap.size, 7, none⟩ = some (.slice none 0 0) := hZ.cell 7
      have z8 : wr.cell? ⟨w.heap.size, 8, none⟩ = some (.slice none 0 0) := hZ.cell 8
      have f0 := hZ.free 0
      have f1 := hZ.free 1
      have f2 := hZ.free 2
      have f3 := hZ.free 3
      have f4 := hZ.free 4
      have f5 := hZ.free 5
      have f6 := hZ.free 6
      have f7 := hZ.free 7
      have f8 := hZ.free 8
      have hbn := hb
      clear hF hZ hb
      go_wp2
      refine bodyPost_ret (v := .agg #[.slice A0 (fl l k 0).length c0, .slice A1 (fl l k 1).length c1, .slice A2 (fl l k 2).length c2, .slice A3 (fl l k 3).length c3, .slice A4 (fl l k 4).length c4, .slice A5 (fl l k 5).length c5, .slice A6 (fl l k 6).length c6, .slice A7 (fl l k 7).length c7, .slice A8 (fl l k 8).length c8]) (by simp [results, Try.results47, go_sem, z0, z1, z2, z3, z4, z5, z6, z7, z8]) rfl ?_
      refine ⟨V, by rw [v0, v1, v2, v3, v4, v5, v6, v7, v8], FF.out.far (g2 := w.heap.size) (by omega) (by omega) ?_, ?_⟩
      · exact (((((((set9 _ _ _ _).trans_ (set9 _ _ _ _)).trans_ (set9 _ _ _ _)).trans_ (set9 _ _ _ _)).trans_ (set9 _ _ _ _)).trans_ (set9 _ _ _ _)).trans_ (set9 _ _ _ _)).trans_ (set9 _ _ _ _) |>.trans_ (set9 _ _ _ _)
      · exact ((((((((hbn.setCell (p := ⟨w.heap.size, 0, none⟩) (Nat.le_refl _) _).setCell (p := ⟨w.heap.size, 1, none⟩) (Nat.le_refl _) _).setCell (p := ⟨w.heap.size, 2, none⟩) (Nat.le_refl _) _).setCell (p := ⟨w.heap.size, 3, none⟩) (Nat.le_refl _) _).setCell (p := ⟨w.heap.size, 4, none⟩) (Nat.le_refl _) _).setCell (p := ⟨w.heap.size, 5, none⟩) (Nat.le_refl _) _).setCell (p := ⟨w.heap.size, 6, none⟩) (Nat.le_refl _) _).setCell (p := ⟨w.heap.size, 7, none⟩) (Nat.le_refl _) _).setCell (p := ⟨w.heap.size, 8, none⟩) (Nat.le_refl _) _

end Go.Proofs.Ytlcgfncgjljgpaa.Wu
