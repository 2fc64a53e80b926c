/- TakeBlock of the program takes. Conditions: valid blocks, a free block that is large enough. -/
import Derived.Test.YtidkejmphhpjlaaExl
import Derived.Test.YtidkejmphhpjlaaBlkGive
import Derived.Deep.RegionHeld3
namespace Go.Proofs.Ytidkejmphhpjlaa.Wk
open Go.RowKit Go.Proofs.Ytidkejmphhpjlaa.Pl

theorem postL_of {R : List Blk} {x : Value} {w w' : World} {e : Ending} (h : ∃ v, e = .returned (.tuple #[v, x]) ∧ Own w' w.heap.size v R ∧ Below w.heap.size w w') : PostL R x w e w' := by
  obtain ⟨v, rfl, ho, hb⟩ := h
  obtain ⟨A, c, rfl, _⟩ := ho.lst
  exact ⟨A, c, rfl, ho, hb⟩

theorem cell_below {W w' : World} {g o : Nat} {x : Value} (h : W.cell? ⟨g, o, none⟩ = some x) (hg : g < W.heap.size) (hb : Below W.heap.size W w') : w'.cell? ⟨g, o, none⟩ = some x ∧ Below W.heap.size W w' :=
  ⟨(hb.cell (p := ⟨g, o, none⟩) hg).trans h, hb⟩

theorem Bk.drew_ {w : World} {b : Nat} {cs : Array Value} {T : TypeId} (h : Bk w b cs T) : Bk w.drew b cs T := h

theorem take_eq1 {l : List Blk} {k : Nat} {z : Int} (h : z < (bk l k).z) : (l.take k ++ [⟨(bk l k).s, z, true⟩]) ++ [⟨(bk l k).s + z, (bk l k).z - z, false⟩] ++ l.drop (k + 1) = Pl.take l k z := by
  rw [Pl.take, if_pos h]; simp
theorem take_eq2 {l : List Blk} {k : Nat} {z : Int} (h : ¬ z < (bk l k).z) : (l.take k ++ [⟨(bk l k).s, z, true⟩]) ++ l.drop (k + 1) = Pl.take l k z := by
  rw [Pl.take, if_neg h]; simp

set_option maxRecDepth 100000 in
set_option maxHeartbeats 4000000 in
theorem iTake_yes (b off n c k : Nat) (l : List Blk) (t z : Int) (w : World) (h : Lst w w.heap.size (some ⟨b, off, none⟩) n l) (hnc : n ≤ c) (hv : V l t) (hk : k < n) (hu : (bk l k).u = false) (hz : 1 ≤ z) (hz2 : z ≤ (bk l k).z) :
    Calls Try.prog 30 #[.slice (some ⟨b, off, none⟩) n c, .int .i64 t, .int .i64 k, .int .i64 z] w (PostL (Pl.take l k z) (.bool true) w) := by
  have hn : n ≤ 1048576 := by have := (V_len hv); have := h.len; omega
  have hki : (k : Int) < n := by omega
  have hk0 : ¬ (k : Int) < 0 := by omega
  have hz1 : ¬ z < 1 := by omega
  have hz3 : ¬ (bk l k).z < z := by omega
  have hbd : 0 ≤ (bk l k).s ∧ (bk l k).s + (bk l k).z ≤ 256 := by
    have hh := V_blk hv (k := k) (by have := h.len; omega)
    have := V_len hv
    omega
  obtain ⟨hbd0, hbd1⟩ := hbd
  go_enter Try.func30, Try.ntmps30
  go_wp2_with fail
  refine (iValid_yes _ n c l t w h hv).mono ?_
  rintro e w1 ⟨rfl, hb⟩
  have h1 := h.below hb (Nat.le_refl _)
  obtain ⟨b', off', e, hbb, c0, c1, c2⟩ := h1.cells k hk
  simp only [Option.some.injEq, Addr.mk.injEq, and_true] at e
  obtain ⟨rfl, rfl⟩ := e
  rw [hu] at c2
  have H1 := Lib.hid h1
  clear h1 h
  have hkc : k ≤ c := by omega
  go_wp2_with fail
  have HT := Lib.hid (fun (w' : World) (hw' : Below w1.heap.size w1 w') => lst_take (H1.out.up hw' hb.size (Nat.le_trans hb.size hw'.size)) (Nat.le_of_lt hk))
  obtain ⟨w2, hw2⟩ : ∃ x : World, w1.alloc (.cells #[.int .i64 (bk l k).s, .int .i64 (bk l k).z, .bool false] 39) = x := ⟨_, rfl⟩
  have hs2 : w2.heap.size = w1.heap.size + 1 := by rw [← hw2]; simp
  have d0 : w2.cell? ⟨w1.heap.size, 0, none⟩ = some (.int .i64 (bk l k).s) := by rw [← hw2]; exact (Bk.new w1 _ _).cell 0
  have d1 : w2.cell? ⟨w1.heap.size, 1, none⟩ = some (.int .i64 (bk l k).z) := by rw [← hw2]; exact (Bk.new w1 _ _).cell 1
  have b12 : Below w1.heap.size w1 w2 := by rw [← hw2]; exact (Below.refl _ _).alloc (Nat.le_refl _) _
  have hlt : w1.heap.size < w2.heap.size := by omega
  have hB : w.heap.size ≤ w2.heap.size := by have := hb.size; omega
  clear hs2
  have hlen : (l.take k).length = k := by have := H1.out.len; simp; omega
  have HC : RowKit.Hid (∀ (w' : World) (_ : Below w2.heap.size w2 w'), Calls Try.prog 51 #[.slice (some ⟨b, off, none⟩) k c] w' fun e w'' => ∃ A' c', e = .returned (.slice A' k c') ∧ Own w'' w2.heap.size (.slice A' k c') (l.take k) ∧ Below w2.heap.size w2 w'' ∧ Below w'.heap.size w' w'') := Lib.hid (fun (w' : World) (hw' : Below w2.heap.size w2 w') => by
    refine (clone_all (some ⟨b, off, none⟩) k c w'.heap.size (l.take k) w' (HT.out w' (b12.trans (hw'.mono b12.size))) (Nat.le_refl _) (by omega)).mono ?_
    rintro e w'' ⟨A', c', e, o, q⟩
    exact ⟨A', c', e, o.mono hw'.size, hw'.trans (q.mono hw'.size), q⟩)
  have HL := Lib.hid hlen
  have HN := Lib.hid H1.out.len
  clear hlen
  rw [hw2]
  go_region_held3 (fun w' => w'.cell? ⟨w1.heap.size, 0, none⟩ = some (.int .i64 (bk l k).s) ∧ Below w2.heap.size w2 w')
    (first
      | exact cell_below d0 hlt (Below.refl _ _).drew
      | exact cell_below d0 hlt ((Below.refl _ _).alloc (Nat.le_refl _) _).drew
      | exact cell_below d0 hlt (Below.alloc (‹_ ∧ Below w2.heap.size w2 _›.2) (‹_ ∧ Below w2.heap.size w2 _›.2).size _)
      | exact cell_below d0 hlt b3
      | exact cell_below d0 hlt b4)
    (first
      | (go_at_call 51; refine (HC.out _ (‹_ ∧ Below w2.heap.size w2 _›.2)).mono ?_; rintro e w3 ⟨A3, c3, rfl, o3, b3, q3⟩)
      | (refine append_blk_step (by rfl) _ _ (by rfl) w2.heap.size _ (l.take k) [⟨(bk l k).s, z, true⟩] _ (some ⟨w3.heap.size, 0, none⟩) 1 1 (by rfl) (o3.below ((Below.refl _ _).alloc (Nat.le_refl _) _)) (by rfl) (lst_one (Bk.new w3 #[.int .i64 (bk l k).s, .int .i64 z, .bool true] 39))
          (by rw [HL.out]; omega) (by have := b3.size; simp; omega) (k + 1) (by rw [HL.out]) ?_; intro A4 c4 w4 o4 bb4 g4 t4; have b4 := b3.trans (((Below.refl _ _).alloc b3.size _).trans bb4))
      | (refine append_blk_step (by rfl) _ _ (by rfl) w2.heap.size _ (l.take k) [⟨(bk l k).s, z, true⟩] _ (some ⟨w2.heap.size, 0, none⟩) 1 1 (by rfl) o3 (by rfl) (lst_one ((Bk.drew_ (Bk.new w2 #[.int .i64 (bk l k).s, .int .i64 z, .bool true] 39)).below q3 (by simp)))
          (by rw [HL.out]; omega) b3.size (k + 1) (by rw [HL.out]) ?_; intro A4 c4 w4 o4 bb4 g4 t4; have b4 := b3.trans bb4))
  all_goals
    have HD := Lib.hid (fun (w' : World) (hw' : Below w1.heap.size w1 w') (hk1 : k + 1 ≤ n) => (lst_drop (H1.out.up hw' hb.size (Nat.le_trans hb.size hw'.size)) hk1).up (Below.refl _ _) (Nat.le_refl _) (Nat.le_refl _))
    have HZ := Lib.hid (fun (w' : World) (A : Option Addr) (hck : n ≤ k + 1) => (by rw [List.drop_eq_nil_of_le (by have := HN.out; omega)]; exact ⟨rfl, fun j hj => by omega⟩ : Lst w' w'.heap.size A 0 (l.drop (k + 1))))
    have e0 := (cell_below d0 hlt b4).1
    have e1 := (cell_below d1 hlt b4).1
    have C4 := b12.trans (b4.mono b12.size)
    have hs4 := b4.size
    have P4 := o4.slot
    clear t4 g4 bb4 o3 b3 q3
    by_cases hck : c = k + 1
    case' pos =>
      subst hck
      obtain ⟨n0, hn0⟩ : ∃ n0 : Nat, n0 = n := ⟨_, rfl⟩
      obtain rfl : n = k + 1 := by omega
    case' neg => obtain ⟨n0, hn0⟩ : ∃ n0 : Nat, n0 = n := ⟨_, rfl⟩
    all_goals
      have HN0 := Lib.hid hn0
      clear hn0
      by_cases hgt : z < (bk l k).z
      · go_wp2_with (first
          | (at_builtin; refine append_blk (by rfl) _ _ (by rfl) w2.heap.size _ (l.take k ++ [⟨(bk l k).s, z, true⟩]) [⟨(bk l k).s + z, (bk l k).z - z, false⟩] _ (some ⟨w4.heap.size, 0, none⟩) 1 1 (by rfl) (o4.below ((Below.refl _ _).alloc (Nat.le_refl _) _)) (by rfl) (lst_one (Bk.new w4 #[.int .i64 ((bk l k).s + z), .int .i64 ((bk l k).z - z), .bool false] 39)) (by rw [List.length_append, HL.out]; simp; omega) (by simp; omega) (k + 1 + 1) (by rw [List.length_append, HL.out]; rfl) ?_; intro A5 c5 w5 o5 b5 g5 t5; have C5 := (C4.alloc C4.size _).trans (b5.mono b12.size); have hs5 : w2.heap.size ≤ w5.heap.size := Nat.le_trans hs4 (Nat.le_trans (by simp) b5.size))
          | (at_builtin; go_loud (refine append_blk (by rfl) _ _ (by rfl) w2.heap.size w5.heap.size _ (l.drop (k + 1)) _ _ _ _ (by rfl) o5 (by rfl) (by first | exact HD.out _ C5 (by omega) | exact HZ.out _ _ (by omega)) (by simp [HL.out]; omega) hs5 (n0 + 1) (by have := HN0.out; simp [HL.out]; omega) ?_); intro A6 c6 w6 o6 b6 g6 t6))
        exact bodyPost_ret (v := .tuple #[.slice A6 (n0 + 1) c6, .bool true]) (by simp [results, Try.results30, go_sem]) rfl (postL_of ⟨_, rfl, by rw [← take_eq1 hgt]; exact o6.mono hB, hb.trans ((C5.trans (b6.mono b12.size)).mono hb.size)⟩)
      · go_wp2_with (at_builtin; go_loud (refine append_blk (by rfl) _ _ (by rfl) w2.heap.size w4.heap.size _ (l.drop (k + 1)) _ _ _ _ (by rfl) o4 (by rfl) (by first | exact HD.out _ C4 (by omega) | exact HZ.out _ _ (by omega)) (by simp [HL.out]; omega) hs4 n0 (by have := HN0.out; simp [HL.out]; omega) ?_); intro A6 c6 w6 o6 b6 g6 t6)
        exact bodyPost_ret (v := .tuple #[.slice A6 n0 c6, .bool true]) (by simp [results, Try.results30, go_sem]) rfl (postL_of ⟨_, rfl, by rw [← take_eq2 (show ¬ z < (bk l k).z by omega)]; exact o6.mono hB, hb.trans ((C4.trans (b6.mono b12.size)).mono hb.size)⟩)

end Go.Proofs.Ytidkejmphhpjlaa.Wk
