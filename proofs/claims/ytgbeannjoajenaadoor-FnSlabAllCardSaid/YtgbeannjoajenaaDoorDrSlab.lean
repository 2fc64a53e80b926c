/- Slabs: l20Slab and what draws by it. Conditions: none. -/
import Derived.Test.YtgbeannjoajenaaDoorOpen
namespace Go.Proofs.YtgbeannjoajenaaDoor.Wk
open Go.RowKit

theorem only_cell {g : Nat} {w w' : World} (h : Only g w w') {b o : Nat} (hb : b < w.heap.size) (hg : b ≠ g) : w'.cell? ⟨b, o, none⟩ = w.cell? ⟨b, o, none⟩ :=
  World.cell?_of_block (w := w) (h.grown.block b hb (fun e => hg (by injection e)))
theorem rdr_alloc {w : World} {g n c : Nat} {A : Option Addr} {z : List Int} {p : Nat} (h : Rdr w g A n c z p) (o : Obj) : Rdr (w.alloc o) g A n c z p := by
  have hg : g < w.heap.size := (Array.getElem?_eq_some_iff.1 h.blk).1
  refine ⟨(Below.heap_alloc w o g hg).trans h.blk, fun i hi => ?_, h.range, h.len⟩
  obtain ⟨b, off, rfl, hb, hc⟩ := h.bytes i hi
  exact ⟨b, off, rfl, hb, by rw [World.cell?_alloc_lt w _ _ (show b < w.heap.size by omega)]; exact hc⟩
theorem rdr_below {w w' : World} {g n c : Nat} {A : Option Addr} {z : List Int} {p : Nat} (h : Rdr w g A n c z p) (hb : Below w.heap.size w w') : Rdr w' g A n c z p := by
  have hg : g < w.heap.size := (Array.getElem?_eq_some_iff.1 h.blk).1
  refine ⟨(hb.block g hg).trans h.blk, fun i hi => ?_, h.range, h.len⟩
  obtain ⟨b, off, rfl, hlt, hc⟩ := h.bytes i hi
  exact ⟨b, off, rfl, hlt, (hb.cell (p := ⟨b, off + i, none⟩) (show b < w.heap.size by omega)).trans hc⟩
theorem rdr_lt {w : World} {g n c : Nat} {A : Option Addr} {z : List Int} {p : Nat} (h : Rdr w g A n c z p) : g < w.heap.size := (Array.getElem?_eq_some_iff.1 h.blk).1

theorem only_frozen {g : Nat} {w w' : World} (h : Only g w w') {b o : Nat} (hb : b < w.heap.size) (hg : b ≠ g) : w'.frozen? ⟨b, o, none⟩ = w.frozen? ⟨b, o, none⟩ :=
  World.frozen?_of_block (w := w) (h.grown.block b hb (fun e => hg (by injection e)))
theorem gr_only {g : Nat} {w a b : World} (h : w.grownBy a (some g)) (ho : Only g a b) : w.grownBy b (some g) :=
  ⟨ho.grown.os.trans h.os, ho.grown.tape.trans h.tape, ho.grown.output.trans h.output, Nat.le_trans h.size ho.grown.size,
    fun k hk hne => (ho.grown.block k (Nat.lt_of_lt_of_le hk h.size) hne).trans (h.block k hk hne)⟩
theorem gr_alloc {g : Nat} {w a : World} (h : w.grownBy a (some g)) (o : Obj) : w.grownBy (a.alloc o) (some g) :=
  ⟨h.os, h.tape, h.output, Nat.le_trans h.size (by simp), fun k hk hne => (Below.heap_alloc a o k (Nat.lt_of_lt_of_le hk h.size)).trans (h.block k hk hne)⟩
theorem gr_set {g : Nat} {w a : World} (h : w.grownBy a (some g)) {p : Addr} (hp : w.heap.size ≤ p.block) (u : Value) : w.grownBy (a.setCell p u) (some g) :=
  ⟨h.os, h.tape, h.output, by simpa [World.setCell] using h.size, fun k hk hne => (Below.heap_setCell a p u k (by omega)).trans (h.block k hk hne)⟩
theorem gr_refl (g : Nat) (w : World) : w.grownBy w (some g) := ⟨rfl, rfl, rfl, Nat.le_refl _, fun _ _ _ => rfl⟩
theorem rdr_set {w : World} {g n c : Nat} {A : Option Addr} {z : List Int} {p : Nat} (h : Rdr w g A n c z p) {q : Addr} (hq : g < q.block) (u : Value) : Rdr (w.setCell q u) g A n c z p := by
  refine ⟨(Below.heap_setCell w q u g (by omega)).trans h.blk, fun i hi => ?_, h.range, h.len⟩
  obtain ⟨b, off, rfl, hb, hc⟩ := h.bytes i hi
  exact ⟨b, off, rfl, hb, by rw [World.cell?_setCell_other _ _ _ _ (fun e => by have := congrArg Addr.block e; simp at this; omega)]; exact hc⟩

/-- What l20Slab leaves. -/
def Slabbed (g n c : Nat) (A : Option Addr) (z : List Int) (p : Nat) (w : World) (e : Ending) (w' : World) : Prop :=
  ∃ c' u' : Int, e = .returned (.agg #[.int .i64 c', .int .i64 u']) ∧ -1 ≤ c' ∧ c' ≤ 8 ∧ -1 ≤ u' ∧ u' ≤ 256 ∧ ∃ p', p' ≤ p + 10 ∧ Rdr w' g A n c z p' ∧ w.grownBy w' (some g)

set_option maxHeartbeats 2000000 in
theorem l20Slab_any (g n c : Nat) (A : Option Addr) (z : List Int) (p : Nat) (m : Int) (w : World) (h : Rdr w g A n c z p) (hp : p ≤ 900000) (hm : 1 ≤ m) (hm' : m ≤ 1000) :
    Calls Tryd.prog 16 #[.pointer (some ⟨g, 0, none⟩), .int .i64 m] w (Slabbed g n c A z p w) := by
  have hg := rdr_lt h
  go_enter Tryd.func16, Tryd.ntmps16
  go_wp2_with fail
  refine (pick_any _ _ _ _ _ _ _ _ (rdr_alloc h _) (by omega)).mono ?_
  rintro e w1 ⟨x1, rfl, a1, a2, r1, o1⟩
  have s1 := Nat.le_of_eq o1.size
  have s1' := Nat.le_of_eq o1.size.symm
  simp at s1 s1'
  have G1 := gr_only (gr_alloc (gr_refl g w) _) o1
  go_wp2_with fail
  refine (pick_any _ _ _ _ _ _ _ _ r1 (by omega)).mono ?_
  rintro e w2 ⟨x2, rfl, a3, a4, r2, o2⟩
  have s2 := Nat.le_of_eq o2.size
  have s2' := Nat.le_of_eq o2.size.symm
  have G2 := gr_only G1 o2
  have a2' : x1 ≤ 7 := by omega
  have a4' : x2 ≤ 255 := by omega
  clear a2 a4
  go_wp2_with fail
  refine (pick_any _ _ _ _ _ _ _ _ (rdr_alloc (rdr_alloc r2 _) _) (by omega)).mono ?_
  rintro e w3 ⟨x3, rfl, a5, a6, r3, o3⟩
  have s3 := Nat.le_of_eq o3.size
  have s3' := Nat.le_of_eq o3.size.symm
  have G3 := gr_only (gr_alloc (gr_alloc G2 _) _) o3
  simp at s3 s3'
  have a6' : x3 ≤ 4 := by omega
  clear a6
  obtain ⟨k3, rfl⟩ := Int.eq_ofNat_of_zero_le a5
  have d5 : ∃ j : Nat, j ≤ 2 ∧ w3.cell? ⟨w2.heap.size + 1, k3, none⟩ = some (.int .i64 j) := by
    have hk : k3 = 0 ∨ k3 = 1 ∨ k3 = 2 ∨ k3 = 3 ∨ k3 = 4 := by omega
    rcases hk with rfl | rfl | rfl | rfl | rfl
    · exact ⟨0, by omega, (only_cell o3 (by simp) (by omega)).trans (by simp)⟩
    · exact ⟨0, by omega, (only_cell o3 (by simp) (by omega)).trans (by simp)⟩
    · exact ⟨0, by omega, (only_cell o3 (by simp) (by omega)).trans (by simp)⟩
    · exact ⟨1, by omega, (only_cell o3 (by simp) (by omega)).trans (by simp)⟩
    · exact ⟨2, by omega, (only_cell o3 (by simp) (by omega)).trans (by simp)⟩
  obtain ⟨j, hj, d5⟩ := d5
  have d6 : ∃ v : Int, 0 ≤ v ∧ v ≤ 255 ∧ w3.cell? ⟨w2.heap.size, j, none⟩ = some (.int .i64 v) := by
    have hk : j = 0 ∨ j = 1 ∨ j = 2 := by omega
    rcases hk with rfl | rfl | rfl
    · exact ⟨x2, a3, a4', (only_cell o3 (by simp; omega) (by omega)).trans (by simp)⟩
    · exact ⟨0, by omega, by omega, (only_cell o3 (by simp; omega) (by omega)).trans (by simp)⟩
    · exact ⟨255, by omega, by omega, (only_cell o3 (by simp; omega) (by omega)).trans (by simp)⟩
  obtain ⟨v, hv0, hv1, d6⟩ := d6
  have RB : Bk w3 w.heap.size #[.int .i64 0, .int .i64 0] 24 :=
    (((((Bk.new w _ _).only o1 (by omega)).only o2 (by omega)).alloc _).alloc _).only o3 (by omega)
  have c0 : w3.cell? ⟨w.heap.size, 0, none⟩ = some (.int .i64 0) := RB.cell 0
  have c1 : w3.cell? ⟨w.heap.size, 1, none⟩ = some (.int .i64 0) := RB.cell 1
  have f0 := RB.free 0
  have f1 := RB.free 1
  have z3 : w.heap.size < w3.heap.size := by omega
  go_wp2_with fail
  refine (odd_any _ _ _ _ _ _ _ _ (rdr_alloc r3 _) (by omega) hm hm').mono ?_
  rintro e w4 ⟨b, rfl, r4, o4⟩
  have s4 := Nat.le_of_eq o4.size
  have s4' := Nat.le_of_eq o4.size.symm
  simp at s4 s4'
  have G4 := gr_only (gr_alloc G3 (.cells #[.int .i64 x1, .int .i64 v] 24)) o4
  have RB4 := (RB.alloc (.cells #[.int .i64 x1, .int .i64 v] 24)).only o4 (by omega)
  have SB4 := (Bk.new w3 #[.int .i64 x1, .int .i64 v] 24).only o4 (by have := rdr_lt r3; omega)
  clear c0 c1 f0 f1 d5 d6 RB
  have c0 : w4.cell? ⟨w.heap.size, 0, none⟩ = some (.int .i64 0) := RB4.cell 0
  have c1 : w4.cell? ⟨w.heap.size, 1, none⟩ = some (.int .i64 0) := RB4.cell 1
  have f0 := RB4.free 0
  have f1 := RB4.free 1
  have e0 : w4.cell? ⟨w3.heap.size, 0, none⟩ = some (.int .i64 x1) := SB4.cell 0
  have e1 : w4.cell? ⟨w3.heap.size, 1, none⟩ = some (.int .i64 v) := SB4.cell 1
  have z4 : w3.heap.size < w4.heap.size := by omega
  cases b
  · go_wp2
    refine bodyPost_ret (v := .agg #[.int .i64 x1, .int .i64 v]) (by simp [results, Tryd.results16, go_sem, c0, c1]) rfl ?_
    exact ⟨x1, v, rfl, by omega, by omega, by omega, by omega, _, by omega, rdr_set (rdr_set r4 (q := ⟨w.heap.size, 0, none⟩) hg _) (q := ⟨w.heap.size, 1, none⟩) hg _, gr_set (gr_set G4 (p := ⟨w.heap.size, 0, none⟩) (Nat.le_refl _) _) (p := ⟨w.heap.size, 1, none⟩) (Nat.le_refl _) _⟩
  · go_wp2_with fail
    refine (pick_any _ _ _ _ _ _ _ _ r4 (by omega)).mono ?_
    rintro e w5 ⟨x5, rfl, a7, a8, r5, o5⟩
    have s5 := Nat.le_of_eq o5.size
    have s5' := Nat.le_of_eq o5.size.symm
    have G5 := gr_only G4 o5
    have RB5 := RB4.only o5 (by omega)
    have SB5 := SB4.only o5 (by have := rdr_lt r3; omega)
    clear c0 c1 f0 f1 e0 e1
    have hx5 : x5 = 0 ∨ x5 = 1 := by omega
    clear a7 a8
    rcases hx5 with rfl | rfl
    · go_wp2_with fail
      refine (pick_any _ _ _ _ _ _ _ _ (rdr_alloc r5 _) (by omega)).mono ?_
      rintro e w6 ⟨x6, rfl, a9, a10, r6, o6⟩
      have s6 := Nat.le_of_eq o6.size
      have s6' := Nat.le_of_eq o6.size.symm
      simp at s6 s6'
      have G6 := gr_only (gr_alloc G5 (.cells #[.int .i64 (-1), .int .i64 8] 3)) o6
      have RB6 := (RB5.alloc (.cells #[.int .i64 (-1), .int .i64 8] 3)).only o6 (by omega)
      have SB6 := (SB5.alloc (.cells #[.int .i64 (-1), .int .i64 8] 3)).only o6 (by have := rdr_lt r3; omega)
      have LB6 := (Bk.new w5 #[.int .i64 (-1), .int .i64 8] 3).only o6 (by have := rdr_lt r5; omega)
      obtain ⟨k6, rfl⟩ := Int.eq_ofNat_of_zero_le a9
      have d7 : ∃ y : Int, -1 ≤ y ∧ y ≤ 8 ∧ w6.cell? ⟨w5.heap.size, k6, none⟩ = some (.int .i64 y) := by
        have hk : k6 = 0 ∨ k6 = 1 := by omega
        rcases hk with rfl | rfl
        · exact ⟨-1, by omega, by omega, LB6.cell 0⟩
        · exact ⟨8, by omega, by omega, LB6.cell 1⟩
      obtain ⟨y, hy0, hy1, d7⟩ := d7
      have k6b : k6 ≤ 1 := by omega
      clear a10 LB6 RB5 SB5
      have c0 : w6.cell? ⟨w.heap.size, 0, none⟩ = some (.int .i64 0) := RB6.cell 0
      have c1 : w6.cell? ⟨w.heap.size, 1, none⟩ = some (.int .i64 0) := RB6.cell 1
      have f0 := RB6.free 0
      have f1 := RB6.free 1
      have e0 : w6.cell? ⟨w3.heap.size, 0, none⟩ = some (.int .i64 x1) := SB6.cell 0
      have e1 : w6.cell? ⟨w3.heap.size, 1, none⟩ = some (.int .i64 v) := SB6.cell 1
      have h0 := SB6.free 0
      have h1 := SB6.free 1
      have hne : w3.heap.size ≠ w.heap.size := by omega
      have hne' : w.heap.size ≠ w3.heap.size := by omega
      go_wp2
      refine bodyPost_ret (v := .agg #[.int .i64 y, .int .i64 v]) (by simp [results, Tryd.results16, go_sem, c0, c1]) rfl ?_
      exact ⟨y, v, rfl, by omega, by omega, by omega, by omega, _, by omega, rdr_set (rdr_set (rdr_set r6 (q := ⟨w3.heap.size, _, none⟩) (by have := rdr_lt r3; simpa using this) _) (q := ⟨w.heap.size, 0, none⟩) hg _) (q := ⟨w.heap.size, 1, none⟩) hg _, gr_set (gr_set (gr_set G6 (p := ⟨w3.heap.size, _, none⟩) (by simp; omega) _) (p := ⟨w.heap.size, 0, none⟩) (Nat.le_refl _) _) (p := ⟨w.heap.size, 1, none⟩) (Nat.le_refl _) _⟩
    · go_wp2_with fail
      refine (pick_any _ _ _ _ _ _ _ _ (rdr_alloc r5 _) (by omega)).mono ?_
      rintro e w6 ⟨x6, rfl, a9, a10, r6, o6⟩
      have s6 := Nat.le_of_eq o6.size
      have s6' := Nat.le_of_eq o6.size.symm
      simp at s6 s6'
      have G6 := gr_only (gr_alloc G5 (.cells #[.int .i64 (-1), .int .i64 256] 3)) o6
      have RB6 := (RB5.alloc (.cells #[.int .i64 (-1), .int .i64 256] 3)).only o6 (by omega)
      have SB6 := (SB5.alloc (.cells #[.int .i64 (-1), .int .i64 256] 3)).only o6 (by have := rdr_lt r3; omega)
      have LB6 := (Bk.new w5 #[.int .i64 (-1), .int .i64 256] 3).only o6 (by have := rdr_lt r5; omega)
      obtain ⟨k6, rfl⟩ := Int.eq_ofNat_of_zero_le a9
      have d7 : ∃ y : Int, -1 ≤ y ∧ y ≤ 256 ∧ w6.cell? ⟨w5.heap.size, k6, none⟩ = some (.int .i64 y) := by
        have hk : k6 = 0 ∨ k6 = 1 := by omega
        rcases hk with rfl | rfl
        · exact ⟨-1, by omega, by omega, LB6.cell 0⟩
        · exact ⟨256, by omega, by omega, LB6.cell 1⟩
      obtain ⟨y, hy0, hy1, d7⟩ := d7
      have k6b : k6 ≤ 1 := by omega
      clear a10 LB6 RB5 SB5
      have c0 : w6.cell? ⟨w.heap.size, 0, none⟩ = some (.int .i64 0) := RB6.cell 0
      have c1 : w6.cell? ⟨w.heap.size, 1, none⟩ = some (.int .i64 0) := RB6.cell 1
      have f0 := RB6.free 0
      have f1 := RB6.free 1
      have e0 : w6.cell? ⟨w3.heap.size, 0, none⟩ = some (.int .i64 x1) := SB6.cell 0
      have e1 : w6.cell? ⟨w3.heap.size, 1, none⟩ = some (.int .i64 v) := SB6.cell 1
      have h0 := SB6.free 0
      have h1 := SB6.free 1
      have hne : w3.heap.size ≠ w.heap.size := by omega
      have hne' : w.heap.size ≠ w3.heap.size := by omega
      go_wp2
      refine bodyPost_ret (v := .agg #[.int .i64 x1, .int .i64 y]) (by simp [results, Tryd.results16, go_sem, c0, c1]) rfl ?_
      exact ⟨x1, y, rfl, by omega, by omega, by omega, by omega, _, by omega, rdr_set (rdr_set (rdr_set r6 (q := ⟨w3.heap.size, _, none⟩) (by have := rdr_lt r3; simpa using this) _) (q := ⟨w.heap.size, 0, none⟩) hg _) (q := ⟨w.heap.size, 1, none⟩) hg _, gr_set (gr_set (gr_set G6 (p := ⟨w3.heap.size, _, none⟩) (by simp; omega) _) (p := ⟨w.heap.size, 0, none⟩) (Nat.le_refl _) _) (p := ⟨w.heap.size, 1, none⟩) (Nat.le_refl _) _⟩

end Go.Proofs.YtgbeannjoajenaaDoor.Wk
