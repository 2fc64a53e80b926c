/- The laws' own copies of slices of blocks: toBlockS, eqBlockS, sameBlocks, szBlockS. Conditions: a list that a slice reads as. -/
import Derived.Test.YtidkejmphhpjlaaMem
import Derived.StillTailTactics
namespace Go.Proofs.Ytidkejmphhpjlaa.Wk
open Go.RowKit Go.Proofs.Ytidkejmphhpjlaa.Pl

theorem toBlock_any (s z : Int) (u : Bool) (w : World) : Calls Try.prog 43 #[.agg #[.int .i64 s, .int .i64 z, .bool u]] w fun e w' =>
    e = .returned (.agg #[.int .i64 s, .int .i64 z, .bool u]) ∧ Below w.heap.size w w' := by
  go_enter Try.func43, Try.ntmps43
  go_wp2
  exact bodyPost_ret (v := .agg #[.int .i64 s, .int .i64 z, .bool u]) (by simp [results, Try.results43, go_sem]) rfl
    ⟨rfl, (((Below.refl _ _).alloc (Nat.le_refl _) _).alloc (by simp) _).alloc (by simp; omega) _⟩

theorem set3 (a r : List Value) (x y z : Value) (k : Nat) (ha : a.length = k * 3) (hr : 3 ≤ r.length) :
    (((a ++ r).set (k * 3) x).set (k * 3 + 1) y).set (k * 3 + 2) z = a ++ [x, y, z] ++ r.drop 3 := by
  match r, hr with
  | p :: q :: s :: r, _ =>
    rw [List.set_append_right _ _ (by omega), show k * 3 - a.length = 0 by omega]
    simp only [List.set_cons_zero]
    rw [List.set_append_right _ _ (by omega), show k * 3 + 1 - a.length = 1 by omega]
    simp only [List.set_cons_succ, List.set_cons_zero]
    rw [List.set_append_right _ _ (by omega), show k * 3 + 2 - a.length = 2 by omega]
    simp

theorem cellsL_take {l : List Blk} {k : Nat} (h : k < l.length) : cellsL (l.take (k + 1)) = cellsL (l.take k) ++ [.int .i64 (bk l k).s, .int .i64 (bk l k).z, .bool (bk l k).u] := by
  rw [take_succ' h, cellsL_append]; rfl

set_option maxHeartbeats 2000000 in
theorem toBlockS_any (A : Option Addr) (n c : Nat) (l : List Blk) (w : World) (h : Lst w w.heap.size A n l) (hn : n ≤ 1048576) :
    Calls Try.prog 17 #[.slice A n c] w fun e w' => ∃ v, e = .returned v ∧ Own w' w.heap.size v l ∧ Below w.heap.size w w' := by
  have HN := Lib.hid h.len
  obtain ⟨i0, hi, hz0, hz1, hz2⟩ := info_parts info_Blk
  go_enter Try.func17, Try.ntmps17
  go_wp2_with (refine wpList_make_full _ rfl (.tmp 6) (.tmp 6) 25 rfl w.heap.size 39 i0 _ 3 Try.underlying25 hi hz0 hz1 .i64 .i64 n n n rfl rfl rfl rfl ?hb ?hm (Nat.le_refl _) ?_; rotate_right; intro w1 hown hg)
  case hb => rw [hz2]; omega
  case hm => unfold maxLen; omega
  clear hi hz0 hz1 hz2
  go_wp2
  go_loopw [4] (fun i wr => ∃ (k : Nat) (r : List Value), k ≤ n ∧ i = .int .i64 k ∧ r.length = (n - k) * 3 ∧
      wr.ownsRow w.heap.size 39 3 (.slice (some ⟨w.heap.size, 0, none⟩) n n) n (cellsL (l.take k) ++ r) ∧ Below w.heap.size w wr ∧ w.heap.size < wr.heap.size) (fun i _ => n - (intOf i).toNat)
  case atStart =>
    refine ⟨0, _, Nat.zero_le _, rfl, ?_, by simpa [cellsL] using hown, ⟨hg.os, hg.tape, hg.output, hg.size, fun k hk => hg.block k hk (by simp)⟩, ?_⟩
    · have := hown.1; simpa using this
    · exact (hown.lt _ rfl).2
  case round =>
    obtain ⟨k, r, hk, rfl, hr, how, hb, hlt'⟩ := hrel
    by_cases hlt : k < n
    · have hkl : k < l.length := by have := HN.out; omega
      obtain ⟨b, off, rfl, hbb, c0, c1, c2⟩ := (h.below hb (Nat.le_refl _)).cells k hlt
      have hbw : b < wr.heap.size := by omega
      go_wp2_with fail
      refine (toBlock_any _ _ _ _).mono ?_
      rintro e w2 ⟨rfl, hb2⟩
      have how2 := owns_below how hb2
      obtain ⟨v0, d0⟩ := owns_cell how2 (k * 3) (by omega)
      obtain ⟨v1, d1⟩ := owns_cell how2 (k * 3 + 1) (by omega)
      obtain ⟨v2, d2⟩ := owns_cell how2 (k * 3 + 2) (by omega)
      have f0 := how2.frozenAt (k * 3)
      have f1 := how2.frozenAt (k * 3 + 1)
      have f2 := how2.frozenAt (k * 3 + 2)
      have hst := ((how2.stored (k * 3) (.int .i64 (bk l k).s)).1.stored (k * 3 + 1) (.int .i64 (bk l k).z)).1.stored (k * 3 + 2) (.bool (bk l k).u)
      rw [set3 _ _ _ _ _ _ (by rw [cellsL_length]; simp; omega) (by omega), ← cellsL_take hkl] at hst
      have hst1 := Lib.hid hst.1
      clear hst how how2
      have hb3 := hb.trans (hb2.mono hb.size)
      have hs3 := hb2.size
      go_wp2
      go_roundw
      case rel => exact ⟨k + 1, r.drop 3, by omega, by go_num, by simp; omega, hst1.out, ((hb3.setCell (p := ⟨w.heap.size, _, none⟩) (Nat.le_refl _) _).setCell (p := ⟨w.heap.size, _, none⟩) (Nat.le_refl _) _).setCell (p := ⟨w.heap.size, _, none⟩) (Nat.le_refl _) _, by simp [World.setCell]; omega⟩
      case measure => simp [intOf]; omega
    · have hkn : k = n := by omega
      subst hkn
      have hr0 : r = [] := List.eq_nil_of_length_eq_zero (by omega)
      subst hr0
      have how' : wr.ownsRow w.heap.size 39 3 (.slice (some ⟨w.heap.size, 0, none⟩) k k) l.length (cellsL l) := by
        have e := HN.out
        rw [List.append_nil, e, List.take_length] at how
        rw [e]
        exact how
      have HO := Lib.hid how'
      clear how how'
      go_wp2
      go_ret
      exact ⟨_, rfl, HO.out, hb⟩

theorem szBlockS_any (A : Option Addr) (n c : Nat) (w : World) (hn : n ≤ 1048576) : Calls Try.prog 15 #[.slice A n c, .int .i64 1048576] w fun e w' => e = .returned (.int .i64 (1048576 - n)) ∧ w = w' := by
  have h0 : 0 ≤ (1048576 : Int) - n := by omega
  go_enter Try.func15, Try.ntmps15
  go_wp2
  go_ret
  exact ⟨rfl, rfl⟩

theorem szBlockS_big (A : Option Addr) (n c : Nat) (w : World) (hn : 1048576 < n) (hm : n ≤ 9223372036854775807) : Calls Try.prog 15 #[.slice A n c, .int .i64 1048576] w fun e w' => e = .returned (.int .i64 (-1)) ∧ w = w' := by
  have h0 : (1048576 : Int) - n < 0 := by omega
  go_enter Try.func15, Try.ntmps15
  go_wp2
  go_ret
  exact ⟨rfl, rfl⟩

theorem eqBlock_same (s z : Int) (u : Bool) (w : World) : Calls Try.prog 48 #[.agg #[.int .i64 s, .int .i64 z, .bool u], .agg #[.int .i64 s, .int .i64 z, .bool u]] w fun e w' =>
    e = .returned (.bool true) ∧ Below w.heap.size w w' := by
  go_enter Try.func48, Try.ntmps48
  go_wp2
  go_ret
  exact ⟨rfl, ((Below.refl _ _).alloc (Nat.le_refl _) _).alloc (by simp) _⟩

set_option maxHeartbeats 2000000 in
theorem eqBlockS_same (A A2 : Option Addr) (n c c2 B B2 : Nat) (l : List Blk) (w : World) (h : Lst w B A n l) (h2 : Lst w B2 A2 n l) (hB : B ≤ w.heap.size) (hB2 : B2 ≤ w.heap.size) (hn : n ≤ 1125899906842624) :
    Calls Try.prog 19 #[.slice A n c, .slice A2 n c2] w fun e w' => e = .returned (.bool true) ∧ Below w.heap.size w w' := by
  go_enter Try.func19, Try.ntmps19
  go_wp2
  go_loopw [5] (fun i wr => ∃ k : Nat, k ≤ n ∧ i = .int .i64 k ∧ Below w.heap.size w wr) (fun i _ => n - (intOf i).toNat)
  case atStart => exact ⟨0, Nat.zero_le _, rfl, Below.refl _ _⟩
  case round =>
    obtain ⟨k, hk, rfl, hb⟩ := hrel
    by_cases hlt : k < n
    · obtain ⟨b, off, rfl, hbb, e0, e1, e2⟩ := (h.below hb hB).cells k hlt
      obtain ⟨b', off', rfl, hbb', d0, d1, d2⟩ := (h2.below hb hB2).cells k hlt
      have hbn := hb
      go_wp2
      go_still_tail 8, (by kernel_rfl)
      go_wp2_with fail
      refine (eqBlock_same _ _ _ _).mono ?_
      rintro e w2 ⟨rfl, hb2⟩
      go_wp2
      go_roundw
      case rel => exact ⟨k + 1, by omega, by go_num, hbn.drew.trans (hb2.mono hbn.size)⟩
      case measure => simp [intOf]; omega
    · have hkn : k = n := by omega
      subst hkn
      go_wp2
      go_ret
      exact ⟨rfl, hb⟩

end Go.Proofs.Ytidkejmphhpjlaa.Wk
