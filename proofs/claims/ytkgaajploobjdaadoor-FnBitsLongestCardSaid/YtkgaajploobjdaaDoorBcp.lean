/- The laws' own copies of slices of bools: toBoolS, eqBoolS, markBoolS, heldBoolS, sameFlags; the program's clone. Conditions: a list that a slice reads as. -/
import Derived.Test.YtkgaajploobjdaaDoorBm
import Derived.StillTailTactics
namespace Go.Proofs.YtkgaajploobjdaaDoor.Wb
open Go.RowKit Go.Proofs.YtkgaajploobjdaaDoor.Pl Go.Proofs.YtkgaajploobjdaaDoor.Wk

theorem set1 (a r : List Value) (x : Value) (k : Nat) (ha : a.length = k) (hr : 1 ≤ r.length) : (a ++ r).set k x = a ++ [x] ++ r.drop 1 := by
  match r, hr with
  | p :: r, _ =>
    rw [List.set_append_right _ _ (by omega), show k - a.length = 0 by omega]
    simp
theorem cellsB_take {l : List Bool} {k : Nat} (h : k < l.length) : cellsB (l.take (k + 1)) = cellsB (l.take k) ++ [.bool (ub l k)] := by
  rw [ub_take_succ h, cellsB_append]; rfl
theorem owns_below {w w' : World} {B e size n : Nat} {v : Value} {xs : List Value} (h : w.ownsRow B e size v n xs) (hb : Below w.heap.size w w') : w'.ownsRow B e size v n xs := by
  refine h.kept (row := none) ⟨hb.os, hb.tape, hb.output, hb.size, fun k hk _ => hb.block k hk⟩ ?_
  cases v.ownBlock
  · exact .inl rfl
  · exact .inr (by simp)
theorem owns_cell {w : World} {B e g n cap : Nat} {xs : List Value} (h : w.ownsRow B e 1 (.slice (some ⟨g, 0, none⟩) n cap) n xs) (j : Nat) (hj : j < n) : ∃ u, w.cell? ⟨g, j, none⟩ = some u := by
  rw [h.cellAt j (by omega)]
  exact ⟨_, List.getElem?_eq_getElem (by rw [h.1]; omega)⟩
theorem grown_trans {a b c : World} {row : Option Nat} (h : a.grownBy b row) (k : b.grownBy c row) : a.grownBy c row :=
  ⟨k.os.trans h.os, k.tape.trans h.tape, k.output.trans h.output, Nat.le_trans h.size k.size, fun i hi hr => (k.block i (Nat.lt_of_lt_of_le hi h.size) hr).trans (h.block i hi hr)⟩

set_option maxHeartbeats 2000000 in
theorem toBoolS_any (A : Option Addr) (n c : Nat) (l : List Bool) (w : World) (h : Lst w w.heap.size A n l) (hn : n ≤ 1048576) :
    Calls Tryd.prog 7 #[.slice A n c] w fun e w' => ∃ v, e = .returned v ∧ Own w' w.heap.size v l ∧ Below w.heap.size w w' := by
  have HN := Lib.hid h.len
  obtain ⟨i0, hi, hz0, hz1, hz2⟩ := info_parts info_B
  go_enter Tryd.func7, Tryd.ntmps7
  go_wp2_with (refine wpList_make_full _ rfl (.tmp 6) (.tmp 6) 22 rfl w.heap.size 4 i0 _ 1 Tryd.underlying22 hi hz0 hz1 .i64 .i64 n n n rfl rfl rfl rfl ?hb ?hm (Nat.le_refl _) ?_; rotate_right; intro w1 hown hg)
  case hb => rw [hz2]; omega
  case hm => unfold maxLen; omega
  clear hi hz0 hz1 hz2
  go_wp2
  go_loopw [4] (fun i wr => ∃ (k : Nat) (r : List Value), k ≤ n ∧ i = .int .i64 k ∧ r.length = n - k ∧
      wr.ownsRow w.heap.size 4 1 (.slice (some ⟨w.heap.size, 0, none⟩) n n) n (cellsB (l.take k) ++ r) ∧ Below w.heap.size w wr ∧ w.heap.size < wr.heap.size) (fun i _ => n - (intOf i).toNat)
  case atStart =>
    refine ⟨0, _, Nat.zero_le _, rfl, ?_, by simpa [cellsB] using hown, ⟨hg.os, hg.tape, hg.output, hg.size, fun k hk => hg.block k hk (by simp)⟩, ?_⟩
    · have := hown.1; simpa using this
    · exact (hown.lt _ rfl).2
  case round =>
    obtain ⟨k, r, hk, rfl, hr, how, hb, hlt'⟩ := hrel
    by_cases hlt : k < n
    · have hkl : k < l.length := by have := HN.out; omega
      obtain ⟨b, off, rfl, hbb, c0⟩ := (h.below hb (Nat.le_refl _)).cells k hlt
      have hbw : b < wr.heap.size := by omega
      obtain ⟨v0, d0⟩ := owns_cell how k hlt
      have f0 := how.frozenAt k
      have hst := how.stored k (.bool (ub l k))
      rw [set1 _ _ _ _ (by rw [cellsB_length]; simp; omega) (by omega), ← cellsB_take hkl] at hst
      have hst1 := Lib.hid hst.1
      clear hst how
      go_wp2
      go_roundw
      case rel => exact ⟨k + 1, r.drop 1, by omega, by go_num, by simp; omega, hst1.out, hb.setCell (p := ⟨w.heap.size, _, none⟩) (Nat.le_refl _) _, by simp [World.setCell]; omega⟩
      case measure => simp [intOf]; omega
    · have hkn : k = n := by omega
      subst hkn
      have hr0 : r = [] := List.eq_nil_of_length_eq_zero (by omega)
      subst hr0
      have how' : wr.ownsRow w.heap.size 4 1 (.slice (some ⟨w.heap.size, 0, none⟩) k k) l.length (cellsB l) := by
        have e := HN.out
        rw [List.append_nil, e, List.take_length] at how
        rw [e]
        exact how
      have HO := Lib.hid how'
      clear how how'
      go_wp2
      go_ret
      exact ⟨_, rfl, HO.out, hb⟩

set_option maxHeartbeats 2000000 in
theorem eqBoolS_same (A A2 : Option Addr) (n c c2 B B2 : Nat) (l : List Bool) (w : World) (h : Lst w B A n l) (h2 : Lst w B2 A2 n l) (hB : B ≤ w.heap.size) (hB2 : B2 ≤ w.heap.size) (hn : n ≤ 1125899906842624) :
    Calls Tryd.prog 9 #[.slice A n c, .slice A2 n c2] w fun e w' => e = .returned (.bool true) ∧ Below w.heap.size w w' := by
  go_enter Tryd.func9, Tryd.ntmps9
  go_wp2
  go_loopw [5] (fun i wr => ∃ k : Nat, k ≤ n ∧ i = .int .i64 k ∧ Below w.heap.size w wr) (fun i _ => n - (intOf i).toNat)
  case atStart => exact ⟨0, Nat.zero_le _, rfl, Below.refl _ _⟩
  case round =>
    obtain ⟨k, hk, rfl, hb⟩ := hrel
    by_cases hlt : k < n
    · obtain ⟨b, off, rfl, hbb, e0⟩ := (h.below hb hB).cells k hlt
      obtain ⟨b', off', rfl, hbb', d0⟩ := (h2.below hb hB2).cells k hlt
      have i1 : (0 : Int) ≤ (k : Int) := by omega
      have i2 : (k : Int) < (n : Int) := by omega
      have hbn := hb
      go_wp2
      go_quiet (fail)
      go_wp2
      go_roundw
      case rel => exact ⟨k + 1, by omega, by go_num, ⟨hbn.os, hbn.tape, hbn.output, hbn.size, hbn.block⟩⟩
      case measure => simp [intOf]; omega
    · have hkn : k = n := by omega
      subst hkn
      go_wp2
      go_ret
      exact ⟨rfl, hb⟩

end Go.Proofs.YtkgaajploobjdaaDoor.Wb
