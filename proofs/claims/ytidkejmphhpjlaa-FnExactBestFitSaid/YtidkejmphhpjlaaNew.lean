/- NewBlocks, of the program and of the reference. Conditions: none. -/
import Derived.Test.YtidkejmphhpjlaaMark
namespace Go.Proofs.Ytidkejmphhpjlaa.Wk
open Go.RowKit Go.Proofs.Ytidkejmphhpjlaa.Pl

def nb (t : Int) : List Blk := if 1 ≤ t ∧ t ≤ 256 then [⟨0, t, false⟩] else []

theorem own_lit (w : World) (s z : Int) (u : Bool) : Own (w.alloc (.cells #[.int .i64 s, .int .i64 z, .bool u] 39)) w.heap.size (.slice (some ⟨w.heap.size, 0, none⟩) 1 1) [⟨s, z, u⟩] :=
  ⟨rfl, .inr ⟨w.heap.size, 1, _, rfl, Nat.le_refl _, heap_alloc_new w _, Nat.le_refl _, by unfold maxLen; omega, rfl, rfl⟩⟩
theorem own_empty (w : World) : Own (w.alloc (.cells #[] 39)) w.heap.size (.slice (some ⟨w.heap.size, 0, none⟩) 0 0) [] :=
  ⟨rfl, .inr ⟨w.heap.size, 0, _, rfl, Nat.le_refl _, heap_alloc_new w _, Nat.le_refl _, by unfold maxLen; omega, rfl, rfl⟩⟩

theorem iNew_any (t : Int) (w : World) : Calls Try.prog 21 #[.int .i64 t] w fun e w' => ∃ v, e = .returned v ∧ Own w' w.heap.size v (nb t) ∧ Below w.heap.size w w' := by
  by_cases ht : 1 ≤ t ∧ t ≤ 256
  · have hT : decide (1 ≤ t ∧ t ≤ 256) = true := by simpa using ht
    rw [nb, if_pos ht]
    clear ht
    go_enter Try.func21, Try.ntmps21
    go_wp2_with (refine (isTotal_any _ _).mono ?_; rintro e w' ⟨rfl, rfl⟩)
    go_ret
    exact ⟨_, rfl, own_lit _ _ _ _, (Below.refl _ _).alloc (Nat.le_refl _) _⟩
  · have hT : decide (1 ≤ t ∧ t ≤ 256) = false := by simpa using ht
    rw [nb, if_neg ht]
    clear ht
    go_enter Try.func21, Try.ntmps21
    go_wp2_with (refine (isTotal_any _ _).mono ?_; rintro e w' ⟨rfl, rfl⟩)
    go_ret
    exact ⟨_, rfl, Own.nil _ _, Below.refl _ _⟩

theorem sNew_any (t : Int) (w : World) : Calls Try.prog 20 #[.int .i64 t] w fun e w' => ∃ v, e = .returned v ∧ Own w' w.heap.size v (nb t) ∧ Below w.heap.size w w' := by
  by_cases ht : 1 ≤ t ∧ t ≤ 256
  · have hT : decide (1 ≤ t ∧ t ≤ 256) = true := by simpa using ht
    rw [nb, if_pos ht]
    clear ht
    go_enter Try.func20, Try.ntmps20
    go_wp2_with (refine (l1In_any _ _ _ _).mono ?_; rintro e w' ⟨rfl, rfl⟩)
    go_ret
    exact ⟨_, rfl, own_lit _ _ _ _, (Below.refl _ _).alloc (Nat.le_refl _) _⟩
  · have hT : decide (1 ≤ t ∧ t ≤ 256) = false := by simpa using ht
    rw [nb, if_neg ht]
    clear ht
    go_enter Try.func20, Try.ntmps20
    go_wp2_with (refine (l1In_any _ _ _ _).mono ?_; rintro e w' ⟨rfl, rfl⟩)
    go_ret
    exact ⟨_, rfl, own_empty _, (Below.refl _ _).alloc (Nat.le_refl _) _⟩

theorem own_lst {w : World} {B : Nat} {A : Option Addr} {n c : Nat} {l : List Blk} (h : Own w B (.slice A n c) l) : Lst w w.heap.size A l.length l := by
  obtain ⟨A', c', e, hl, _⟩ := h.lst
  injection e with e1 e2 e3
  subst e1
  exact hl

theorem own_at {w : World} {B : Nat} {v : Value} {l : List Blk} (h : Own w B v l) : ∀ k, v.ownBlock = some k → B ≤ k ∧ k < w.heap.size := h.lt

/-- Writes to another block leave it. -/
theorem own_past {w w' : World} {B : Nat} {v : Value} {l : List Blk} {row : Option Nat} (h : Own w B v l) (hg : w.grownBy w' row) (hne : ∀ k, v.ownBlock = some k → row ≠ some k) : Own w' B v l := by
  refine h.kept hg ?_
  cases hv : v.ownBlock with
  | none => exact .inl rfl
  | some k => exact .inr (fun e => hne k hv e.symm)

theorem nb_len (t : Int) : (nb t).length ≤ 1 := by unfold nb; split <;> simp

set_option maxHeartbeats 2000000 in
theorem FnExactNewBlocks_walk {t : Int} (_wt : (Lit.int .i64 t).wf = true) {w : World} : Calls Try.prog 4 #[.int .i64 t] w fun e w' => e = .returned (.bool true) ∧ Below w.heap.size w w' := by
  have CS := Lib.hid (fun w => sNew_any t w)
  have CI := Lib.hid (fun w => iNew_any t w)
  have hlen : (nb t).length ≤ 1125899906842624 := Nat.le_trans (nb_len t) (by omega)
  generalize nb t = l at CS CI hlen
  go_enter Try.func4, Try.ntmps4
  go_wp2_with fail
  refine (CS.out w).mono ?_
  rintro e w1 ⟨v1, rfl, o1, b1⟩
  obtain ⟨A1, c1, rfl, l1, _⟩ := o1.lst
  go_wp2_with fail
  refine (CI.out w1).mono ?_
  rintro e w2 ⟨v2, rfl, o2, b2⟩
  obtain ⟨A2, c2, rfl, l2, _⟩ := o2.lst
  have q1 := own_at o1
  have q2 := own_at o2
  have p1 := o1.below b2
  have b12 := b1.trans (b2.mono b1.size)
  go_wp2_with fail
  refine (eqBlockS_same A2 A1 l.length c2 c1 _ _ l w2 l2 (own_lst p1) (Nat.le_refl _) (Nat.le_refl _) hlen).mono ?_
  rintro e w3 ⟨rfl, b3⟩
  have p1 := p1.below b3
  have p2 := o2.below b3
  have b13 := b12.trans (b3.mono b12.size)
  have b23 := b2.trans (b3.mono b2.size)
  go_wp2_with fail
  refine (mark_any A2 l.length c2 _ l w3 p2 hlen).mono ?_
  rintro e w4 ⟨rfl, p2, g4⟩
  have b14 := b13.grown g4 b13.size (fun k hk => by have := q2 k hk; have := b1.size; omega)
  have p1 := own_past p1 g4 (fun k hk e => by have := q1 k hk; have := q2 k e; omega)
  have hh : Lst w4 w4.heap.size A2 l.length (mks l.length) := by have := own_lst p2; rwa [mks_length] at this
  go_wp2_with fail
  refine (held_any A2 l.length c2 _ w4 hh hlen).mono ?_
  rintro e w' ⟨rfl, rfl⟩
  go_wp2_with fail
  refine (CI.out w4).mono ?_
  rintro e w5 ⟨v5, rfl, o5, b5⟩
  obtain ⟨A5, c5, rfl, l5, _⟩ := o5.lst
  have p1 := p1.below b5
  have p2 := p2.below b5
  have b15 := b14.trans (b5.mono b14.size)
  go_wp2_with fail
  refine (eqBlockS_same A5 A1 l.length c5 c1 _ _ l w5 l5 (own_lst p1) (Nat.le_refl _) (Nat.le_refl _) hlen).mono ?_
  rintro e w6 ⟨rfl, b6⟩
  have p2 := p2.below b6
  have b16 := b15.trans (b6.mono b15.size)
  have hh : Lst w6 w6.heap.size A2 l.length (mks l.length) := by have := own_lst p2; rwa [mks_length] at this
  go_wp2_with fail
  refine (held_any A2 l.length c2 _ w6 hh hlen).mono ?_
  rintro e w' ⟨rfl, rfl⟩
  go_wp2
  go_ret
  exact ⟨rfl, b16⟩

end Go.Proofs.Ytidkejmphhpjlaa.Wk
