/- Plain mathematics of bitmaps: runs of free words, changing words, with no program in sight. Conditions: none. -/
import Derived.KernelRfl
namespace Go.Proofs.YtkgaajploobjdaaDoor.Pl

/-- Word k of a bitmap. -/
def ub (l : List Bool) (k : Nat) : Bool := l.getD k false

theorem ub_eq {l : List Bool} {k : Nat} (h : k < l.length) : ub l k = l[k] := by simp [ub, List.getD, h]
theorem ub_take_succ {l : List Bool} {k : Nat} (h : k < l.length) : l.take (k + 1) = l.take k ++ [ub l k] := by
  rw [ub_eq h, List.take_succ_eq_append_getElem h]
theorem ub_drop {l : List Bool} {k : Nat} (h : k < l.length) : l.drop k = ub l k :: l.drop (k + 1) := by
  rw [ub_eq h]; exact List.drop_eq_getElem_cons h
theorem ub_ext {x y : List Bool} (hl : x.length = y.length) (h : ∀ j : Nat, j < x.length → ub x j = ub y j) : x = y := by
  apply List.ext_getElem hl
  intro i h1 h2
  have := h i h1
  rwa [ub_eq h1, ub_eq h2] at this

/-- The m words from word s on are all v. -/
def AllAt (l : List Bool) (s m : Nat) (v : Bool) : Prop := ∀ j : Nat, s ≤ j → j < s + m → ub l j = v

theorem AllAt_zero (l : List Bool) (s : Nat) (v : Bool) : AllAt l s 0 v := fun j h1 h2 => by omega
theorem AllAt_succ {l : List Bool} {s m : Nat} {v : Bool} (h : AllAt l s m v) (hv : ub l (s + m) = v) : AllAt l s (m + 1) v := fun j h1 h2 => by
  by_cases e : j = s + m
  · subst e; exact hv
  · exact h j h1 (by omega)

/-- The m words from word s on set. -/
def setB (l : List Bool) (s m : Nat) (v : Bool) : List Bool := l.take s ++ List.replicate m v ++ l.drop (s + m)

theorem setB_len {l : List Bool} {s m : Nat} {v : Bool} (h : s + m ≤ l.length) : (setB l s m v).length = l.length := by
  unfold setB; simp; omega
theorem setB_ub {l : List Bool} {s m : Nat} {v : Bool} (h : s + m ≤ l.length) (j : Nat) : ub (setB l s m v) j = if s ≤ j ∧ j < s + m then v else ub l j := by
  unfold setB ub
  have hs : (l.take s).length = s := by simp; omega
  rw [List.getD_eq_getElem?_getD, List.getD_eq_getElem?_getD, List.append_assoc]
  by_cases h1 : j < s
  · rw [List.getElem?_append_left (by omega), if_neg (by omega), List.getElem?_take_of_lt h1]
  · rw [List.getElem?_append_right (by omega), hs]
    by_cases h2 : j < s + m
    · rw [List.getElem?_append_left (by simp; omega), if_pos (by omega), List.getElem?_replicate, if_pos (by omega)]; rfl
    · rw [List.getElem?_append_right (by simp; omega), if_neg (by omega), List.length_replicate, List.getElem?_drop, show s + m + (j - s - m) = j by omega]
theorem setB_zero (l : List Bool) (s : Nat) (v : Bool) : setB l s 0 v = l := by
  unfold setB; simp
theorem setB_step {l : List Bool} {s m : Nat} {v : Bool} (h : s + m < l.length) : (setB l s m v).set (s + m) v = setB l s (m + 1) v := by
  apply ub_ext
  · rw [List.length_set, setB_len (by omega), setB_len (by omega)]
  · intro j hj
    rw [List.length_set, setB_len (by omega)] at hj
    have e : ub ((setB l s m v).set (s + m) v) j = if s + m = j then v else ub (setB l s m v) j := by
      unfold ub
      rw [List.getD_eq_getElem?_getD, List.getD_eq_getElem?_getD, List.getElem?_set]
      split
      · rw [if_pos (by rw [setB_len (by omega)]; omega)]; rfl
      · rfl
    rw [e, setB_ub (by omega), setB_ub (by omega)]
    by_cases h1 : s + m = j
    · rw [if_pos h1, if_pos (by omega)]
    · rw [if_neg h1]
      by_cases h2 : s ≤ j ∧ j < s + m
      · rw [if_pos h2, if_pos (by omega)]
      · rw [if_neg h2, if_neg (by omega)]
theorem setB_all {l : List Bool} {s m : Nat} {v : Bool} (h : s + m ≤ l.length) : AllAt (setB l s m v) s m v := fun j h1 h2 => by
  rw [setB_ub h, if_pos ⟨h1, h2⟩]
theorem setB_back {l : List Bool} {s m : Nat} {v v2 : Bool} (h : s + m ≤ l.length) (ha : AllAt l s m v2) : setB (setB l s m v) s m v2 = l := by
  apply ub_ext
  · rw [setB_len (by rw [setB_len h]; exact h), setB_len h]
  · intro j _
    rw [setB_ub (by rw [setB_len h]; exact h), setB_ub h]
    by_cases h2 : s ≤ j ∧ j < s + m
    · rw [if_pos h2]; exact (ha j h2.1 h2.2).symm
    · rw [if_neg h2, if_neg h2]
theorem setB_part {l : List Bool} {s m k : Nat} {v : Bool} (h : s + (m + k) ≤ l.length) : setB (setB l s m v) (s + m) k v = setB l s (m + k) v := by
  apply ub_ext
  · rw [setB_len (by rw [setB_len (by omega)]; omega), setB_len (by omega), setB_len h]
  · intro j _
    rw [setB_ub (by rw [setB_len (by omega)]; omega), setB_ub (by omega), setB_ub h]
    by_cases h1 : s + m ≤ j ∧ j < s + m + k
    · rw [if_pos h1, if_pos (by omega)]
    · rw [if_neg h1]
      by_cases h2 : s ≤ j ∧ j < s + m
      · rw [if_pos h2, if_pos (by omega)]
      · rw [if_neg h2, if_neg (by omega)]
theorem AllAt_part1 {l : List Bool} {s m k : Nat} {v : Bool} (h : AllAt l s (m + k) v) : AllAt l s m v := fun j h1 h2 => h j h1 (by omega)
theorem AllAt_part2 {l : List Bool} {s m k : Nat} {v u : Bool} (hl : s + (m + k) ≤ l.length) (h : AllAt l s (m + k) v) : AllAt (setB l s m u) (s + m) k v := fun j h1 h2 => by
  rw [setB_ub (by omega), if_neg (by omega)]; exact h j (by omega) (by omega)

/-! ## Runs of free words -/
/-- The free words at the end. -/
def trail (l : List Bool) : Nat := (l.reverse.takeWhile (fun b => !b)).length
theorem trail_nil : trail [] = 0 := rfl
theorem trail_snoc (l : List Bool) (b : Bool) : trail (l ++ [b]) = if b then 0 else trail l + 1 := by
  unfold trail
  cases b <;> simp
theorem trail_le (l : List Bool) : trail l ≤ l.length := by
  unfold trail
  have := (List.takeWhile_sublist (fun b : Bool => !b) (l := l.reverse)).length_le
  simpa using this

theorem trail_iff (l : List Bool) (m : Nat) : ∀ e : Nat, e ≤ l.length → (m ≤ trail (l.take e) ↔ m ≤ e ∧ AllAt l (e - m) m false) := by
  intro e
  induction e generalizing m with
  | zero =>
    intro _
    rw [List.take_zero, trail_nil]
    constructor
    · intro h; exact ⟨h, fun j h1 h2 => by omega⟩
    · intro h; exact h.1
  | succ e ih =>
    intro he
    rw [ub_take_succ (by omega), trail_snoc]
    cases m with
    | zero => simp; exact fun j h1 h2 => by omega
    | succ m =>
      have := ih m (by omega)
      cases hb : ub l e
      · simp only [Bool.false_eq_true, if_false]
        rw [show m + 1 ≤ trail (l.take e) + 1 ↔ m ≤ trail (l.take e) by omega, this]
        rw [show e + 1 - (m + 1) = e - m by omega]
        constructor
        · rintro ⟨h1, h2⟩
          exact ⟨by omega, AllAt_succ h2 (by rw [show e - m + m = e by omega]; exact hb)⟩
        · rintro ⟨h1, h2⟩
          exact ⟨by omega, AllAt_part1 (k := 1) h2⟩
      · simp only [if_true]
        constructor
        · omega
        · rintro ⟨h1, h2⟩
          have := h2 e (by omega) (by omega)
          rw [hb] at this; cases this

/-- The first place of m free words; -1 if there is none. -/
def FindR (l : List Bool) (m : Nat) (r : Int) : Prop :=
  (r = -1 ∧ ∀ k : Nat, k + m ≤ l.length → ¬ AllAt l k m false) ∨ ∃ k : Nat, r = k ∧ k + m ≤ l.length ∧ AllAt l k m false ∧ ∀ j : Nat, j < k → ¬ AllAt l j m false

theorem FindR_uniq {l : List Bool} {m : Nat} {r r' : Int} (h : FindR l m r) (h' : FindR l m r') : r = r' := by
  rcases h with ⟨rfl, h⟩ | ⟨k, rfl, h1, h2, h3⟩ <;> rcases h' with ⟨rfl, h'⟩ | ⟨k', rfl, h1', h2', h3'⟩
  · rfl
  · exact absurd h2' (h k' h1')
  · exact absurd h2 (h' k h1)
  · rcases Nat.lt_trichotomy k k' with h | h | h
    · exact absurd h2 (h3' k h)
    · rw [h]
    · exact absurd h2' (h3 k' h)

theorem find_hit {l : List Bool} {m i : Nat} (hi : i < l.length) (h : ∀ e : Nat, e ≤ i → trail (l.take e) < m) (ht : trail (l.take (i + 1)) = m) : m ≤ i + 1 ∧ FindR l m ((i : Int) - m + 1) := by
  have := (trail_iff l m (i + 1) (by omega)).1 (by omega)
  refine ⟨this.1, .inr ⟨i + 1 - m, by omega, by omega, this.2, fun j hj ha => ?_⟩⟩
  have h1 := h (j + m) (by omega)
  have h2 := (trail_iff l m (j + m) (by omega)).2 ⟨by omega, by rw [Nat.add_sub_cancel]; exact ha⟩
  omega
theorem find_miss {l : List Bool} {m : Nat} (h : ∀ e : Nat, e ≤ l.length → trail (l.take e) < m) : FindR l m (-1) := by
  refine .inl ⟨rfl, fun k hk ha => ?_⟩
  have h1 := h (k + m) (by omega)
  have h2 := (trail_iff l m (k + m) (by omega)).2 ⟨by omega, by rw [Nat.add_sub_cancel]; exact ha⟩
  omega

/-- The longest run of free words among the first k. -/
def bst (l : List Bool) : Nat → Nat
  | 0 => 0
  | k + 1 => max (bst l k) (trail (l.take (k + 1)))

theorem bst_le (l : List Bool) (k : Nat) : bst l k ≤ k := by
  induction k with
  | zero => exact Nat.le_refl _
  | succ k ih =>
    have h1 := trail_le (l.take (k + 1))
    have h2 := List.length_take_le (k + 1) l
    simp only [bst]; omega
theorem bst_ge {l : List Bool} {k e : Nat} (h : e ≤ k) : trail (l.take e) ≤ bst l k := by
  induction k with
  | zero => have : e = 0 := by omega
            subst this; rw [List.take_zero]; exact Nat.le_refl _
  | succ k ih =>
    simp only [bst]
    by_cases h1 : e = k + 1
    · subst h1; omega
    · have := ih (by omega); omega
theorem bst_hit (l : List Bool) (k : Nat) : ∃ e : Nat, e ≤ k ∧ trail (l.take e) = bst l k := by
  induction k with
  | zero => exact ⟨0, Nat.le_refl _, rfl⟩
  | succ k ih =>
    obtain ⟨e, h1, h2⟩ := ih
    simp only [bst]
    by_cases h : bst l k ≤ trail (l.take (k + 1))
    · exact ⟨k + 1, Nat.le_refl _, by omega⟩
    · exact ⟨e, by omega, by omega⟩
/-- The longest run. -/
def lrB (l : List Bool) : Nat := bst l l.length

theorem lr_iff (l : List Bool) (m : Nat) : m ≤ lrB l ↔ ∃ k : Nat, k + m ≤ l.length ∧ AllAt l k m false := by
  constructor
  · intro h
    obtain ⟨e, h1, h2⟩ := bst_hit l l.length
    have h2 : trail (l.take e) = lrB l := h2
    obtain ⟨h3, h4⟩ := (trail_iff l m e h1).1 (by omega)
    exact ⟨e - m, by omega, h4⟩
  · rintro ⟨k, h1, h2⟩
    have h3 := (trail_iff l m (k + m) h1).2 ⟨by omega, by rw [Nat.add_sub_cancel]; exact h2⟩
    have h4 := bst_ge (l := l) h1
    unfold lrB; omega
theorem find_lr {l : List Bool} {m : Nat} {r : Int} (h : FindR l m r) : 0 ≤ r ↔ m ≤ lrB l := by
  rw [lr_iff]
  rcases h with ⟨rfl, h⟩ | ⟨k, rfl, h1, h2, _⟩
  · constructor
    · intro h; omega
    · rintro ⟨k, h1, h2⟩; exact absurd h2 (h k h1)
  · exact ⟨fun _ => ⟨k, h1, h2⟩, fun _ => by omega⟩
theorem find_neg {l : List Bool} {m : Nat} {r : Int} (h : FindR l m r) (hr : ¬ 0 ≤ r) : r = -1 := by
  rcases h with ⟨rfl, _⟩ | ⟨k, rfl, _⟩
  · rfl
  · omega

theorem ub_rev {l : List Bool} {j : Nat} (h : j < l.length) : ub l.reverse j = ub l (l.length - 1 - j) := by
  rw [ub_eq (by simpa using h), ub_eq (by omega), List.getElem_reverse]
theorem lr_rev_le (l : List Bool) (m : Nat) (h : m ≤ lrB l) : m ≤ lrB l.reverse := by
  rw [lr_iff] at h ⊢
  obtain ⟨k, h1, h2⟩ := h
  refine ⟨l.length - m - k, by simp; omega, fun j h3 h4 => ?_⟩
  rw [ub_rev (by omega)]
  exact h2 _ (by omega) (by omega)
/-- Turned round the bitmap has the same longest run. -/
theorem lr_rev (l : List Bool) : lrB l.reverse = lrB l := by
  have h1 := lr_rev_le l (lrB l) (Nat.le_refl _)
  have h2 := lr_rev_le l.reverse (lrB l.reverse) (Nat.le_refl _)
  rw [List.reverse_reverse] at h2
  omega

/-- A run of used words, then a run of free ones. -/
theorem bst_used {l : List Bool} {j t : Nat} (hl : j + t ≤ l.length) (h : AllAt l j t true) : bst l (j + t) = bst l j := by
  induction t with
  | zero => rfl
  | succ t ih =>
    have := ih (by omega) (AllAt_part1 (k := 1) h)
    show max (bst l (j + t)) (trail (l.take (j + t + 1))) = _
    rw [ub_take_succ (by omega), trail_snoc, h (j + t) (by omega) (by omega), this]
    simp
theorem bst_free {l : List Bool} {j t : Nat} (hl : j + t ≤ l.length) (h : AllAt l j t false) (h0 : trail (l.take j) = 0) : bst l (j + t) = max (bst l j) t ∧ trail (l.take (j + t)) = t := by
  induction t with
  | zero => exact ⟨by simp, h0⟩
  | succ t ih =>
    obtain ⟨h1, h2⟩ := ih (by omega) (AllAt_part1 (k := 1) h)
    have h3 : trail (l.take (j + t + 1)) = t + 1 := by
      rw [ub_take_succ (by omega), trail_snoc, h (j + t) (by omega) (by omega), h2]
      simp
    refine ⟨?_, h3⟩
    show max (bst l (j + t)) (trail (l.take (j + t + 1))) = _
    rw [h1, h3]; omega
theorem trail_used {l : List Bool} {j t : Nat} (hl : j + t ≤ l.length) (h : AllAt l j t true) (ht : 1 ≤ t) : trail (l.take (j + t)) = 0 := by
  obtain ⟨t, rfl⟩ : ∃ q, t = q + 1 := ⟨t - 1, by omega⟩
  show trail (l.take (j + t + 1)) = 0
  rw [ub_take_succ (by omega), trail_snoc, h (j + t) (by omega) (by omega)]; rfl

end Go.Proofs.YtkgaajploobjdaaDoor.Pl
