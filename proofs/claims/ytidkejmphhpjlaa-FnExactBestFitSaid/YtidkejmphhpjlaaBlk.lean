/- Plain mathematics of blocks: what the Go functions on blocks compute, with no program in sight. Conditions: none. -/
import Derived.KernelRfl
namespace Go.Proofs.Ytidkejmphhpjlaa.Pl

/-- A block: its first word, its words, whether it is used. -/
structure Blk where
  s : Int
  z : Int
  u : Bool

theorem Blk.ext' {a b : Blk} (h1 : a.s = b.s) (h2 : a.z = b.z) (h3 : a.u = b.u) : a = b := by
  cases a; cases b; simp_all

/-- The blocks divide the words from a to e; pf: the block before is free. -/
def Ok : Int → Bool → List Blk → Int → Prop
  | a, _, [], e => a = e
  | a, pf, b :: r, e => b.s = a ∧ 1 ≤ b.z ∧ (pf = false ∨ b.u = true) ∧ Ok (a + b.z) (!b.u) r e

/-- Valid blocks. -/
def V (l : List Blk) (t : Int) : Prop := 1 ≤ t ∧ t ≤ 256 ∧ Ok 0 false l t

def lastFree (pf : Bool) : List Blk → Bool
  | [] => pf
  | b :: r => lastFree (!b.u) r

theorem Ok_append {a : Int} {pf : Bool} {l1 l2 : List Blk} {e : Int} :
    Ok a pf (l1 ++ l2) e ↔ ∃ m, Ok a pf l1 m ∧ Ok m (lastFree pf l1) l2 e := by
  induction l1 generalizing a pf with
  | nil => simp [Ok, lastFree]
  | cons b r ih =>
    simp only [List.cons_append, Ok, lastFree, ih]
    constructor
    · rintro ⟨h1, h2, h3, m, h4, h5⟩; exact ⟨m, ⟨h1, h2, h3, h4⟩, h5⟩
    · rintro ⟨m, ⟨h1, h2, h3, h4⟩, h5⟩; exact ⟨h1, h2, h3, m, h4, h5⟩

theorem Ok_le {a : Int} {pf : Bool} {l : List Blk} {e : Int} (h : Ok a pf l e) : a + l.length ≤ e := by
  induction l generalizing a pf with
  | nil => simp only [Ok] at h; simp; omega
  | cons b r ih => obtain ⟨_, h2, _, h4⟩ := h; have := ih h4; simp; omega

theorem Ok_inj {a : Int} {pf : Bool} {l : List Blk} {e e' : Int} (h : Ok a pf l e) (h' : Ok a pf l e') : e = e' := by
  induction l generalizing a pf with
  | nil => simp only [Ok] at h h'; omega
  | cons b r ih => exact ih h.2.2.2 h'.2.2.2

theorem Ok_weaken {a : Int} {pf : Bool} {l : List Blk} {e : Int} (h : Ok a pf l e) : Ok a false l e := by
  cases l with
  | nil => exact h
  | cons b r => exact ⟨h.1, h.2.1, .inl rfl, h.2.2.2⟩

/-- Block k. -/
def bk (l : List Blk) (k : Nat) : Blk := l.getD k ⟨0, 0, false⟩

theorem bk_eq {l : List Blk} {k : Nat} (h : k < l.length) : bk l k = l[k] := by
  simp [bk, List.getD, h]

theorem take_succ' {l : List Blk} {k : Nat} (h : k < l.length) : l.take (k + 1) = l.take k ++ [bk l k] := by
  rw [bk_eq h, List.take_succ_eq_append_getElem h]

theorem drop_cons' {l : List Blk} {k : Nat} (h : k < l.length) : l.drop k = bk l k :: l.drop (k + 1) := by
  rw [bk_eq h]; exact List.drop_eq_getElem_cons h

theorem lastFree_append (pf : Bool) (l : List Blk) (b : Blk) : lastFree pf (l ++ [b]) = !b.u := by
  induction l generalizing pf with
  | nil => rfl
  | cons c r ih => simp only [List.cons_append, lastFree]; exact ih _

theorem lastFree_take {l : List Blk} {k : Nat} (h : k < l.length) : lastFree false (l.take (k + 1)) = !(bk l k).u := by
  rw [take_succ' h, lastFree_append]

/-- What a round of the check asks of block k. -/
def Fits (l : List Blk) (e : Int) (k : Nat) : Prop := (bk l k).s = e ∧ 1 ≤ (bk l k).z ∧ (k = 0 ∨ (bk l k).u = true ∨ (bk l (k - 1)).u = true)

theorem lastFree_at {l : List Blk} {k : Nat} (h : k ≤ l.length) : (lastFree false (l.take k) = false ∨ (bk l k).u = true) ↔ (k = 0 ∨ (bk l k).u = true ∨ (bk l (k - 1)).u = true) := by
  cases k with
  | zero => simp [lastFree]
  | succ k =>
    rw [lastFree_take (by omega)]
    simp only [Nat.add_sub_cancel]
    cases (bk l k).u <;> simp

theorem Ok_step {l : List Blk} {e : Int} {k : Nat} (h : Ok 0 false (l.take k) e) (hk : k < l.length) (hf : Fits l e k) : Ok 0 false (l.take (k + 1)) (e + (bk l k).z) := by
  rw [take_succ' hk, Ok_append]
  exact ⟨e, h, hf.1, hf.2.1, (lastFree_at (by omega)).2 hf.2.2, rfl⟩

theorem V_at {l : List Blk} {t e : Int} {k : Nat} (hv : V l t) (h : Ok 0 false (l.take k) e) (hk : k < l.length) : Fits l e k ∧ (bk l k).z ≤ t - e := by
  obtain ⟨_, _, ho⟩ := hv
  rw [← List.take_append_drop k l, Ok_append] at ho
  obtain ⟨m, h1, h2⟩ := ho
  have := Ok_inj h h1; subst this
  rw [drop_cons' hk] at h2
  obtain ⟨a, b, c, d⟩ := h2
  have := Ok_le d
  exact ⟨⟨a, b, (lastFree_at (by omega)).1 c⟩, by omega⟩

theorem V_prefix {l : List Blk} {t : Int} (hv : V l t) (k : Nat) : ∃ e, Ok 0 false (l.take k) e ∧ 0 ≤ e ∧ e ≤ t := by
  obtain ⟨_, _, ho⟩ := hv
  rw [← List.take_append_drop k l, Ok_append] at ho
  obtain ⟨m, h1, h2⟩ := ho
  have a := Ok_le h1
  have b := Ok_le h2
  exact ⟨m, h1, by omega, by omega⟩

theorem V_len {l : List Blk} {t : Int} (hv : V l t) : (l.length : Int) ≤ t ∧ t ≤ 256 ∧ 1 ≤ t := by
  have := Ok_le hv.2.2; exact ⟨by omega, hv.2.1, hv.1⟩

theorem V_pos {l : List Blk} {t : Int} (hv : V l t) : 0 < l.length := by
  cases l with
  | nil => have h := hv.2.2; simp only [Ok] at h; have := hv.1; omega
  | cons b r => simp

/-- In valid blocks block k begins within the memory and has at least one word and at most t. -/
theorem V_blk {l : List Blk} {t : Int} (hv : V l t) {k : Nat} (hk : k < l.length) : 0 ≤ (bk l k).s ∧ 1 ≤ (bk l k).z ∧ (bk l k).s + (bk l k).z ≤ t := by
  obtain ⟨e, h, h0, h1⟩ := V_prefix hv k
  obtain ⟨⟨a, b, _⟩, c⟩ := V_at hv h hk
  omega

/-- Free words. -/
def fw : List Blk → Int
  | [] => 0
  | b :: r => (if b.u then 0 else b.z) + fw r

theorem fw_append (a b : List Blk) : fw (a ++ b) = fw a + fw b := by
  induction a with
  | nil => simp [fw]
  | cons x r ih => simp only [List.cons_append, fw, ih]; omega

theorem fw_take {l : List Blk} {k : Nat} (h : k < l.length) : fw (l.take (k + 1)) = fw (l.take k) + (if (bk l k).u then 0 else (bk l k).z) := by
  rw [take_succ' h, fw_append]; simp [fw]

theorem fw_bd {a : Int} {pf : Bool} {l : List Blk} {e : Int} (h : Ok a pf l e) : 0 ≤ fw l ∧ fw l ≤ e - a := by
  induction l generalizing a pf with
  | nil => simp only [Ok] at h; simp [fw]; omega
  | cons b r ih =>
    obtain ⟨h1, h2, h3, h4⟩ := h
    have := ih h4
    simp only [fw]; split <;> omega

/-- The largest free block. -/
def lf : List Blk → Int
  | [] => 0
  | b :: r => if b.u then lf r else max b.z (lf r)

theorem lf_nonneg (l : List Blk) : 0 ≤ lf l := by
  induction l with
  | nil => simp [lf]
  | cons b r ih => simp only [lf]; split <;> omega

theorem lf_snoc (l : List Blk) (b : Blk) : lf (l ++ [b]) = if b.u then lf l else max (lf l) b.z := by
  induction l with
  | nil => simp [lf]; split <;> omega
  | cons c r ih => simp only [List.cons_append, lf, ih]; split <;> split <;> omega

theorem lf_take {l : List Blk} {k : Nat} (h : k < l.length) : lf (l.take (k + 1)) = if (bk l k).u then lf (l.take k) else max (lf (l.take k)) (bk l k).z := by
  rw [take_succ' h, lf_snoc]

theorem lf_le_iff (l : List Blk) (x : Int) (hx : 0 ≤ x) : lf l ≤ x ↔ ∀ b ∈ l, b.u = false → b.z ≤ x := by
  induction l with
  | nil => simp [lf]; omega
  | cons c r ih =>
    simp only [lf, List.mem_cons]
    constructor
    · intro h b hb hu
      rcases hb with rfl | hb
      · rw [hu] at h; simp at h; omega
      · exact ih.1 (by split at h <;> omega) b hb hu
    · intro h
      have h1 := ih.2 (fun b hb hu => h b (.inr hb) hu)
      cases hc : c.u
      · have := h c (.inl rfl) hc; simp; omega
      · simp; exact h1

theorem le_lf {l : List Blk} {b : Blk} (hb : b ∈ l) (hu : b.u = false) : b.z ≤ lf l :=
  (lf_le_iff l (lf l) (lf_nonneg l)).1 (Int.le_refl _) b hb hu

theorem lf_le_fw {a : Int} {pf : Bool} {l : List Blk} {e : Int} (h : Ok a pf l e) : lf l ≤ fw l := by
  induction l generalizing a pf with
  | nil => simp [lf, fw]
  | cons b r ih =>
    obtain ⟨h1, h2, h3, h4⟩ := h
    have := ih h4
    have := fw_bd h4
    simp only [lf, fw]; split <;> omega

theorem lf_mem {l : List Blk} (h : 0 < lf l) : ∃ b ∈ l, b.u = false ∧ b.z = lf l := by
  induction l with
  | nil => simp [lf] at h
  | cons c r ih =>
    simp only [lf] at h ⊢
    cases hc : c.u
    · simp only [hc, Bool.false_eq_true, if_false] at h ⊢
      by_cases hm : lf r ≤ c.z
      · exact ⟨c, by simp, hc, by omega⟩
      · obtain ⟨b, hb, hu, hz⟩ := ih (by omega)
        exact ⟨b, by simp [hb], hu, by omega⟩
    · simp only [hc, if_true] at h ⊢
      obtain ⟨b, hb, hu, hz⟩ := ih h
      exact ⟨b, by simp [hb], hu, hz⟩

end Go.Proofs.Ytidkejmphhpjlaa.Pl
