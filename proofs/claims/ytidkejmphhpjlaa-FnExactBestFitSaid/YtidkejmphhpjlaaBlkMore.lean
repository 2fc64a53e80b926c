/- Plain mathematics of blocks: where a word is, fits, sliding. Conditions: none. -/
import Derived.Test.YtidkejmphhpjlaaBlkGive
namespace Go.Proofs.Ytidkejmphhpjlaa.Pl

/-! ## First fit -/
def FitsSize (l : List Blk) (size : Int) (k : Nat) : Prop := (bk l k).u = false ∧ size ≤ (bk l k).z

/-- The first free block that is large enough, from block k on; -1 if there is none. -/
def ffFrom (size : Int) : List Blk → Nat → Int
  | [], _ => -1
  | b :: r, k => if b.u = false ∧ size ≤ b.z then (k : Int) else ffFrom size r (k + 1)
def ff (l : List Blk) (size : Int) : Int := ffFrom size l 0

theorem ffFrom_spec (size : Int) (l : List Blk) (k : Nat) :
    (ffFrom size l k = -1 ∧ ∀ b ∈ l, b.u = false → b.z < size) ∨
    ∃ i : Nat, i < l.length ∧ ffFrom size l k = ((k + i : Nat) : Int) ∧ FitsSize l size i ∧ ∀ j : Nat, j < i → ¬ FitsSize l size j := by
  induction l generalizing k with
  | nil => left; simp [ffFrom]
  | cons b r ih =>
    by_cases h : b.u = false ∧ size ≤ b.z
    · right
      exact ⟨0, by simp, by simp [ffFrom, h], by simpa [FitsSize, bk] using h, by omega⟩
    · have hr : ffFrom size (b :: r) k = ffFrom size r (k + 1) := by simp only [ffFrom]; rw [if_neg h]
      rw [hr]
      rcases ih (k + 1) with ⟨h1, h2⟩ | ⟨i, hi, h1, h2, h3⟩
      · left
        refine ⟨h1, fun c hc hu => ?_⟩
        rcases List.mem_cons.1 hc with rfl | hc
        · have : ¬ size ≤ c.z := fun hz => h ⟨hu, hz⟩
          omega
        · exact h2 c hc hu
      · right
        refine ⟨i + 1, by simp; omega, by rw [h1]; congr 1; omega, by simpa [FitsSize, bk] using h2, fun j hj => ?_⟩
        cases j with
        | zero => simpa [FitsSize, bk] using h
        | succ j => have := h3 j (by omega); simpa [FitsSize, bk] using this

theorem ff_spec (l : List Blk) (size : Int) :
    (ff l size = -1 ∧ ∀ b ∈ l, b.u = false → b.z < size) ∨
    ∃ i : Nat, i < l.length ∧ ff l size = (i : Int) ∧ FitsSize l size i ∧ ∀ j : Nat, j < i → ¬ FitsSize l size j := by
  have := ffFrom_spec size l 0
  simpa [ff] using this

theorem bk_mem {l : List Blk} {k : Nat} (h : k < l.length) : bk l k ∈ l := by rw [bk_eq h]; exact List.getElem_mem h
theorem mem_bk {l : List Blk} {b : Blk} (h : b ∈ l) : ∃ k, k < l.length ∧ bk l k = b := by
  obtain ⟨k, hk, e⟩ := List.getElem_of_mem h
  exact ⟨k, hk, by rw [bk_eq hk]; exact e⟩

/-- Reading off the first fit. -/
theorem ff_eq {l : List Blk} {size : Int} {i : Nat} (hi : i < l.length) (h : FitsSize l size i) (hb : ∀ j : Nat, j < i → ¬ FitsSize l size j) : ff l size = (i : Int) := by
  rcases ff_spec l size with ⟨_, h2⟩ | ⟨j, hj, h1, h2, h3⟩
  · have := h2 _ (bk_mem hi) h.1; have := h.2; omega
  · rw [h1]
    have : j = i := by
      rcases Nat.lt_trichotomy i j with hlt | heq | hgt
      · exact absurd h (h3 i hlt)
      · exact heq.symm
      · exact absurd h2 (hb j hgt)
    rw [this]
theorem ff_none {l : List Blk} {size : Int} (h : ∀ j : Nat, j < l.length → ¬ FitsSize l size j) : ff l size = -1 := by
  rcases ff_spec l size with ⟨h1, _⟩ | ⟨j, hj, _, h2, _⟩
  · exact h1
  · exact absurd h2 (h j hj)

theorem ff_lf {l : List Blk} {size : Int} (h1 : 1 ≤ size) : (0 ≤ ff l size ↔ size ≤ lf l) := by
  rcases ff_spec l size with ⟨e, h2⟩ | ⟨i, hi, e, h2, _⟩
  · rw [e]
    constructor
    · omega
    · intro h
      obtain ⟨b, hb, hu, hz⟩ := lf_mem (l := l) (by omega)
      have := h2 b hb hu
      omega
  · rw [e]
    constructor
    · intro _
      have := le_lf (bk_mem hi) h2.1
      have := h2.2
      omega
    · intro _; omega

/-! ## Where a word is -/
theorem at_word {a e : Int} {pf : Bool} {l : List Blk} (h : Ok a pf l e) {w : Int} (h0 : a ≤ w) (h1 : w < e) :
    ∃ k, k < l.length ∧ (bk l k).s ≤ w ∧ w < (bk l k).s + (bk l k).z := by
  induction l generalizing a pf with
  | nil => simp only [Ok] at h; omega
  | cons b r ih =>
    obtain ⟨ha, hz, _, hr⟩ := h
    by_cases hw : w < a + b.z
    · exact ⟨0, by simp, by simp [bk]; omega, by simp [bk]; omega⟩
    · obtain ⟨k, hk, h2, h3⟩ := ih hr (by omega)
      exact ⟨k + 1, by simp; omega, by simpa [bk] using h2, by simpa [bk] using h3⟩

theorem next_start {a e : Int} {pf : Bool} {l : List Blk} (h : Ok a pf l e) {k : Nat} (hk : k + 1 < l.length) : (bk l (k + 1)).s = (bk l k).s + (bk l k).z := by
  induction l generalizing a pf k with
  | nil => simp at hk
  | cons b r ih =>
    obtain ⟨ha, hz, _, hr⟩ := h
    cases k with
    | zero =>
      cases r with
      | nil => simp at hk
      | cons c r => simp [bk]; rw [hr.1, ha]
    | succ k =>
      have := ih hr (k := k) (by simpa using hk)
      simpa [bk] using this

theorem first_start {a e : Int} {pf : Bool} {l : List Blk} (h : Ok a pf l e) (hk : 0 < l.length) : (bk l 0).s = a := by
  cases l with
  | nil => simp at hk
  | cons b r => exact h.1

theorem last_end {a e : Int} {pf : Bool} {l : List Blk} (h : Ok a pf l e) {k : Nat} (hk : k + 1 = l.length) : (bk l k).s + (bk l k).z = e := by
  induction l generalizing a pf k with
  | nil => simp at hk
  | cons b r ih =>
    obtain ⟨ha, hz, _, hr⟩ := h
    cases k with
    | zero =>
      cases r with
      | nil => simp only [Ok] at hr; simp [bk]; omega
      | cons c r => simp at hk
    | succ k =>
      have := ih hr (k := k) (by simpa using hk)
      simpa [bk] using this

theorem blk_z {a e : Int} {pf : Bool} {l : List Blk} (h : Ok a pf l e) {k : Nat} (hk : k < l.length) : 1 ≤ (bk l k).z := by
  induction l generalizing a pf k with
  | nil => simp at hk
  | cons b r ih =>
    cases k with
    | zero => exact h.2.1
    | succ k => have := ih h.2.2.2 (k := k) (by simpa using hk); simpa [bk] using this

theorem starts_mono {a e : Int} {pf : Bool} {l : List Blk} (h : Ok a pf l e) {i j : Nat} (hij : i < j) (hj : j < l.length) : (bk l i).s + (bk l i).z ≤ (bk l j).s := by
  induction j with
  | zero => omega
  | succ j ih =>
    have h1 := next_start h hj
    by_cases e : i = j
    · subst e; omega
    · have := ih (by omega) (by omega)
      have := blk_z h (k := j) (by omega)
      omega

theorem at_unique {a e : Int} {pf : Bool} {l : List Blk} (h : Ok a pf l e) {w : Int} {i j : Nat} (hi : i < l.length) (hj : j < l.length)
    (h1 : (bk l i).s ≤ w ∧ w < (bk l i).s + (bk l i).z) (h2 : (bk l j).s ≤ w ∧ w < (bk l j).s + (bk l j).z) : i = j := by
  rcases Nat.lt_trichotomy i j with hlt | heq | hgt
  · have := starts_mono h hlt hj; omega
  · exact heq
  · have := starts_mono h hgt hi; omega

end Go.Proofs.Ytidkejmphhpjlaa.Pl
