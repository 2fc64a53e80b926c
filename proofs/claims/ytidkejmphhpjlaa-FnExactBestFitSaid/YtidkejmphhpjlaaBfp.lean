/- The best fit in plain Lean: the search, and the stable order of the free blocks. Conditions: none. -/
import Derived.Test.YtidkejmphhpjlaaBlk
import Derived.Sort.LotA
namespace Go.Proofs.Ytidkejmphhpjlaa.Pl

/-- Block i is the free one of the least size that is at least o, the first of them. -/
structure Pick (l : List Blk) (o : Int) (i : Nat) : Prop where
  lt : i < l.length
  free : (bk l i).u = false
  big : o ≤ (bk l i).z
  least : ∀ j : Nat, j < l.length → (bk l j).u = false → o ≤ (bk l j).z → (bk l i).z ≤ (bk l j).z
  first : ∀ j : Nat, j < i → (bk l j).u = false → o ≤ (bk l j).z → (bk l i).z < (bk l j).z

theorem Pick_uniq {l : List Blk} {o : Int} {i j : Nat} (hi : Pick l o i) (hj : Pick l o j) : i = j := by
  rcases Nat.lt_trichotomy i j with h | h | h
  · have := hj.first i h hi.free hi.big; have := hi.least j hj.lt hj.free hj.big; omega
  · exact h
  · have := hi.first j h hj.free hj.big; have := hj.least i hi.lt hi.free hi.big; omega

/-- What the search through the first k blocks has found: -1, or the place of the best one. -/
def Scan (l : List Blk) (o : Int) (k : Nat) (b : Int) : Prop :=
  (b = -1 ∧ ∀ j : Nat, j < k → (bk l j).u = false → (bk l j).z < o) ∨
  ∃ i : Nat, b = i ∧ i < k ∧ (bk l i).u = false ∧ o ≤ (bk l i).z ∧ (∀ j : Nat, j < k → (bk l j).u = false → o ≤ (bk l j).z → (bk l i).z ≤ (bk l j).z) ∧ (∀ j : Nat, j < i → (bk l j).u = false → o ≤ (bk l j).z → (bk l i).z < (bk l j).z)

theorem Scan_zero (l : List Blk) (o : Int) : Scan l o 0 (-1) := .inl ⟨rfl, fun j h => by omega⟩
theorem Scan_skip {l : List Blk} {o : Int} {k : Nat} {b : Int} (h : Scan l o k b) (hk : (bk l k).u = true ∨ (bk l k).z < o) : Scan l o (k + 1) b := by
  rcases h with ⟨rfl, h⟩ | ⟨i, rfl, h1, h2, h3, h4, h5⟩
  · refine .inl ⟨rfl, fun j hj hu => ?_⟩
    by_cases e : j = k
    · subst e; rcases hk with hk | hk
      · rw [hk] at hu; cases hu
      · exact hk
    · exact h j (by omega) hu
  · refine .inr ⟨i, rfl, by omega, h2, h3, fun j hj hu ho => ?_, h5⟩
    by_cases e : j = k
    · subst e; rcases hk with hk | hk
      · rw [hk] at hu; cases hu
      · omega
    · exact h4 j (by omega) hu ho
theorem Scan_keep {l : List Blk} {o : Int} {k i : Nat} (h : Scan l o k i) (hk : (bk l i).z ≤ (bk l k).z) : Scan l o (k + 1) i := by
  rcases h with ⟨e, _⟩ | ⟨i', e, h1, h2, h3, h4, h5⟩
  · omega
  · obtain rfl : i' = i := by omega
    refine .inr ⟨i', rfl, by omega, h2, h3, fun j hj hu ho => ?_, h5⟩
    by_cases e : j = k
    · subst e; exact hk
    · exact h4 j (by omega) hu ho
theorem Scan_new {l : List Blk} {o : Int} {k : Nat} (h : Scan l o k (-1)) (hu : (bk l k).u = false) (ho : o ≤ (bk l k).z) : Scan l o (k + 1) k := by
  rcases h with ⟨_, h⟩ | ⟨i', e, _⟩
  · refine .inr ⟨k, rfl, by omega, hu, ho, fun j hj hu' ho' => ?_, fun j hj hu' ho' => ?_⟩
    · by_cases e : j = k
      · subst e; exact Int.le_refl _
      · have := h j (by omega) hu'; omega
    · have := h j hj hu'; omega
  · omega
theorem Scan_less {l : List Blk} {o : Int} {k i : Nat} (h : Scan l o k i) (hu : (bk l k).u = false) (ho : o ≤ (bk l k).z) (hk : (bk l k).z < (bk l i).z) : Scan l o (k + 1) k := by
  rcases h with ⟨e, _⟩ | ⟨i', e, h1, h2, h3, h4, h5⟩
  · omega
  · obtain rfl : i' = i := by omega
    refine .inr ⟨k, rfl, by omega, hu, ho, fun j hj hu' ho' => ?_, fun j hj hu' ho' => ?_⟩
    · by_cases e : j = k
      · subst e; exact Int.le_refl _
      · have := h4 j (by omega) hu' ho'; omega
    · have := h4 j hj hu' ho'; omega
theorem Scan_pos {l : List Blk} {o : Int} {k : Nat} {b : Int} (h : Scan l o k b) : (b = -1 ∧ Scan l o k (-1)) ∨ ∃ i : Nat, b = i ∧ i < k ∧ Scan l o k i := by
  have hh := h
  rcases h with ⟨e, _⟩ | ⟨i, e, h1, _⟩
  · subst e; exact .inl ⟨rfl, hh⟩
  · subst e; exact .inr ⟨i, rfl, h1, hh⟩

/-- What the best fit answers. -/
def BestR (l : List Blk) (o r : Int) : Prop := (r = -1 ∧ ∀ j : Nat, j < l.length → (bk l j).u = false → (bk l j).z < o) ∨ ∃ i : Nat, r = i ∧ Pick l o i
theorem Scan_best {l : List Blk} {o b : Int} (h : Scan l o l.length b) : BestR l o b := by
  rcases h with h | ⟨i, e, h1, h2, h3, h4, h5⟩
  · exact .inl h
  · exact .inr ⟨i, e, h1, h2, h3, h4, h5⟩
theorem BestR_uniq {l : List Blk} {o r s : Int} (h : BestR l o r) (h' : BestR l o s) : r = s := by
  rcases h with ⟨rfl, h⟩ | ⟨i, rfl, h⟩
  · rcases h' with ⟨rfl, _⟩ | ⟨j, rfl, h'⟩
    · rfl
    · have := h j h'.lt h'.free; have := h'.big; omega
  · rcases h' with ⟨rfl, h'⟩ | ⟨j, rfl, h'⟩
    · have := h' i h.lt h.free; have := h.big; omega
    · rw [Pick_uniq h h']
theorem BestR_ex (l : List Blk) (o : Int) : ∃ r, BestR l o r := by
  have key : ∀ k : Nat, k ≤ l.length → ∃ b, Scan l o k b := by
    intro k
    induction k with
    | zero => intro _; exact ⟨-1, Scan_zero l o⟩
    | succ k ih =>
      intro hk
      obtain ⟨b, hb⟩ := ih (by omega)
      by_cases hu : (bk l k).u = true
      · exact ⟨b, Scan_skip hb (.inl hu)⟩
      · have hu : (bk l k).u = false := by simpa using hu
        by_cases hz : (bk l k).z < o
        · exact ⟨b, Scan_skip hb (.inr hz)⟩
        · rcases Scan_pos hb with ⟨rfl, h⟩ | ⟨i, rfl, _, h⟩
          · exact ⟨k, Scan_new h hu (by omega)⟩
          · by_cases hl : (bk l k).z < (bk l i).z
            · exact ⟨k, Scan_less h hu (by omega) hl⟩
            · exact ⟨i, Scan_keep h (by omega)⟩
  obtain ⟨b, hb⟩ := key l.length (Nat.le_refl _)
  exact ⟨b, Scan_best hb⟩

/-! ## The stable order -/
section
variable {α : Type} (v : α → Nat) (l : List Blk)

/-- By size alone; by size, and by place among equals. -/
def ltz (a b : α) : Bool := decide ((bk l (v a)).z < (bk l (v b)).z)
def ltx (a b : α) : Bool := decide ((bk l (v a)).z < (bk l (v b)).z ∨ ((bk l (v a)).z = (bk l (v b)).z ∧ v a < v b))

theorem swo_ltx : Go.Sort.SWO (ltx v l) := by
  refine ⟨fun x => ?_, fun x y z h1 h2 => ?_, fun x y z h1 h2 => ?_⟩
  · simp [ltx]
  · simp only [ltx, decide_eq_true_eq] at h1 h2 ⊢; omega
  · simp only [ltx, decide_eq_false_iff_not] at h1 h2 ⊢; omega

theorem ltz_eq {a b : α} (h : v b < v a) : ltz v l a b = ltx v l a b := by
  unfold ltz ltx
  by_cases c : (bk l (v a)).z < (bk l (v b)).z
  · simp [c]
  · have : ¬ ((bk l (v a)).z < (bk l (v b)).z ∨ ((bk l (v a)).z = (bk l (v b)).z ∧ v a < v b)) := by omega
    rw [decide_eq_false c, decide_eq_false this]

variable [Inhabited α]

theorem inner_eq : ∀ (j : Nat) (d : Array α), j < d.size → (∀ m, m < j → v d[m]! < v d[j]!) → Go.Sort.insInner (ltz v l) 0 j d = Go.Sort.insInner (ltx v l) 0 j d := by
  intro j
  induction j with
  | zero => intro d _ _; rfl
  | succ j ih =>
    intro d hj h
    unfold Go.Sort.insInner
    rw [ltz_eq v l (h j (by omega))]
    split
    · refine ih _ (by rw [Go.Sort.size_swp]; omega) (fun m hm => ?_)
      rw [Go.Sort.swp_other d (j + 1) j m (by omega) (by omega), Go.Sort.swp_right d (j + 1) j (by omega)]
      exact h m (by omega)
    · rfl

theorem inner_keeps (lt : α → α → Bool) : ∀ (j : Nat) (d : Array α), j < d.size → (Go.Sort.insInner lt 0 j d).size = d.size ∧ (∀ m, j < m → (Go.Sort.insInner lt 0 j d)[m]! = d[m]!) ∧ ∀ Q : α → Prop, (∀ m, m ≤ j → Q d[m]!) → ∀ m, m ≤ j → Q (Go.Sort.insInner lt 0 j d)[m]! := by
  intro j
  induction j with
  | zero => intro d _; exact ⟨rfl, fun _ _ => rfl, fun _ h => h⟩
  | succ j ih =>
    intro d hj
    unfold Go.Sort.insInner
    split
    · obtain ⟨h1, h2, h3⟩ := ih (Go.Sort.swp d (j + 1) j) (by rw [Go.Sort.size_swp]; omega)
      refine ⟨h1.trans (Go.Sort.size_swp _ _ _), fun m hm => ?_, fun Q hQ m hm => ?_⟩
      · rw [h2 m (by omega), Go.Sort.swp_other d (j + 1) j m (by omega) (by omega)]
      · by_cases e : m = j + 1
        · subst e
          rw [h2 (j + 1) (by omega), Go.Sort.swp_left d (j + 1) j hj (by omega)]
          exact hQ j (by omega)
        · refine h3 Q (fun m' hm' => ?_) m (by omega)
          by_cases e' : m' = j
          · subst e'
            rw [Go.Sort.swp_right d (m' + 1) m' (by omega)]
            exact hQ _ (by omega)
          · rw [Go.Sort.swp_other d (j + 1) j m' (by omega) e']
            exact hQ m' (by omega)
    · exact ⟨rfl, fun _ _ => rfl, fun _ h => h⟩

theorem outer_eq : ∀ (f i : Nat) (d : Array α), d.size - i ≤ f → (∀ m q, m < q → i ≤ q → q < d.size → v d[m]! < v d[q]!) → Go.Sort.insOuter (ltz v l) 0 d.size i d = Go.Sort.insOuter (ltx v l) 0 d.size i d := by
  intro f
  induction f with
  | zero =>
    intro i d hf _
    unfold Go.Sort.insOuter
    rw [if_neg (by omega), if_neg (by omega)]
  | succ f ih =>
    intro i d hf h
    unfold Go.Sort.insOuter
    by_cases hi : i < d.size
    · rw [if_pos hi, if_pos hi, inner_eq v l i d hi (fun m hm => h m i hm (Nat.le_refl _) hi)]
      obtain ⟨h1, h2, h3⟩ := inner_keeps (ltx v l) i d hi
      have := ih (i + 1) (Go.Sort.insInner (ltx v l) 0 i d) (by omega) (fun m q hmq hq hqs => by
        rw [h2 q (by omega)]
        by_cases hm : m ≤ i
        · exact h3 (fun x => v x < v d[q]!) (fun m' hm' => h m' q (by omega) (by omega) (by omega)) m hm
        · rw [h2 m (by omega)]; exact h m q hmq (by omega) (by omega))
      rw [h1] at this
      exact this
    · rw [if_neg hi, if_neg hi]

/-- The insertion sort by size alone, of places that ascend, is the one by size and place. -/
theorem sort_eq (d : Array α) (h : ∀ m q, m < q → q < d.size → v d[m]! < v d[q]!) : Go.Sort.insertionSort (ltz v l) d 0 d.size = Go.Sort.insertionSort (ltx v l) d 0 d.size :=
  outer_eq v l d.size 1 d (by omega) (fun m q hmq _ hq => h m q hmq hq)

end

/-- Where a word that holds on a first part only ends to hold. -/
theorem thresh (p : Nat → Bool) : ∀ n : Nat, (∀ i j, i < j → j < n → p j = true → p i = true) → ∃ m, m ≤ n ∧ ∀ i, i < n → (p i = true ↔ i < m) := by
  intro n
  induction n with
  | zero => intro _; exact ⟨0, Nat.le_refl _, fun i h => by omega⟩
  | succ n ih =>
    intro h
    obtain ⟨m, hm, hp⟩ := ih (fun i j hij hj => h i j hij (by omega))
    by_cases hn : p n = true
    · refine ⟨n + 1, Nat.le_refl _, fun i hi => ⟨fun _ => hi, fun _ => ?_⟩⟩
      by_cases e : i = n
      · subst e; exact hn
      · exact h i n (by omega) (by omega) hn
    · refine ⟨m, by omega, fun i hi => ?_⟩
      by_cases e : i = n
      · subst e; exact ⟨fun h => absurd h hn, fun h => by omega⟩
      · exact hp i (by omega)

/-- The first one that is large enough, of the free ones in the stable order, is the best fit. -/
theorem best_of {α : Type} [Inhabited α] (v : α → Nat) {l : List Blk} {o : Int} (d : Array α) (hS : Go.Sort.SortedIn (ltx v l) 0 d.size d) (hM : ∀ i : Nat, (i < l.length ∧ (bk l i).u = false) ↔ ∃ m, m < d.size ∧ v d[m]! = i)
    {K : Nat} (hK : ∀ m, m < d.size → ((decide (o ≤ (bk l (v d[m]!)).z)) = false ↔ m < K)) : (K < d.size → Pick l o (v d[K]!)) ∧ (d.size ≤ K → ∀ j : Nat, j < l.length → (bk l j).u = false → (bk l j).z < o) := by
  refine ⟨fun hlt => ?_, fun hle j hj hu => ?_⟩
  · obtain ⟨h1, h2⟩ := (hM (v d[K]!)).2 ⟨K, hlt, rfl⟩
    have h3 : o ≤ (bk l (v d[K]!)).z := by
      have := hK K hlt
      by_cases c : o ≤ (bk l (v d[K]!)).z
      · exact c
      · have := this.1 (decide_eq_false c); omega
    have key : ∀ j : Nat, j < l.length → (bk l j).u = false → o ≤ (bk l j).z → (bk l (v d[K]!)).z < (bk l j).z ∨ ((bk l (v d[K]!)).z = (bk l j).z ∧ v d[K]! ≤ j) := by
      intro j hj hu ho
      obtain ⟨m, hm, rfl⟩ := (hM j).1 ⟨hj, hu⟩
      rcases Nat.lt_trichotomy m K with h | h | h
      · have := (hK m hm).2 h
        rw [decide_eq_false_iff_not] at this
        omega
      · subst h; exact .inr ⟨rfl, Nat.le_refl _⟩
      · have := hS K m (Nat.zero_le _) h hm
        simp only [ltx, decide_eq_false_iff_not] at this
        omega
    refine ⟨h1, h2, h3, fun j hj hu ho => ?_, fun j hj hu ho => ?_⟩
    · have := key j hj hu ho; omega
    · have := key j (by omega) hu ho; omega
  · obtain ⟨m, hm, rfl⟩ := (hM j).1 ⟨hj, hu⟩
    have := (hK m hm).2 (by omega)
    rw [decide_eq_false_iff_not] at this
    omega

end Go.Proofs.Ytidkejmphhpjlaa.Pl
