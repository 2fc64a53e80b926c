/- Taking a buddy: plain laws of the search. Conditions: none. -/
import Derived.Test.YtlcgfncgjljgpaaFre
namespace Go.Proofs.Ytlcgfncgjljgpaa.Pl

/-- What the search through the first k buddies has found: -1, or the place of the best one. -/
def Scan (l : List Blk) (o : Int) (k : Nat) (b : Int) : Prop :=
  (b = -1 ∧ ∀ j : Nat, j < k → (bk l j).u = false → (bk l j).z < o) ∨
  ∃ i : Nat, b = i ∧ i < k ∧ (bk l i).u = false ∧ o ≤ (bk l i).z ∧ (∀ j : Nat, j < k → (bk l j).u = false → o ≤ (bk l j).z → (bk l i).z ≤ (bk l j).z) ∧ (∀ j : Nat, j < i → (bk l j).u = false → o ≤ (bk l j).z → (bk l i).z < (bk l j).z)

theorem Scan_zero (l : List Blk) (o : Int) : Scan l o 0 (-1) := .inl ⟨rfl, fun j h => by omega⟩
theorem Scan_skip {l : List Blk} {o : Int} {k : Nat} {b : Int} (h : Scan l o k b) (hk : (bk l k).u = true ∨ (bk l k).z < o) : Scan l o (k + 1) b := by
  rcases h with ⟨rfl, h⟩ | ⟨i, rfl, h1, h2, h3, h4, h5⟩
  · refine .inl ⟨rfl, fun j hj hu => ?_⟩
    by_cases e : j = k
    · subst e; rcases hk with hk | hk
      · rw [hk] at hu; cases hu
      · exact hk
    · exact h j (by omega) hu
  · refine .inr ⟨i, rfl, by omega, h2, h3, fun j hj hu ho => ?_, h5⟩
    by_cases e : j = k
    · subst e; rcases hk with hk | hk
      · rw [hk] at hu; cases hu
      · omega
    · exact h4 j (by omega) hu ho
theorem Scan_keep {l : List Blk} {o : Int} {k i : Nat} (h : Scan l o k i) (hk : (bk l i).z ≤ (bk l k).z) : Scan l o (k + 1) i := by
  rcases h with ⟨e, _⟩ | ⟨i', e, h1, h2, h3, h4, h5⟩
  · omega
  · obtain rfl : i' = i := by omega
    refine .inr ⟨i', rfl, by omega, h2, h3, fun j hj hu ho => ?_, h5⟩
    by_cases e : j = k
    · subst e; exact hk
    · exact h4 j (by omega) hu ho
theorem Scan_new {l : List Blk} {o : Int} {k : Nat} (h : Scan l o k (-1)) (hu : (bk l k).u = false) (ho : o ≤ (bk l k).z) : Scan l o (k + 1) k := by
  rcases h with ⟨_, h⟩ | ⟨i', e, _⟩
  · refine .inr ⟨k, rfl, by omega, hu, ho, fun j hj hu' ho' => ?_, fun j hj hu' ho' => ?_⟩
    · by_cases e : j = k
      · subst e; exact Int.le_refl _
      · have := h j (by omega) hu'; omega
    · have := h j hj hu'; omega
  · omega
theorem Scan_less {l : List Blk} {o : Int} {k i : Nat} (h : Scan l o k i) (hu : (bk l k).u = false) (ho : o ≤ (bk l k).z) (hk : (bk l k).z < (bk l i).z) : Scan l o (k + 1) k := by
  rcases h with ⟨e, _⟩ | ⟨i', e, h1, h2, h3, h4, h5⟩
  · omega
  · obtain rfl : i' = i := by omega
    refine .inr ⟨k, rfl, by omega, hu, ho, fun j hj hu' ho' => ?_, fun j hj hu' ho' => ?_⟩
    · by_cases e : j = k
      · subst e; exact Int.le_refl _
      · have := h4 j (by omega) hu' ho'; omega
    · have := h4 j hj hu' ho'; omega
theorem Scan_pos {l : List Blk} {o : Int} {k : Nat} {b : Int} (h : Scan l o k b) : (b = -1 ∧ Scan l o k (-1)) ∨ ∃ i : Nat, b = i ∧ i < k ∧ Scan l o k i := by
  have hh := h
  rcases h with ⟨e, _⟩ | ⟨i, e, h1, _⟩
  · subst e; exact .inl ⟨rfl, hh⟩
  · subst e; exact .inr ⟨i, rfl, h1, hh⟩
theorem Scan_pick {l : List Blk} {o : Int} {i : Nat} (h : Scan l o l.length i) : Pick l o i := by
  rcases h with ⟨e, _⟩ | ⟨i', e, h1, h2, h3, h4, h5⟩
  · omega
  · obtain rfl : i' = i := by omega
    exact ⟨h1, h2, h3, h4, h5⟩
theorem Scan_none {l : List Blk} {o : Int} (h : Scan l o l.length (-1)) : ∀ j : Nat, j < l.length → (bk l j).u = false → (bk l j).z < o := by
  rcases h with ⟨_, h⟩ | ⟨i', e, _⟩
  · exact h
  · omega

/-- What taking a buddy of order o answers. -/
def TakeR (l : List Blk) (o : Int) (R : List Blk) (s : Int) (b : Bool) : Prop :=
  (∃ i : Nat, 0 ≤ o ∧ Pick l o i ∧ R = takeU l i o ∧ s = (bk l i).s ∧ b = true) ∨
  ((o < 0 ∨ ∀ j : Nat, j < l.length → (bk l j).u = false → (bk l j).z < o) ∧ R = l ∧ s = -1 ∧ b = false)

theorem TakeR_no {l : List Blk} {o : Int} {R : List Blk} {s : Int} {b : Bool} (h : TakeR l o R s b) (hn : o < 0 ∨ ∀ j : Nat, j < l.length → (bk l j).u = false → (bk l j).z < o) : R = l ∧ s = -1 ∧ b = false := by
  rcases h with ⟨i, h0, hp, _⟩ | ⟨_, h⟩
  · rcases hn with hn | hn
    · omega
    · have := hn i hp.lt hp.free; have := hp.big; omega
  · exact h
theorem TakeR_yes {l : List Blk} {o : Int} {R : List Blk} {s : Int} {b : Bool} {i : Nat} (h : TakeR l o R s b) (h0 : 0 ≤ o) (hp : Pick l o i) : R = takeU l i o ∧ s = (bk l i).s ∧ b = true := by
  rcases h with ⟨i', _, hp', h⟩ | ⟨hn, _⟩
  · obtain rfl := Pick_uniq hp hp'
    exact h
  · rcases hn with hn | hn
    · omega
    · have := hn i hp.lt hp.free; have := hp.big; omega
theorem TakeR_ex (l : List Blk) (o : Int) : ∃ R s b, TakeR l o R s b := by
  by_cases h0 : o < 0
  · exact ⟨l, -1, false, .inr ⟨.inl h0, rfl, rfl, rfl⟩⟩
  · have key : ∀ k : Nat, k ≤ l.length → ∃ b, Scan l o k b := by
      intro k
      induction k with
      | zero => intro _; exact ⟨-1, Scan_zero l o⟩
      | succ k ih =>
        intro hk
        obtain ⟨b, hb⟩ := ih (by omega)
        by_cases hu : (bk l k).u = true
        · exact ⟨b, Scan_skip hb (.inl hu)⟩
        · have hu : (bk l k).u = false := by simpa using hu
          by_cases hz : (bk l k).z < o
          · exact ⟨b, Scan_skip hb (.inr hz)⟩
          · rcases Scan_pos hb with ⟨rfl, h⟩ | ⟨i, rfl, _, h⟩
            · exact ⟨k, Scan_new h hu (by omega)⟩
            · by_cases hl : (bk l k).z < (bk l i).z
              · exact ⟨k, Scan_less h hu (by omega) hl⟩
              · exact ⟨i, Scan_keep h (by omega)⟩
    obtain ⟨b, hb⟩ := key l.length (Nat.le_refl _)
    rcases Scan_pos hb with ⟨rfl, h⟩ | ⟨i, rfl, _, h⟩
    · exact ⟨l, -1, false, .inr ⟨.inr (Scan_none h), rfl, rfl, rfl⟩⟩
    · exact ⟨_, _, true, .inl ⟨i, by omega, Scan_pick h, rfl, rfl, rfl⟩⟩
theorem TakeR_valid {l : List Blk} {p o : Int} {R : List Blk} {s : Int} {b : Bool} (hv : VU l p) (h : TakeR l o R s b) : VU R p := by
  rcases h with ⟨i, h0, hp, rfl, _⟩ | ⟨_, rfl, _⟩
  · exact takeU_valid hv hp.lt hp.free h0 hp.big
  · exact hv

/-- The list while the halves are laid: up to order q. -/
def midU (l : List Blk) (i : Nat) (o q : Int) : List Blk := l.take i ++ ⟨(bk l i).s, o, true⟩ :: halvesU (bk l i).s (q - o).toNat o
theorem midU_zero (l : List Blk) (i : Nat) (o : Int) : midU l i o o = l.take i ++ [⟨(bk l i).s, o, true⟩] := by
  unfold midU; rw [show (o - o).toNat = 0 by omega]; rfl
theorem midU_step (l : List Blk) (i : Nat) {o q : Int} (h : o ≤ q) : midU l i o (q + 1) = midU l i o q ++ [⟨(bk l i).s + pw q, q, false⟩] := by
  unfold midU
  rw [show (q + 1 - o).toNat = (q - o).toNat + 1 by omega, halvesU_snoc, show o + ((q - o).toNat : Int) = q by omega]
  simp
theorem midU_len {l : List Blk} {i : Nat} (hi : i ≤ l.length) {o q : Int} : (midU l i o q).length = i + 1 + (q - o).toNat := by
  unfold midU; rw [List.length_append, List.length_cons, halvesU_len]; simp; omega
theorem midU_end (l : List Blk) (i : Nat) (o : Int) : midU l i o (bk l i).z ++ l.drop (i + 1) = takeU l i o := by
  unfold midU takeU; simp
theorem takeU_len {l : List Blk} {i : Nat} (hi : i < l.length) {o : Int} : (takeU l i o).length = l.length + ((bk l i).z - o).toNat := by
  rw [← midU_end, List.length_append, midU_len (by omega)]; simp; omega

end Go.Proofs.Ytlcgfncgjljgpaa.Pl
