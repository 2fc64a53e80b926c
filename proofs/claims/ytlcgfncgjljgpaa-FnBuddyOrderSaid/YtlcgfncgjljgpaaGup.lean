/- Giving a buddy: plain laws of the search and of the joining. Conditions: none. -/
import Derived.Test.YtlcgfncgjljgpaaBudG
namespace Go.Proofs.Ytlcgfncgjljgpaa.Pl

/-- What the search through the first k buddies has found: -1, or the place of the one. -/
def Seek (l : List Blk) (s : Int) (k : Nat) (b : Int) : Prop :=
  (b = -1 ∧ ∀ j : Nat, j < k → ¬ AtU l s j) ∨ ∃ i : Nat, b = i ∧ i < k ∧ AtU l s i
theorem Seek_zero (l : List Blk) (s : Int) : Seek l s 0 (-1) := .inl ⟨rfl, fun j h => by omega⟩
theorem Seek_no {l : List Blk} {s : Int} {k : Nat} {b : Int} (h : Seek l s k b) (hn : (bk l k).u = false ∨ (bk l k).s ≠ s) : Seek l s (k + 1) b := by
  rcases h with ⟨rfl, h⟩ | ⟨i, rfl, h1, h2⟩
  · refine .inl ⟨rfl, fun j hj => ?_⟩
    by_cases e : j = k
    · subst e
      rintro ⟨_, h2, h3⟩
      rcases hn with hn | hn
      · rw [hn] at h2; cases h2
      · exact hn h3
    · exact h j (by omega)
  · exact .inr ⟨i, rfl, by omega, h2⟩
theorem Seek_yes {l : List Blk} {s : Int} {k : Nat} (hk : k < l.length) (hu : (bk l k).u = true) (hs : (bk l k).s = s) : Seek l s (k + 1) k := .inr ⟨k, rfl, by omega, hk, hu, hs⟩
theorem Seek_low {l : List Blk} {s : Int} {k : Nat} {b : Int} (h : Seek l s k b) : -1 ≤ b ∧ b < k := by
  rcases h with ⟨rfl, _⟩ | ⟨i, rfl, h1, _⟩ <;> omega
theorem Seek_none {l : List Blk} {s : Int} (h : Seek l s l.length (-1)) : ∀ j : Nat, ¬ AtU l s j := by
  rcases h with ⟨_, h⟩ | ⟨i, e, _⟩
  · exact fun j hj => h j hj.1 hj
  · omega
theorem Seek_some {l : List Blk} {s : Int} {k i : Nat} (h : Seek l s k i) : AtU l s i := by
  rcases h with ⟨e, _⟩ | ⟨i', e, _, h⟩
  · omega
  · obtain rfl : i' = i := by omega
    exact h
theorem Seek_pos {l : List Blk} {s : Int} {k : Nat} {b : Int} (h : Seek l s k b) : (b = -1 ∧ Seek l s k (-1)) ∨ ∃ i : Nat, b = i ∧ i < k ∧ AtU l s i := by
  have hh := h
  rcases h with ⟨rfl, _⟩ | ⟨i, rfl, h1, h2⟩
  · exact .inl ⟨rfl, hh⟩
  · exact .inr ⟨i, rfl, h1, h2⟩

/-- What giving the buddy at s answers. -/
def GiveR (l : List Blk) (p s : Int) (R : List Blk) (b : Bool) : Prop :=
  ((∃ j, AtU l s j) ∧ Given l p s R ∧ b = true) ∨ ((∀ j, ¬ AtU l s j) ∧ R = l ∧ b = false)

theorem GiveR_no {l : List Blk} {p s : Int} {R : List Blk} {b : Bool} (h : GiveR l p s R b) (hn : ∀ j, ¬ AtU l s j) : R = l ∧ b = false := by
  rcases h with ⟨⟨j, hj⟩, _⟩ | ⟨_, h⟩
  · exact absurd hj (hn j)
  · exact h
theorem GiveR_yes {l : List Blk} {p s : Int} {R : List Blk} {b : Bool} (h : GiveR l p s R b) {j : Nat} (hj : AtU l s j) : b = true ∧ ∀ x, VU x p → usd x = less (usd l) s → x = R := by
  rcases h with ⟨_, hg, hb⟩ | ⟨h, _⟩
  · exact ⟨hb, fun x h1 h2 => Given_uniq ⟨h1, h2⟩ hg⟩
  · exact absurd hj (h j)

/-! ## A round of joining -/
theorem Mid_blk {p : Int} {U x : List Blk} {j : Nat} (h : Mid p U x j) {i : Nat} (hi : i < x.length) : 0 ≤ (bk x i).s ∧ (bk x i).s + pw (bk x i).z ≤ pw p ∧ 0 ≤ (bk x i).z ∧ (bk x i).z ≤ p ∧ Al (bk x i).s (bk x i).z :=
  Tl_mem h.til _ (bk_memU hi)
theorem Mid_len {p : Int} {U x : List Blk} {j : Nat} (h : Mid p U x j) : (x.length : Int) ≤ pw p := by
  have := Tl_le h.til; omega

/-- The whole is one buddy: done. -/
theorem Mid_top {p : Int} (h0 : 0 ≤ p) (h8 : p ≤ 8) {U x : List Blk} {j : Nat} (h : Mid p U x j) (hz : p ≤ (bk x j).z) : VU x p ∧ usd x = U := by
  have hb := Mid_blk h h.lt
  have e : (bk x j).z = p := by omega
  rw [e] at hb
  refine Mid_end h0 h8 h (fun hi hJ => ?_) (fun hi hJ => ?_)
  · have := Tl_next h.til hi
    have h2 := Mid_blk h hi
    rw [e] at this
    have := pw_pos (bk x (j + 1)).z
    omega
  · have h2 := Mid_blk h (show j - 1 < x.length by have := h.lt; omega)
    have h3 := Tl_next h.til (i := j - 1) (by have := h.lt; omega)
    rw [show j - 1 + 1 = j by omega] at h3
    have := pw_pos (bk x (j - 1)).z
    omega

/-- The lower half: its mate lies behind it. -/
theorem Mid_hi {p : Int} {U x : List Blk} {j : Nat} (h : Mid p U x j) (ha : Al (bk x j).s ((bk x j).z + 1)) (hj : 0 < j) : ¬ Jn (bk x (j - 1)) (bk x j) := by
  rintro ⟨_, _, hz, hl⟩
  have h2 := Mid_blk h (show j - 1 < x.length by have := h.lt; omega)
  have h3 := Tl_next h.til (i := j - 1) (by have := h.lt; omega)
  rw [show j - 1 + 1 = j by omega] at h3
  rw [h3, ← hz] at ha
  rcases Al_half h2.2.2.1 h2.2.2.2.2 with ⟨_, g, _⟩ | ⟨g, _⟩
  · exact g ha
  · exact g hl

/-- The upper half: its mate lies before it. -/
theorem Mid_lo {p : Int} {U x : List Blk} {j : Nat} (h : Mid p U x j) (ha : ¬ Al (bk x j).s ((bk x j).z + 1)) : 0 < j ∧ ((bk x (j - 1)).u = false → (bk x (j - 1)).z = (bk x j).z → Jn (bk x (j - 1)) (bk x j)) := by
  have hj : 0 < j := by
    rcases Nat.eq_zero_or_pos j with rfl | hj
    · exfalso
      have := Tl_first h.til h.lt
      rw [this] at ha
      exact ha (Al_zero _)
    · exact hj
  refine ⟨hj, fun hu hz => ⟨hu, h.free, hz, ?_⟩⟩
  have h1 := Mid_blk h h.lt
  have h3 := Tl_next h.til (i := j - 1) (by have := h.lt; omega)
  rw [show j - 1 + 1 = j by omega] at h3
  rcases Al_half h1.2.2.1 h1.2.2.2.2 with ⟨g, _⟩ | ⟨_, _, g⟩
  · exact absurd g ha
  · rw [hz]
    rw [h3, hz, Int.add_sub_cancel] at g
    exact g

theorem Mid_ex {p : Int} (h0 : 0 ≤ p) (h8 : p ≤ 8) {U : List Blk} : ∀ (n : Nat) (x : List Blk) (j : Nat), x.length ≤ n → Mid p U x j → ∃ R, VU R p ∧ usd R = U := by
  intro n
  induction n with
  | zero => intro x j hl h; have := h.lt; omega
  | succ n ih =>
    intro x j hl h
    by_cases h1 : j + 1 < x.length ∧ Jn (bk x j) (bk x (j + 1))
    · have := joinU_len h1.1
      exact ih _ _ (by omega) (Mid_join h0 h h1.1 (.inl rfl) h1.2)
    · by_cases h2 : 0 < j ∧ Jn (bk x (j - 1)) (bk x j)
      · have hlt := h.lt
        have := joinU_len (x := x) (i := j - 1) (by omega)
        exact ih _ _ (by omega) (Mid_join h0 h (i := j - 1) (by omega) (.inr (by omega)) (by rw [show j - 1 + 1 = j by omega]; exact h2.2))
      · exact ⟨x, Mid_end h0 h8 h (fun hi hJ => h1 ⟨hi, hJ⟩) (fun hi hJ => h2 ⟨hi, hJ⟩)⟩

theorem GiveR_ex {l : List Blk} {p : Int} (hv : VU l p) (s : Int) : ∃ R b, GiveR l p s R b := by
  by_cases h : ∃ j, AtU l s j
  · obtain ⟨j, hj⟩ := h
    have hm := Mid_start hv hj.1
    rw [hj.2.2] at hm
    obtain ⟨R, h1, h2⟩ := Mid_ex hv.1 hv.2.1 _ _ _ (Nat.le_refl _) hm
    exact ⟨R, true, .inl ⟨⟨j, hj⟩, ⟨h1, h2⟩, rfl⟩⟩
  · exact ⟨l, false, .inr ⟨fun j hj => h ⟨j, hj⟩, rfl, rfl⟩⟩
theorem GiveR_valid {l : List Blk} {p s : Int} {R : List Blk} {b : Bool} (hv : VU l p) (h : GiveR l p s R b) : VU R p := by
  rcases h with ⟨_, hg, _⟩ | ⟨_, rfl, _⟩
  · exact hg.1
  · exact hv

/-- A round of joining, as the reference does it: which pair is looked at, and what comes of it. -/
theorem Mid_round {p : Int} (h0 : 0 ≤ p) (h8 : p ≤ 8) {U x : List Blk} {j : Nat} (h : Mid p U x j) : ∃ i : Nat, (Al (bk x j).s ((bk x j).z + 1) → i = j) ∧ (¬ Al (bk x j).s ((bk x j).z + 1) → i + 1 = j) ∧ (i + 1 < x.length → (bk x i).u = false → (bk x (i + 1)).u = false → (bk x i).z = (bk x (i + 1)).z → Mid p U (joinU x i) i) ∧ (¬ (i + 1 < x.length ∧ (bk x i).u = false ∧ (bk x (i + 1)).u = false ∧ (bk x i).z = (bk x (i + 1)).z) → VU x p ∧ usd x = U) := by
  by_cases ha : Al (bk x j).s ((bk x j).z + 1)
  · refine ⟨j, fun _ => rfl, fun hn => absurd ha hn, fun h1 h2 h3 h4 => Mid_join h0 h h1 (.inl rfl) ⟨h2, h3, h4, ha⟩, fun hn => Mid_end h0 h8 h (fun hi hJ => hn ⟨hi, hJ.1, hJ.2.1, hJ.2.2.1⟩) (fun hi => Mid_hi h ha hi)⟩
  · obtain ⟨hj, hb⟩ := Mid_lo h ha
    obtain ⟨i, rfl⟩ : ∃ i, j = i + 1 := ⟨j - 1, by omega⟩
    rw [show i + 1 - 1 = i by omega] at hb
    refine ⟨i, fun hn => absurd hn ha, fun _ => rfl, fun h1 h2 h3 h4 => Mid_join h0 h h1 (.inr rfl) (hb h2 h4), fun hn => Mid_end h0 h8 h (fun hi hJ => ha hJ.2.2.2) (fun hi hJ => ?_)⟩
    rw [show i + 1 - 1 = i by omega] at hJ
    exact hn ⟨h.lt, hJ.1, hJ.2.1, hJ.2.2.1⟩

theorem mate_lt {s z N : Int} (hN : pw z = N) (h : Al s (z + 1)) : (if s % pw (z + 1) = 0 then s + pw z else s - pw z) = s + N := by
  rw [if_pos (by exact h), hN]
theorem mate_ge {s z N : Int} (hN : pw z = N) (h : ¬ Al s (z + 1)) : (if s % pw (z + 1) = 0 then s + pw z else s - pw z) = s - N := by
  rw [if_neg (by exact h), hN]

end Go.Proofs.Ytlcgfncgjljgpaa.Pl
