/- Plain mathematics of giving a block, step by step. Conditions: none. -/
import Derived.Test.YtidkejmphhpjlaaBlkGive
namespace Go.Proofs.Ytidkejmphhpjlaa.Pl

/-- What has been made of the first j blocks, block x free. -/
def GvAt (l : List Blk) (x j : Nat) (R : List Blk) : Prop := R = mg none ((set0 l x).take j)

theorem GvAt_zero (l : List Blk) (x : Nat) : GvAt l x 0 [] := rfl
theorem GvAt_all {l : List Blk} {x : Nat} {R : List Blk} (h : GvAt l x l.length R) : R = give l x := by
  unfold GvAt at h
  rw [h, List.take_of_length_le (by simp [set0])]; rfl
theorem bk_set0 {l : List Blk} {x k : Nat} (hx : x < l.length) : bk (set0 l x) k = if k = x then ⟨(bk l x).s, (bk l x).z, false⟩ else bk l k := by
  unfold set0 bk
  rw [List.getD_eq_getElem?_getD, List.getElem?_set]
  by_cases h : x = k
  · subst h; simp [hx]
  · rw [if_neg h, if_neg (fun e => h e.symm)]; simp
theorem GvAt_step {l : List Blk} {x j : Nat} {R : List Blk} (h : GvAt l x j R) (hj : j < l.length) : GvAt l x (j + 1) (put1 R (bk (set0 l x) j)) := by
  unfold GvAt at h ⊢
  rw [take_succ' (by simpa [set0] using hj), ← foldl_put1_nil, List.foldl_append, foldl_put1_nil, ← h]
  rfl
theorem bk_last {R : List Blk} (h : 0 < R.length) : R.getLast? = some (bk R (R.length - 1)) := by
  rw [List.getLast?_eq_getElem?, bk_eq (by omega), List.getElem?_eq_getElem (by omega)]
theorem put1_app {R : List Blk} {b : Blk} (h : b.u = true ∨ R.length = 0 ∨ (bk R (R.length - 1)).u = true) : put1 R b = R ++ [b] := by
  rcases h with h | h | h
  · exact put1_used R b h
  · have : R = [] := List.eq_nil_of_length_eq_zero h
    subst this; rfl
  · by_cases h0 : R.length = 0
    · have : R = [] := List.eq_nil_of_length_eq_zero h0
      subst this; rfl
    · exact put1_free_used R b (fun c hc => by rw [bk_last (by omega)] at hc; injection hc with hc; rw [← hc]; exact h)
theorem put1_join {R : List Blk} {b : Blk} (h0 : 0 < R.length) (hu : b.u = false) (hr : (bk R (R.length - 1)).u = false) :
    put1 R b = R.set (R.length - 1) ⟨(bk R (R.length - 1)).s, (bk R (R.length - 1)).z + b.z, false⟩ := by
  have hs : R = R.dropLast ++ [bk R (R.length - 1)] := by
    have hne : R ≠ [] := fun e => by subst e; simp at h0
    have h1 := List.dropLast_concat_getLast hne
    rw [List.getLast_eq_getElem, ← bk_eq] at h1
    exact h1.symm
  have e : put1 R b = R.dropLast ++ [⟨(bk R (R.length - 1)).s, (bk R (R.length - 1)).z + b.z, false⟩] := by
    unfold put1
    rw [bk_last h0]
    simp [hr, hu]
  rw [e]
  generalize bk R (R.length - 1) = q at hs ⊢
  apply List.ext_getElem?
  intro i
  rw [List.getElem?_set]
  by_cases hi : R.length - 1 = i
  · subst hi
    rw [if_pos rfl, if_pos (by omega), List.getElem?_append_right (by simp), List.length_dropLast]
    simp
  · rw [if_neg hi]
    by_cases h2 : i < R.length - 1
    · rw [List.getElem?_append_left (by simp; omega)]
      conv => rhs; rw [hs]
      rw [List.getElem?_append_left (by simp; omega)]
    · rw [List.getElem?_eq_none (by simp; omega), List.getElem?_eq_none (by omega)]

/-- The block as it is put: block x is free. -/
theorem GvAt_put {l : List Blk} {x j : Nat} {R : List Blk} (h : GvAt l x j R) (hx : x < l.length) (hj : j < l.length) (u : Bool) (hu : u = ((bk l j).u && !decide (j = x))) (hc : u = true ∨ R.length = 0 ∨ (bk R (R.length - 1)).u = true) :
    GvAt l x (j + 1) (R ++ [⟨(bk l j).s, (bk l j).z, u⟩]) := by
  have hb : bk (set0 l x) j = ⟨(bk l j).s, (bk l j).z, u⟩ := by
    rw [bk_set0 hx]
    by_cases e : j = x
    · subst e; simp [hu]
    · rw [if_neg e]; simp [hu, e]
  have := GvAt_step h hj
  rw [hb, put1_app hc] at this
  exact this
theorem GvAt_join {l : List Blk} {x j : Nat} {R : List Blk} (h : GvAt l x j R) (hx : x < l.length) (hj : j < l.length) (hu : (bk l j).u = false ∨ j = x) (h0 : 0 < R.length) (hr : (bk R (R.length - 1)).u = false) :
    GvAt l x (j + 1) (R.set (R.length - 1) ⟨(bk R (R.length - 1)).s, (bk R (R.length - 1)).z + (bk l j).z, false⟩) := by
  have hb : bk (set0 l x) j = ⟨(bk l j).s, (bk l j).z, false⟩ := by
    rw [bk_set0 hx]
    by_cases e : j = x
    · subst e; simp
    · rw [if_neg e]
      have := hu.resolve_right e
      exact Blk.ext' rfl rfl this
  have := GvAt_step h hj
  rw [hb, put1_join h0 rfl hr] at this
  exact this
theorem GvAt_bd {l : List Blk} {t : Int} (hv : V l t) {x j : Nat} {R : List Blk} (hx : x < l.length) (h : GvAt l x j R) : R.length ≤ j ∧ R.length ≤ l.length ∧ ∀ k : Nat, k < R.length → 0 ≤ (bk R k).s ∧ 1 ≤ (bk R k).z ∧ (bk R k).s + (bk R k).z ≤ 256 := by
  have ht := Til_of_Ok hv.2.2
  have ht2 : Til 0 (set0 l x) t := by rw [set0_eq_fr ht hx]; exact Til_fr _ ht
  have cut : ∀ (a e : Int) (m : List Blk) (j : Nat), Til a m e → ∃ e', Til a (m.take j) e' ∧ e' ≤ e := by
    intro a e m
    induction m generalizing a with
    | nil => intro j h; exact ⟨e, by simpa using h, Int.le_refl _⟩
    | cons b r ih =>
      intro j h
      cases j with
      | zero =>
        refine ⟨a, rfl, ?_⟩
        have : ∀ (a e : Int) (m : List Blk), Til a m e → a ≤ e := by
          intro a e m
          induction m generalizing a with
          | nil => intro h; simp only [Til] at h; omega
          | cons b r ih => intro h; have := ih _ h.2.2; have := h.2.1; omega
        exact this _ _ _ h
      | succ j =>
        obtain ⟨e', q1, q2⟩ := ih _ j h.2.2
        exact ⟨e', ⟨h.1, h.2.1, q1⟩, q2⟩
  obtain ⟨e', q1, q2⟩ := cut 0 t (set0 l x) j ht2
  have ho := (mg_til q1).1
  unfold GvAt at h
  rw [← h] at ho
  have hl := (mg_len ((set0 l x).take j)).1
  rw [← h] at hl
  have h3 : ((set0 l x).take j).length ≤ j := List.length_take_le _ _
  have h4 : ((set0 l x).take j).length ≤ l.length := by simp [set0]; omega
  refine ⟨by omega, by omega, fun k hk => ?_⟩
  have hv2 := hv.2.1
  have hb : ∀ (a e : Int) (pf : Bool) (m : List Blk), Ok a pf m e → ∀ b ∈ m, a ≤ b.s ∧ 1 ≤ b.z ∧ b.s + b.z ≤ e := by
    intro a e pf m
    induction m generalizing a pf with
    | nil => intro _ b hb; simp at hb
    | cons c r ih =>
      intro h b hb
      have := Ok_le h.2.2.2
      rcases List.mem_cons.1 hb with rfl | hb
      · exact ⟨by have := h.1; omega, h.2.1, by have := h.1; omega⟩
      · have := ih _ _ h.2.2.2 b hb
        have := h.2.1
        omega
  have := hb _ _ _ _ ho (bk R k) (by rw [bk_eq hk]; exact List.getElem_mem hk)
  omega
end Go.Proofs.Ytidkejmphhpjlaa.Pl
