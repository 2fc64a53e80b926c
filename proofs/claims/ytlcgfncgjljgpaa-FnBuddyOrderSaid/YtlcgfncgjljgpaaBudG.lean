/- Plain mathematics of buddies: giving and taking. Conditions: none. -/
import Derived.Test.YtlcgfncgjljgpaaBud
namespace Go.Proofs.Ytlcgfncgjljgpaa.Pl

/-- Free words. -/
def fwU : List Blk → Int
  | [] => 0
  | b :: r => (if b.u then 0 else pw b.z) + fwU r

theorem fwU_append (a b : List Blk) : fwU (a ++ b) = fwU a + fwU b := by
  induction a with
  | nil => simp [fwU]
  | cons x r ih => simp only [List.cons_append, fwU, ih]; omega
theorem fwU_take {l : List Blk} {k : Nat} (h : k < l.length) : fwU (l.take (k + 1)) = fwU (l.take k) + (if (bk l k).u then 0 else pw (bk l k).z) := by
  rw [take_succ' h, fwU_append]; simp [fwU]
/-- Used words. -/
def uwU : List Blk → Int
  | [] => 0
  | b :: r => pw b.z + uwU r
theorem uw_nonneg (l : List Blk) : 0 ≤ uwU l := by
  induction l with
  | nil => simp [uwU]
  | cons b r ih => have := pw_pos b.z; simp only [uwU]; omega
theorem uw_append (a b : List Blk) : uwU (a ++ b) = uwU a + uwU b := by
  induction a with
  | nil => simp [uwU]
  | cons x r ih => simp only [List.cons_append, uwU, ih]; omega
theorem fwU_usd {p a e : Int} {l : List Blk} (h : Tl p a l e) : fwU l + uwU (usd l) = e - a := by
  induction l generalizing a with
  | nil => simp only [Tl] at h; simp [fwU, usd, uwU]; omega
  | cons b r ih =>
    have := ih h.2.2.2.2
    cases hb : b.u
    · simp [fwU, usd, hb] at this ⊢; omega
    · simp [fwU, usd, hb, uwU] at this ⊢; omega
theorem fwU_nonneg (l : List Blk) : 0 ≤ fwU l := by
  induction l with
  | nil => simp [fwU]
  | cons b r ih => have := pw_pos b.z; simp only [fwU]; split <;> omega
theorem fwU_bd {l : List Blk} {p : Int} (hv : VU l p) : 0 ≤ fwU l ∧ fwU l ≤ pw p := by
  have := fwU_usd hv.2.2.1
  have := uw_nonneg (usd l)
  have := fwU_nonneg l
  omega
theorem fwU_take_bd {l : List Blk} {p : Int} (hv : VU l p) (k : Nat) : 0 ≤ fwU (l.take k) ∧ fwU (l.take k) ≤ pw p := by
  have h1 := fwU_bd hv
  have h2 : fwU l = fwU (l.take k) + fwU (l.drop k) := by rw [← fwU_append, List.take_append_drop]
  have := fwU_nonneg (l.take k)
  have := fwU_nonneg (l.drop k)
  omega

theorem split_atU {l : List Blk} {n : Nat} (hn : n < l.length) : l = l.take n ++ bk l n :: l.drop (n + 1) := by
  rw [← drop_cons' hn, List.take_append_drop]

theorem bk_take {l : List Blk} {i k : Nat} (h : k < i) (hi : i ≤ l.length) : bk (l.take i) k = bk l k := by
  rw [bk_eq (by simp; omega), bk_eq (by omega)]; simp
theorem bk_drop {l : List Blk} {i k : Nat} : bk (l.drop i) k = bk l (i + k) := by
  unfold bk; rw [List.getD_eq_getElem?_getD, List.getD_eq_getElem?_getD, List.getElem?_drop]

/-- In valid buddies two with one start are one. -/
theorem Tl_starts {p a e : Int} {l : List Blk} (h : Tl p a l e) {i j : Nat} (hij : i < j) (hj : j < l.length) : (bk l i).s < (bk l j).s := by
  induction l generalizing a i j with
  | nil => simp at hj
  | cons b r ih =>
    obtain ⟨h1, h2, h3, h4, h5⟩ := h
    cases j with
    | zero => omega
    | succ j =>
      cases i with
      | zero =>
        have := (Tl_mem h5 (bk r j) (bk_memU (by simpa using hj))).1
        have := pw_pos b.z
        show b.s < (bk r j).s
        omega
      | succ i => exact ih h5 (show i < j by omega) (by simpa using hj)
theorem Tl_next {p a e : Int} {l : List Blk} (h : Tl p a l e) {i : Nat} (hi : i + 1 < l.length) : (bk l (i + 1)).s = (bk l i).s + pw (bk l i).z := by
  induction l generalizing a i with
  | nil => simp at hi
  | cons b r ih =>
    obtain ⟨h1, h2, h3, h4, h5⟩ := h
    cases i with
    | zero =>
      cases r with
      | nil => simp at hi
      | cons c r => have := h5.1; show c.s = b.s + pw b.z; omega
    | succ i => exact ih h5 (i := i) (by simpa using hi)
theorem Tl_first {p a e : Int} {l : List Blk} (h : Tl p a l e) (h0 : 0 < l.length) : (bk l 0).s = a := by
  cases l with
  | nil => simp at h0
  | cons b r => exact h.1

/-! ## Freeing a buddy and joining -/
def set0U (l : List Blk) (n : Nat) : List Blk := l.set n ⟨(bk l n).s, (bk l n).z, false⟩

theorem set0U_split {l : List Blk} {n : Nat} (hn : n < l.length) : set0U l n = l.take n ++ ⟨(bk l n).s, (bk l n).z, false⟩ :: l.drop (n + 1) := by
  unfold set0U
  rw [List.set_eq_take_append_cons_drop, if_pos hn]

theorem bk_set0U {l : List Blk} {n k : Nat} (hn : n < l.length) : bk (set0U l n) k = if k = n then ⟨(bk l n).s, (bk l n).z, false⟩ else bk l k := by
  unfold set0U bk
  rw [List.getD_eq_getElem?_getD, List.getElem?_set]
  by_cases h : n = k
  · subst h; simp [hn]
  · rw [if_neg h, if_neg (fun e => h e.symm)]; simp

/-- The list x is what l with buddy at s free has become, at place j; U are its used ones. -/
structure Mid (p : Int) (U x : List Blk) (j : Nat) : Prop where
  til : Tl p 0 x (pw p)
  used : usd x = U
  lt : j < x.length
  free : (bk x j).u = false
  rest : ∀ i : Nat, i + 1 < x.length → i ≠ j → i + 1 ≠ j → ¬ Jn (bk x i) (bk x (i + 1))

/-- The used ones but that which begins with word s. -/
def less (U : List Blk) (s : Int) : List Blk := U.filter fun b => decide (b.s ≠ s)

theorem less_comm (U : List Blk) (s t : Int) : less (less U s) t = less (less U t) s := by
  unfold less; rw [List.filter_filter, List.filter_filter]; congr 1; funext b; rw [Bool.and_comm]

theorem usd_less {p a e : Int} {l : List Blk} (h : Tl p a l e) {n : Nat} (hn : n < l.length) : less (usd l) (bk l n).s = usd (l.take n) ++ usd (l.drop (n + 1)) := by
  have hs : ∀ b ∈ l.take n, b.s ≠ (bk l n).s := fun b hb => by
    obtain ⟨i, hi, e⟩ := List.getElem_of_mem hb
    have hi' : i < n := by simp at hi; omega
    have := Tl_starts h hi' hn
    have e2 : bk (l.take n) i = b := by rw [bk_eq hi]; exact e
    rw [bk_take hi' (by omega)] at e2
    rw [← e2]; omega
  have hd : ∀ b ∈ l.drop (n + 1), b.s ≠ (bk l n).s := fun b hb => by
    obtain ⟨i, hi, e⟩ := List.getElem_of_mem hb
    have e2 : bk (l.drop (n + 1)) i = b := by rw [bk_eq hi]; exact e
    rw [bk_drop] at e2
    have := Tl_starts h (show n < n + 1 + i by omega) (by simp at hi; omega)
    rw [← e2]; omega
  have e0 : less (usd l) (bk l n).s = less (usd (l.take n ++ bk l n :: l.drop (n + 1))) (bk l n).s := by rw [← split_atU hn]
  rw [e0]
  unfold less
  rw [usd_append, List.filter_append]
  congr 1
  · exact List.filter_eq_self.2 (fun b hb => by simpa using hs b (List.mem_filter.1 hb).1)
  · cases hu : (bk l n).u
    · rw [show usd (bk l n :: l.drop (n + 1)) = usd (l.drop (n + 1)) by simp [usd, hu]]
      exact List.filter_eq_self.2 (fun b hb => by simpa using hd b (List.mem_filter.1 hb).1)
    · rw [show usd (bk l n :: l.drop (n + 1)) = bk l n :: usd (l.drop (n + 1)) by simp [usd, hu]]
      rw [List.filter_cons, if_neg (by simp)]
      exact List.filter_eq_self.2 (fun b hb => by simpa using hd b (List.mem_filter.1 hb).1)

theorem Mid_start {l : List Blk} {p : Int} (hv : VU l p) {j : Nat} (hj : j < l.length) : Mid p (less (usd l) (bk l j).s) (set0U l j) j := by
  obtain ⟨h0, h8, ht, hn⟩ := hv
  have hlen : (set0U l j).length = l.length := by simp [set0U]
  refine ⟨?_, ?_, by omega, ?_, ?_⟩
  · rw [split_atU hj, Tl_append] at ht
    obtain ⟨m, t1, t2, t3, t4, t5, t6⟩ := ht
    rw [set0U_split hj, Tl_append]
    exact ⟨m, t1, t2, t3, t4, t5, t6⟩
  · rw [usd_less ht hj, set0U_split hj, usd_append]
    rfl
  · rw [bk_set0U hj, if_pos rfl]
  · intro i hi h1 h2
    rw [bk_set0U hj, bk_set0U hj, if_neg h1, if_neg h2]
    exact hn i (by omega)

/-- Buddies i and i + 1 become one. -/
def joinU (x : List Blk) (i : Nat) : List Blk := x.take i ++ ⟨(bk x i).s, (bk x i).z + 1, false⟩ :: x.drop (i + 2)

theorem joinU_len {x : List Blk} {i : Nat} (h : i + 1 < x.length) : (joinU x i).length + 1 = x.length := by
  unfold joinU; simp; omega
theorem bk_joinU {x : List Blk} {i k : Nat} (h : i + 1 < x.length) : bk (joinU x i) k = if k < i then bk x k else if k = i then ⟨(bk x i).s, (bk x i).z + 1, false⟩ else bk x (k + 1) := by
  unfold joinU
  have hl : (x.take i).length = i := by simp; omega
  split
  · rw [bk_left (by omega), bk_take (by omega) (by omega)]
  · split
    · subst k
      have := bk_right (a := x.take i) (b := ⟨(bk x i).s, (bk x i).z + 1, false⟩ :: x.drop (i + 2)) (k := 0)
      rw [hl] at this
      simpa [bk] using this
    · have := bk_right (a := x.take i) (b := ⟨(bk x i).s, (bk x i).z + 1, false⟩ :: x.drop (i + 2)) (k := k - i)
      rw [hl, show i + (k - i) = k by omega] at this
      rw [this]
      obtain ⟨q, rfl⟩ : ∃ q, k = i + (q + 1) := ⟨k - i - 1, by omega⟩
      rw [show i + (q + 1) - i = q + 1 by omega]
      show bk (x.drop (i + 2)) q = _
      rw [bk_drop]; congr 1; omega

theorem Mid_join {p : Int} (hp : 0 ≤ p) {U x : List Blk} {j i : Nat} (h : Mid p U x j) (hi : i + 1 < x.length) (hj : i = j ∨ i + 1 = j) (hJ : Jn (bk x i) (bk x (i + 1))) :
    Mid p U (joinU x i) i := by
  obtain ⟨ht, hu, hl, hf, hr⟩ := h
  obtain ⟨j1, j2, j3, j4⟩ := hJ
  have hlen := joinU_len hi
  have hs : x = x.take i ++ bk x i :: bk x (i + 1) :: x.drop (i + 2) := by
    conv => lhs; rw [split_atU (show i < x.length by omega), drop_cons' hi]
  have ht0 := ht
  rw [hs, Tl_append] at ht
  obtain ⟨m, t1, t2, t3, t4, t5, t6, t7, t8, t9, t10⟩ := ht
  have e1 : m + pw (bk x i).z + pw (bk x (i + 1)).z = m + pw ((bk x i).z + 1) := by rw [pw_succ t3, ← j3]; omega
  rw [e1] at t10
  have hz : (bk x i).z + 1 ≤ p := by
    have h1 := Tl_le t10
    have h2 := Tl_le t1
    by_cases hc : (bk x i).z + 1 ≤ p
    · exact hc
    · have h3 := pw_lt hp (show p < (bk x i).z + 1 by omega)
      have := pw_pos p
      omega
  refine ⟨?_, ?_, by omega, ?_, ?_⟩
  · unfold joinU
    rw [Tl_append]
    exact ⟨m, t1, t2, by show 0 ≤ (bk x i).z + 1; omega, hz, j4, t10⟩
  · rw [← hu]
    conv => rhs; rw [hs]
    unfold joinU
    rw [usd_append, usd_append]
    simp [usd, j1, j2]
  · rw [bk_joinU hi, if_neg (by omega), if_pos rfl]
  · intro k hk h1 h2
    rw [bk_joinU hi, bk_joinU hi]
    by_cases hki : k + 1 < i
    · rw [if_pos (by omega), if_pos hki]
      exact hr k (by omega) (by omega) (by omega)
    · rw [if_neg (by omega), if_neg h1, if_neg (by omega), if_neg (by omega)]
      exact hr (k + 1) (by omega) (by omega) (by omega)

theorem Mid_end {p : Int} (h0 : 0 ≤ p) (h8 : p ≤ 8) {U x : List Blk} {j : Nat} (h : Mid p U x j) (h1 : j + 1 < x.length → ¬ Jn (bk x j) (bk x (j + 1))) (h2 : 0 < j → ¬ Jn (bk x (j - 1)) (bk x j)) : VU x p ∧ usd x = U := by
  refine ⟨⟨h0, h8, h.til, fun i hi => ?_⟩, h.used⟩
  by_cases e1 : i = j
  · subst e1; exact h1 hi
  · by_cases e2 : i + 1 = j
    · subst e2; simpa using h2 (by omega)
    · exact h.rest i hi e1 e2

/-- A given list: valid, without the buddy at s. -/
def Given (l : List Blk) (p s : Int) (x : List Blk) : Prop := VU x p ∧ usd x = less (usd l) s

theorem Given_uniq {l : List Blk} {p s : Int} {x y : List Blk} (hx : Given l p s x) (hy : Given l p s y) : x = y :=
  VU_uniq hx.1 hy.1 (hx.2.trans hy.2.symm)

theorem uw_mem {U : List Blk} {b : Blk} (h : b ∈ U) : uwU (less U b.s) + pw b.z ≤ uwU U := by
  induction U with
  | nil => simp at h
  | cons c r ih =>
    have le : ∀ r : List Blk, uwU (less r b.s) ≤ uwU r := by
      intro r
      induction r with
      | nil => exact Int.le_refl _
      | cons d r ih =>
        have := pw_pos d.z
        unfold less at ih ⊢
        rw [List.filter_cons]
        split <;> simp only [uwU] <;> omega
    by_cases hc : c.s = b.s
    · have e : less (c :: r) b.s = less r b.s := by unfold less; rw [List.filter_cons, if_neg (by simp [hc])]
      rw [e]
      rcases List.mem_cons.1 h with rfl | h
      · have := le r; simp only [uwU]; omega
      · have := ih h; have := pw_pos c.z; simp only [uwU]; omega
    · have e : less (c :: r) b.s = c :: less r b.s := by unfold less; rw [List.filter_cons, if_pos (by simp [hc])]
      rw [e]
      rcases List.mem_cons.1 h with rfl | h
      · exact absurd rfl hc
      · have := ih h; simp only [uwU]; omega

theorem Given_free {l : List Blk} {p : Int} (hv : VU l p) {j : Nat} (hj : j < l.length) (hu : (bk l j).u = true) {x : List Blk} (hx : Given l p (bk l j).s x) : fwU l + pw (bk l j).z ≤ fwU x := by
  have h1 := fwU_usd hv.2.2.1
  have h2 := fwU_usd hx.1.2.2.1
  have h3 := uw_mem (U := usd l) (b := bk l j) (List.mem_filter.2 ⟨bk_memU hj, hu⟩)
  rw [hx.2] at h2
  omega

/-- The used buddy that begins with s, if there is one. -/
def AtU (l : List Blk) (s : Int) (j : Nat) : Prop := j < l.length ∧ (bk l j).u = true ∧ (bk l j).s = s

theorem AtU_uniq {l : List Blk} {p s : Int} (hv : VU l p) {i j : Nat} (hi : AtU l s i) (hj : AtU l s j) : i = j := by
  rcases Nat.lt_trichotomy i j with h | h | h
  · have := Tl_starts hv.2.2.1 h hj.1; have := hi.2.2; have := hj.2.2; omega
  · exact h
  · have := Tl_starts hv.2.2.1 h hi.1; have := hi.2.2; have := hj.2.2; omega

theorem Given_again {l : List Blk} {p s : Int} {x : List Blk} (hx : Given l p s x) (j : Nat) : ¬ AtU x s j := by
  rintro ⟨h1, h2, h3⟩
  have hm : bk x j ∈ usd x := List.mem_filter.2 ⟨bk_memU h1, h2⟩
  rw [hx.2] at hm
  have := (List.mem_filter.1 hm).2
  simp [h3] at this

theorem Given_other {l : List Blk} {p s t : Int} {x : List Blk} (hx : Given l p s x) (hst : t ≠ s) {j : Nat} (hj : AtU l t j) : ∃ i, AtU x t i := by
  obtain ⟨h1, h2, h3⟩ := hj
  have hm : bk l j ∈ usd x := by
    rw [hx.2]
    exact List.mem_filter.2 ⟨List.mem_filter.2 ⟨bk_memU h1, h2⟩, by simp [h3, hst]⟩
  obtain ⟨hm, hu⟩ := List.mem_filter.1 hm
  obtain ⟨i, hi, e⟩ := List.getElem_of_mem hm
  exact ⟨i, hi, by rw [bk_eq hi, e]; exact hu, by rw [bk_eq hi, e]; exact h3⟩

/-- The order of giving does not matter. -/
theorem Given_order {l : List Blk} {p s t : Int} {x y a b : List Blk} (hx : Given l p s x) (hy : Given l p t y) (ha : Given x p t a) (hb : Given y p s b) : a = b :=
  VU_uniq ha.1 hb.1 (by rw [ha.2, hb.2, hx.2, hy.2, less_comm])

/-- All free is one free buddy. -/
theorem one_free {x : List Blk} {p : Int} (hv : VU x p) : fwU x = pw p ↔ (x.length = 1 ∧ (bk x 0).u = false) := by
  have h := fwU_usd hv.2.2.1
  constructor
  · intro hf
    have h0 : uwU (usd x) = 0 := by omega
    have hn : usd x = [] := by
      cases hu : usd x with
      | nil => rfl
      | cons b r => rw [hu] at h0; simp only [uwU] at h0; have := pw_pos b.z; have := uw_nonneg r; omega
    have hq : VU [(⟨0, p, false⟩ : Blk)] p := ⟨hv.1, hv.2.1, ⟨rfl, hv.1, Int.le_refl _, Al_zero _, by show 0 + pw p = pw p; omega⟩, fun i hi => by simp at hi⟩
    have := VU_uniq hv hq (by rw [hn]; rfl)
    subst this
    exact ⟨rfl, rfl⟩
  · rintro ⟨h1, h2⟩
    match x, h1 with
    | [b], _ =>
      have h3 : b.u = false := h2
      rw [show usd [b] = [] by simp [usd, h3]] at h
      simp only [uwU] at h
      omega

theorem VU_power {l : List Blk} {p q : Int} (h : VU l p) (h' : VU l q) : p = q := by
  have e : pw p = pw q := by
    have h1 := fwU_usd h.2.2.1
    have h2 := fwU_usd h'.2.2.1
    omega
  rcases Int.lt_trichotomy p q with hlt | he | hlt
  · have := pw_lt h.1 hlt; have := pw_pos p; omega
  · exact he
  · have := pw_lt h'.1 hlt; have := pw_pos q; omega

theorem VU_init {l : List Blk} {p : Int} (h : VU l p) : ¬ VU (l.take (l.length - 1)) p := by
  intro h'
  have hp := VU_pos h
  have h1 := h.2.2.1
  rw [split_atU (show l.length - 1 < l.length by omega), Tl_append] at h1
  obtain ⟨m, t1, t2, t3, t4, t5, t6⟩ := h1
  have := Tl_inj t1 h'.2.2.1
  have := Tl_le t6
  have := pw_pos (bk l (l.length - 1)).z
  omega

/-! ## Taking -/
/-- Buddy i is the free one of the least order that is at least o, the first of them. -/
structure Pick (l : List Blk) (o : Int) (i : Nat) : Prop where
  lt : i < l.length
  free : (bk l i).u = false
  big : o ≤ (bk l i).z
  least : ∀ j : Nat, j < l.length → (bk l j).u = false → o ≤ (bk l j).z → (bk l i).z ≤ (bk l j).z
  first : ∀ j : Nat, j < i → (bk l j).u = false → o ≤ (bk l j).z → (bk l i).z < (bk l j).z

theorem Pick_uniq {l : List Blk} {o : Int} {i j : Nat} (hi : Pick l o i) (hj : Pick l o j) : i = j := by
  rcases Nat.lt_trichotomy i j with h | h | h
  · have := hj.first i h hi.free hi.big; have := hi.least j hj.lt hj.free hj.big; omega
  · exact h
  · have := hi.first j h hj.free hj.big; have := hj.least i hi.lt hi.free hi.big; omega

/-- The halves that are left free. -/
def halvesU (s : Int) : Nat → Int → List Blk
  | 0, _ => []
  | n + 1, o => ⟨s + pw o, o, false⟩ :: halvesU s n (o + 1)

theorem halvesU_snoc (s : Int) (n : Nat) (o : Int) : halvesU s (n + 1) o = halvesU s n o ++ [⟨s + pw (o + n), o + n, false⟩] := by
  induction n generalizing o with
  | zero => simp [halvesU]
  | succ n ih =>
    rw [halvesU, ih (o + 1), halvesU]
    simp only [List.cons_append]
    rw [show o + 1 + (n : Int) = o + ((n + 1 : Nat) : Int) by omega]
theorem halvesU_len (s : Int) (n : Nat) (o : Int) : (halvesU s n o).length = n := by
  induction n generalizing o with
  | zero => rfl
  | succ n ih => simp [halvesU, ih]
theorem halvesU_usd (s : Int) (n : Nat) (o : Int) : usd (halvesU s n o) = [] := by
  induction n generalizing o with
  | zero => rfl
  | succ n ih => rw [halvesU, show usd (⟨s + pw o, o, false⟩ :: halvesU s n (o + 1)) = usd (halvesU s n (o + 1)) by simp [usd], ih]
theorem halvesU_bk (s : Int) (n : Nat) (o : Int) {k : Nat} (h : k < n) : bk (halvesU s n o) k = ⟨s + pw (o + k), o + k, false⟩ := by
  induction n generalizing o k with
  | zero => omega
  | succ n ih =>
    cases k with
    | zero => simp [halvesU, bk]
    | succ k =>
      have := ih (o + 1) (k := k) (by omega)
      rw [show o + 1 + (k : Int) = o + ((k + 1 : Nat) : Int) by omega] at this
      simpa [halvesU, bk] using this
theorem halvesU_til {p s : Int} (n : Nat) {o : Int} (h0 : 0 ≤ o) (hp : o + n ≤ p) (ha : Al s (o + n)) : Tl p (s + pw o) (halvesU s n o) (s + pw (o + n)) := by
  induction n generalizing o with
  | zero => show s + pw o = _; simp
  | succ n ih =>
    refine ⟨rfl, h0, by show o ≤ p; omega, ?_, ?_⟩
    · show Al (s + pw o) o; exact Al_add h0 (Int.le_refl _) (Al_down h0 (by omega) ha)
    · have := ih (o := o + 1) (by omega) (by omega) (by rw [show o + 1 + (n : Int) = o + ((n + 1 : Nat) : Int) by omega]; exact ha)
      rw [pw_succ h0, show o + 1 + (n : Int) = o + ((n + 1 : Nat) : Int) by omega] at this
      show Tl p (s + pw o + pw o) _ _
      rw [show s + pw o + pw o = s + 2 * pw o by omega]
      exact this

def takeU (l : List Blk) (i : Nat) (o : Int) : List Blk := l.take i ++ ⟨(bk l i).s, o, true⟩ :: (halvesU (bk l i).s ((bk l i).z - o).toNat o ++ l.drop (i + 1))

theorem usd_takeU {l : List Blk} {i : Nat} {o : Int} : usd (takeU l i o) = usd (l.take i) ++ ⟨(bk l i).s, o, true⟩ :: usd (l.drop (i + 1)) := by
  unfold takeU
  rw [usd_append]
  congr 1
  rw [show ∀ (b : Blk) (r : List Blk), b.u = true → usd (b :: r) = b :: usd r from fun b r h => by simp [usd, h]]
  · rw [usd_append, halvesU_usd, List.nil_append]
  · rfl

theorem takeU_valid {l : List Blk} {p o : Int} (hv : VU l p) {i : Nat} (hi : i < l.length) (hu : (bk l i).u = false) (h0 : 0 ≤ o) (ho : o ≤ (bk l i).z) : VU (takeU l i o) p := by
  obtain ⟨hp0, hp8, ht, hn⟩ := hv
  have hb := VU_blk ⟨hp0, hp8, ht, hn⟩ hi
  have hk : ((((bk l i).z - o).toNat : Nat) : Int) = (bk l i).z - o := by omega
  generalize hN : ((bk l i).z - o).toNat = N at hk
  have hz : o + (N : Int) = (bk l i).z := by omega
  have hT : takeU l i o = l.take i ++ ⟨(bk l i).s, o, true⟩ :: (halvesU (bk l i).s N o ++ l.drop (i + 1)) := by unfold takeU; rw [hN]
  refine ⟨hp0, hp8, ?_, ?_⟩
  · have ht2 := ht
    rw [split_atU hi, Tl_append] at ht2
    obtain ⟨m, t1, t2, t3, t4, t5, t6⟩ := ht2
    rw [hT, Tl_append]
    refine ⟨m, t1, t2, h0, by show o ≤ p; omega, Al_down h0 ho t5, ?_⟩
    rw [Tl_append]
    refine ⟨m + pw (bk l i).z, ?_, t6⟩
    have := halvesU_til (p := p) (s := (bk l i).s) N h0 (by omega) (by rw [hz]; exact t5)
    rw [hz, t2] at this
    rw [t2]
    exact this
  · have hl : (l.take i).length = i := by simp; omega
    intro k hk1
    rw [hT] at hk1 ⊢
    by_cases c1 : k + 1 < i
    · rw [bk_left (by omega), bk_left (by omega), bk_take (by omega) (by omega), bk_take c1 (by omega)]
      exact hn k (by omega)
    · by_cases c2 : k + 1 = i
      · subst c2
        have := bk_right (a := l.take (k + 1)) (b := ⟨(bk l (k + 1)).s, o, true⟩ :: (halvesU (bk l (k + 1)).s N o ++ l.drop (k + 1 + 1))) (k := 0)
        rw [hl] at this
        rw [Nat.add_zero] at this
        rw [this]
        rintro ⟨_, h, _⟩
        simp [bk] at h
      · obtain ⟨q, rfl⟩ : ∃ q, k = i + q := ⟨k - i, by omega⟩
        have r := fun t : Nat => bk_right (a := l.take i) (b := ⟨(bk l i).s, o, true⟩ :: (halvesU (bk l i).s N o ++ l.drop (i + 1))) (k := t)
        rw [hl] at r
        rw [Nat.add_assoc, r, r]
        cases q with
        | zero =>
          rintro ⟨h, _⟩
          simp [bk] at h
        | succ q =>
          have hh : (halvesU (bk l i).s N o).length = N := halvesU_len _ _ _
          have st : ∀ t : Nat, bk (⟨(bk l i).s, o, true⟩ :: (halvesU (bk l i).s N o ++ l.drop (i + 1)) : List Blk) (t + 1) = bk (halvesU (bk l i).s N o ++ l.drop (i + 1)) t := fun t => rfl
          rw [st, st]
          by_cases d1 : q + 1 < N
          · rw [bk_left (by omega), bk_left (by omega), halvesU_bk _ _ _ d1, halvesU_bk _ _ _ (by omega)]
            rintro ⟨_, _, h, _⟩
            simp at h
            omega
          · by_cases d2 : q + 1 = N
            · subst d2
              rw [bk_left (by omega), halvesU_bk _ _ _ (by omega)]
              rintro ⟨_, _, _, h⟩
              have h' : Al ((bk l i).s + pw (o + q)) (o + q + 1) := h
              have hz' : o + (q : Int) + 1 = (bk l i).z := by omega
              have hal := hb.2.2.2.2
              rcases Al_half (a := (bk l i).s) (z := o + q) (by omega) (Al_down (by omega) (by omega) hal) with ⟨_, g, _⟩ | ⟨g, _⟩
              · exact g h'
              · rw [hz'] at g; exact g hal
            · obtain ⟨r', rfl⟩ : ∃ r', q = N + r' := ⟨q - N, by omega⟩
              have rr := fun t : Nat => bk_right (a := halvesU (bk l i).s N o) (b := l.drop (i + 1)) (k := t)
              rw [hh] at rr
              rw [Nat.add_assoc, rr, rr, bk_drop, bk_drop]
              have := hn (i + 1 + r') (by simp [hl, hh] at hk1; omega)
              exact this

theorem takeU_usd_less {l : List Blk} {p o : Int} (hv : VU l p) {i : Nat} (hi : i < l.length) (hu : (bk l i).u = false) (h0 : 0 ≤ o) (ho : o ≤ (bk l i).z) : less (usd (takeU l i o)) (bk l i).s = usd l := by
  have hv2 := takeU_valid hv hi hu h0 ho
  have hl : (l.take i).length = i := by simp; omega
  have hi2 : i < (takeU l i o).length := by unfold takeU; simp; omega
  have hb2 : bk (takeU l i o) i = ⟨(bk l i).s, o, true⟩ := by
    have := bk_right (a := l.take i) (b := ⟨(bk l i).s, o, true⟩ :: (halvesU (bk l i).s ((bk l i).z - o).toNat o ++ l.drop (i + 1))) (k := 0)
    rw [hl] at this
    have e : i + 0 = i := rfl
    rw [e] at this
    unfold takeU; rw [this]; rfl
  have := usd_less hv2.2.2.1 hi2
  rw [hb2] at this
  rw [this]
  have e1 : (takeU l i o).take i = l.take i := by unfold takeU; rw [List.take_append_of_le_length (by omega), List.take_take]; simp
  have e2 : (takeU l i o).drop (i + 1) = halvesU (bk l i).s ((bk l i).z - o).toNat o ++ l.drop (i + 1) := by
    unfold takeU; rw [List.drop_append, hl, List.drop_eq_nil_of_le (by omega), show i + 1 - i = 1 by omega]; rfl
  rw [e1, e2, usd_append, halvesU_usd, List.nil_append]
  conv => rhs; rw [split_atU hi]
  rw [usd_append]
  simp [usd, hu]

/-- Giving back leads to the buddies before. -/
theorem take_give {l : List Blk} {p o : Int} (hv : VU l p) {i : Nat} (hi : i < l.length) (hu : (bk l i).u = false) (h0 : 0 ≤ o) (ho : o ≤ (bk l i).z) : Given (takeU l i o) p (bk l i).s l :=
  ⟨hv, (takeU_usd_less hv hi hu h0 ho).symm⟩

theorem takeU_at {l : List Blk} {i : Nat} {o : Int} (hi : i < l.length) : AtU (takeU l i o) (bk l i).s i := by
  have hl : (l.take i).length = i := by simp; omega
  have hb2 : bk (takeU l i o) i = ⟨(bk l i).s, o, true⟩ := by
    have := bk_right (a := l.take i) (b := ⟨(bk l i).s, o, true⟩ :: (halvesU (bk l i).s ((bk l i).z - o).toNat o ++ l.drop (i + 1))) (k := 0)
    rw [hl] at this
    have e : i + 0 = i := rfl
    rw [e] at this
    unfold takeU; rw [this]; rfl
  exact ⟨by unfold takeU; simp; omega, by rw [hb2], by rw [hb2]⟩

theorem takeU_fw {l : List Blk} {p o : Int} (hv : VU l p) {i : Nat} (hi : i < l.length) (hu : (bk l i).u = false) (h0 : 0 ≤ o) (ho : o ≤ (bk l i).z) : fwU (takeU l i o) = fwU l - pw o := by
  have h1 := fwU_usd hv.2.2.1
  have h2 := fwU_usd (takeU_valid hv hi hu h0 ho).2.2.1
  have h3 : uwU (usd (takeU l i o)) = uwU (usd l) + pw o := by
    rw [usd_takeU]
    conv => rhs; rw [split_atU hi]
    rw [usd_append, uw_append, uw_append]
    simp only [uwU]
    have : usd (bk l i :: l.drop (i + 1)) = usd (l.drop (i + 1)) := by simp [usd, hu]
    rw [this]; omega
  omega

/-- All used. -/
def allU (l : List Blk) : List Blk := l.map fun b => ⟨b.s, b.z, true⟩
theorem allU_valid {l : List Blk} {p : Int} (hv : VU l p) : VU (allU l) p := by
  obtain ⟨h0, h8, ht, hnj⟩ := hv
  refine ⟨h0, h8, ?_, fun i hi => ?_⟩
  · clear h0 h8 hnj
    generalize (0 : Int) = a at ht ⊢
    generalize pw p = e at ht ⊢
    induction l generalizing a with
    | nil => exact ht
    | cons b r ih => exact ⟨ht.1, ht.2.1, ht.2.2.1, ht.2.2.2.1, ih _ ht.2.2.2.2⟩
  · rintro ⟨h, _⟩
    have hi' : i < l.length := by simp [allU] at hi; omega
    have : bk (allU l) i = ⟨(bk l i).s, (bk l i).z, true⟩ := by
      rw [bk_eq (by simp [allU]; omega), bk_eq hi']; simp [allU]
    rw [this] at h; cases h
theorem allU_fw (l : List Blk) : fwU (allU l) = 0 := by
  induction l with
  | nil => rfl
  | cons b r ih => show (if true = true then (0 : Int) else pw b.z) + fwU (allU r) = 0; rw [ih]; rfl

end Go.Proofs.Ytlcgfncgjljgpaa.Pl
