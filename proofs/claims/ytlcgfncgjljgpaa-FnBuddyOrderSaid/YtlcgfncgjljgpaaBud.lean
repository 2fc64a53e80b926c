/- Plain mathematics of buddies: what the Go functions on buddies compute, with no program in sight. Conditions: none. -/
import Derived.Test.YtlcgfncgjljgpaaBlk
namespace Go.Proofs.Ytlcgfncgjljgpaa.Pl

/-- 2 to the power of an order. -/
def pw (z : Int) : Int := 2 ^ z.toNat

theorem pw_pos (z : Int) : 1 ≤ pw z := by
  unfold pw
  have : (0 : Int) < 2 ^ z.toNat := Int.pow_pos (by omega)
  omega
theorem pw_succ {z : Int} (h : 0 ≤ z) : pw (z + 1) = 2 * pw z := by
  unfold pw
  rw [show (z + 1).toNat = z.toNat + 1 by omega, Int.pow_succ]; omega
theorem pw_dvd {y z : Int} (h0 : 0 ≤ y) (h : y ≤ z) : ∃ m : Int, 1 ≤ m ∧ pw z = pw y * m := by
  refine ⟨pw (z - y), pw_pos _, ?_⟩
  unfold pw
  rw [← Int.pow_add, show z.toNat = y.toNat + (z - y).toNat by omega]
theorem pw_le {y z : Int} (h0 : 0 ≤ y) (h : y ≤ z) : pw y ≤ pw z := by
  obtain ⟨m, hm, e⟩ := pw_dvd h0 h
  rw [e]
  have := pw_pos y
  have := Int.mul_le_mul_of_nonneg_left hm (show 0 ≤ pw y by omega)
  omega
theorem pw_lt {y z : Int} (h0 : 0 ≤ y) (h : y < z) : 2 * pw y ≤ pw z := by
  have := pw_le (y := y + 1) (z := z) (by omega) (by omega)
  rw [pw_succ h0] at this; exact this
theorem pw_zero : pw 0 = 1 := rfl
theorem pw_bd {z : Int} (h0 : 0 ≤ z) (h : z ≤ 8) : pw z ≤ 256 := pw_le (z := 8) h0 h

/-- Multiples of a power. -/
def Al (a z : Int) : Prop := a % pw z = 0
theorem Al_iff {a z : Int} : Al a z ↔ ∃ m, a = pw z * m := by
  unfold Al
  constructor
  · intro h; obtain ⟨m, e⟩ := Int.dvd_of_emod_eq_zero h; exact ⟨m, e⟩
  · rintro ⟨m, rfl⟩; exact Int.mul_emod_right _ _
theorem Al_down {a y z : Int} (h0 : 0 ≤ y) (h : y ≤ z) (ha : Al a z) : Al a y := by
  obtain ⟨m, _, e⟩ := pw_dvd h0 h
  obtain ⟨n, rfl⟩ := Al_iff.1 ha
  exact Al_iff.2 ⟨m * n, by rw [e, Int.mul_assoc]⟩
theorem Al_add {a y z : Int} (h0 : 0 ≤ y) (h : y ≤ z) (ha : Al a y) : Al (a + pw z) y := by
  obtain ⟨m, _, e⟩ := pw_dvd h0 h
  obtain ⟨n, rfl⟩ := Al_iff.1 ha
  exact Al_iff.2 ⟨n + m, by rw [e, Int.mul_add]⟩
theorem Al_zero (z : Int) : Al 0 z := by unfold Al; simp
/-- Two multiples of a power lie a power apart. -/
theorem Al_lt {a b z : Int} (ha : Al a z) (hb : Al b z) (h : a < b) : a + pw z ≤ b := by
  obtain ⟨m, rfl⟩ := Al_iff.1 ha
  obtain ⟨n, rfl⟩ := Al_iff.1 hb
  have hp := pw_pos z
  have hmn : m < n := Int.lt_of_mul_lt_mul_left h (by omega)
  have := Int.mul_le_mul_of_nonneg_left (show m + 1 ≤ n by omega) (show 0 ≤ pw z by omega)
  rw [Int.mul_add] at this; omega
/-- One of two neighbouring multiples is one of the next power. -/
theorem Al_half {a z : Int} (h0 : 0 ≤ z) (ha : Al a z) : (Al a (z + 1) ∧ ¬ Al (a + pw z) (z + 1) ∧ ¬ Al (a - pw z) (z + 1)) ∨ (¬ Al a (z + 1) ∧ Al (a + pw z) (z + 1) ∧ Al (a - pw z) (z + 1)) := by
  obtain ⟨m, rfl⟩ := Al_iff.1 ha
  have hp := pw_pos z
  have key : ∀ n : Int, Al (pw z * n) (z + 1) ↔ n % 2 = 0 := by
    intro n
    rw [Al_iff, pw_succ h0]
    constructor
    · rintro ⟨k, e⟩
      have : pw z * n = pw z * (2 * k) := by rw [e, ← Int.mul_assoc, Int.mul_comm 2 (pw z)]
      have := Int.eq_of_mul_eq_mul_left (by omega) this
      omega
    · intro h
      exact ⟨n / 2, by rw [Int.mul_comm 2 (pw z), Int.mul_assoc]; congr 1; omega⟩
  have e1 : pw z * m + pw z = pw z * (m + 1) := by rw [Int.mul_add]; omega
  have e2 : pw z * m - pw z = pw z * (m - 1) := by rw [Int.mul_sub]; omega
  rw [e1, e2, key, key, key]
  omega

/-- Two neighbours are the two free halves of the next order. -/
def Jn (c b : Blk) : Prop := c.u = false ∧ b.u = false ∧ c.z = b.z ∧ Al c.s (c.z + 1)

/-- Aligned buddies of orders up to p divide the words from a to e. -/
def Tl (p : Int) : Int → List Blk → Int → Prop
  | a, [], e => a = e
  | a, b :: r, e => b.s = a ∧ 0 ≤ b.z ∧ b.z ≤ p ∧ Al b.s b.z ∧ Tl p (a + pw b.z) r e

/-- No two neighbours are free halves. -/
def Nj (l : List Blk) : Prop := ∀ i : Nat, i + 1 < l.length → ¬ Jn (bk l i) (bk l (i + 1))

/-- Valid buddies. -/
def VU (l : List Blk) (p : Int) : Prop := 0 ≤ p ∧ p ≤ 8 ∧ Tl p 0 l (pw p) ∧ Nj l

theorem Tl_append {p a : Int} {l1 l2 : List Blk} {e : Int} : Tl p a (l1 ++ l2) e ↔ ∃ m, Tl p a l1 m ∧ Tl p m l2 e := by
  induction l1 generalizing a with
  | nil => simp [Tl]
  | cons b r ih =>
    simp only [List.cons_append, Tl, ih]
    constructor
    · rintro ⟨h1, h2, h3, h4, m, h5, h6⟩; exact ⟨m, ⟨h1, h2, h3, h4, h5⟩, h6⟩
    · rintro ⟨m, ⟨h1, h2, h3, h4, h5⟩, h6⟩; exact ⟨h1, h2, h3, h4, m, h5, h6⟩

theorem Tl_le {p a : Int} {l : List Blk} {e : Int} (h : Tl p a l e) : a + l.length ≤ e := by
  induction l generalizing a with
  | nil => simp only [Tl] at h; simp; omega
  | cons b r ih => have := ih h.2.2.2.2; have := pw_pos b.z; simp; omega

theorem Tl_inj {p a : Int} {l : List Blk} {e e' : Int} (h : Tl p a l e) (h' : Tl p a l e') : e = e' := by
  induction l generalizing a with
  | nil => simp only [Tl] at h h'; omega
  | cons b r ih => exact ih h.2.2.2.2 h'.2.2.2.2

theorem Tl_mem {p a : Int} {l : List Blk} {e : Int} (h : Tl p a l e) : ∀ b ∈ l, a ≤ b.s ∧ b.s + pw b.z ≤ e ∧ 0 ≤ b.z ∧ b.z ≤ p ∧ Al b.s b.z := by
  induction l generalizing a with
  | nil => simp
  | cons c r ih =>
    obtain ⟨h1, h2, h3, h4, h5⟩ := h
    have := Tl_le h5
    intro b hb
    rcases List.mem_cons.1 hb with rfl | hb
    · exact ⟨by omega, by omega, h2, h3, h4⟩
    · obtain ⟨q1, q2, q3⟩ := ih h5 b hb
      have := pw_pos c.z
      exact ⟨by omega, q2, q3⟩

theorem Tl_weaken {p q a : Int} {l : List Blk} {e : Int} (h : Tl p a l e) (hq : ∀ b ∈ l, b.z ≤ q) : Tl q a l e := by
  induction l generalizing a with
  | nil => exact h
  | cons c r ih =>
    obtain ⟨h1, h2, h3, h4, h5⟩ := h
    exact ⟨h1, h2, hq c (by simp), h4, ih h5 (fun b hb => hq b (by simp [hb]))⟩

/-- What a round of the check asks of buddy k. -/
def FitsU (l : List Blk) (p e : Int) (k : Nat) : Prop := (bk l k).s = e ∧ 0 ≤ (bk l k).z ∧ (bk l k).z ≤ p ∧ Al (bk l k).s (bk l k).z ∧ (k = 0 ∨ ¬ Jn (bk l (k - 1)) (bk l k))

/-- The first k buddies are as they should be. -/
def PreU (l : List Blk) (p e : Int) (k : Nat) : Prop := Tl p 0 (l.take k) e ∧ ∀ i : Nat, i + 1 < k → ¬ Jn (bk l i) (bk l (i + 1))

theorem PreU_zero (l : List Blk) (p : Int) : PreU l p 0 0 := ⟨rfl, fun i h => by omega⟩

theorem PreU_step {l : List Blk} {p e : Int} {k : Nat} (h : PreU l p e k) (hk : k < l.length) (hf : FitsU l p e k) : PreU l p (e + pw (bk l k).z) (k + 1) := by
  obtain ⟨h1, h2⟩ := h
  obtain ⟨f1, f2, f3, f4, f5⟩ := hf
  refine ⟨?_, fun i hi => ?_⟩
  · rw [take_succ' hk, Tl_append]
    exact ⟨e, h1, f1, f2, f3, f4, rfl⟩
  · by_cases e : i + 1 = k
    · subst e
      have := f5.resolve_left (by omega)
      simpa using this
    · exact h2 i (by omega)

theorem PreU_all {l : List Blk} {p e : Int} (h : PreU l p e l.length) (h0 : 0 ≤ p) (h8 : p ≤ 8) (he : e = pw p) : VU l p := by
  obtain ⟨h1, h2⟩ := h
  rw [List.take_length] at h1
  subst he
  exact ⟨h0, h8, h1, h2⟩

theorem VU_at {l : List Blk} {p e : Int} {k : Nat} (hv : VU l p) (h : PreU l p e k) (hk : k < l.length) : FitsU l p e k ∧ e + pw (bk l k).z ≤ pw p := by
  obtain ⟨_, _, ho, hn⟩ := hv
  rw [← List.take_append_drop k l, Tl_append] at ho
  obtain ⟨m, h1, h2⟩ := ho
  have := Tl_inj h.1 h1; subst this
  rw [drop_cons' hk] at h2
  obtain ⟨a, b, c, d, f⟩ := h2
  have := Tl_le f
  refine ⟨⟨a, b, c, d, ?_⟩, by omega⟩
  cases k with
  | zero => exact .inl rfl
  | succ k => exact .inr (hn k hk)

theorem VU_end {l : List Blk} {p e : Int} (hv : VU l p) (h : PreU l p e l.length) : e = pw p := by
  have := h.1
  rw [List.take_length] at this
  exact Tl_inj this hv.2.2.1

theorem VU_len {l : List Blk} {p : Int} (hv : VU l p) : (l.length : Int) ≤ pw p ∧ pw p ≤ 256 ∧ 0 ≤ p ∧ p ≤ 8 := by
  have := Tl_le hv.2.2.1; exact ⟨by omega, pw_bd hv.1 hv.2.1, hv.1, hv.2.1⟩

theorem VU_pos {l : List Blk} {p : Int} (hv : VU l p) : 0 < l.length := by
  cases l with
  | nil => have h := hv.2.2.1; simp only [Tl] at h; have := pw_pos p; omega
  | cons b r => simp

theorem bk_memU {l : List Blk} {k : Nat} (h : k < l.length) : bk l k ∈ l := by rw [bk_eq h]; exact List.getElem_mem h

theorem VU_blk {l : List Blk} {p : Int} (hv : VU l p) {k : Nat} (hk : k < l.length) : 0 ≤ (bk l k).s ∧ (bk l k).s + pw (bk l k).z ≤ pw p ∧ 0 ≤ (bk l k).z ∧ (bk l k).z ≤ p ∧ Al (bk l k).s (bk l k).z := by
  obtain ⟨a, b, c, d, e⟩ := Tl_mem hv.2.2.1 _ (bk_memU hk)
  exact ⟨a, b, c, d, e⟩

/-! ## Valid buddies are known by their used ones -/
def usd (l : List Blk) : List Blk := l.filter (·.u)

theorem usd_append (a b : List Blk) : usd (a ++ b) = usd a ++ usd b := by simp [usd]

theorem Tl_cut {p a e m : Int} {l : List Blk} (h : Tl p a l e) (ha : a ≤ m) (he : m ≤ e) (hs : ∀ b ∈ l, b.s < m → b.s + pw b.z ≤ m) :
    ∃ l1 l2, l = l1 ++ l2 ∧ Tl p a l1 m ∧ Tl p m l2 e := by
  induction l generalizing a with
  | nil => simp only [Tl] at h; exact ⟨[], [], rfl, by simp only [Tl]; omega, by simp only [Tl]; omega⟩
  | cons b r ih =>
    obtain ⟨h1, h2, h3, h4, h5⟩ := h
    by_cases hm : a = m
    · subst hm; exact ⟨[], b :: r, rfl, rfl, h1, h2, h3, h4, h5⟩
    · have := hs b (by simp) (by omega)
      obtain ⟨l1, l2, e1, q1, q2⟩ := ih h5 (by omega) (fun c hc => hs c (by simp [hc]))
      exact ⟨b :: l1, l2, by rw [e1]; rfl, ⟨h1, h2, h3, h4, q1⟩, q2⟩

theorem Tl_nil {p a : Int} {l : List Blk} (h : Tl p a l a) : l = [] := by
  cases l with
  | nil => rfl
  | cons b r => have := Tl_le h; simp at this; omega

/-- Buddies that divide a block of a power: one of that order, or two halves. -/
theorem Tl_split {o a : Int} (h0 : 0 ≤ o) {l : List Blk} (ha : Al a o) (h : Tl o a l (a + pw o)) :
    (∃ u, l = [⟨a, o, u⟩]) ∨ (1 ≤ o ∧ ∃ l1 l2, l = l1 ++ l2 ∧ Tl (o - 1) a l1 (a + pw (o - 1)) ∧ Tl (o - 1) (a + pw (o - 1)) l2 (a + pw (o - 1) + pw (o - 1))) := by
  have hp := pw_pos o
  by_cases hone : ∃ b ∈ l, b.z = o
  · left
    obtain ⟨b, hb, hz⟩ := hone
    have hm := Tl_mem h b hb
    rw [hz] at hm
    have hba : b.s = a := by omega
    cases l with
    | nil => simp at hb
    | cons c r =>
      obtain ⟨h1, h2, h3, h4, h5⟩ := h
      rcases List.mem_cons.1 hb with rfl | hb
      · rw [hz] at h5
        have := Tl_nil h5
        subst this
        exact ⟨b.u, by congr 1; exact Blk.ext' h1 hz rfl⟩
      · have := Tl_mem h5 b hb
        have := pw_pos c.z
        omega
  · right
    have hlt : ∀ b ∈ l, b.z ≤ o - 1 := fun b hb => by
      have := (Tl_mem h b hb).2.2.2.1
      have : b.z ≠ o := fun e => hone ⟨b, hb, e⟩
      omega
    have h1 : 1 ≤ o := by
      cases l with
      | nil => simp only [Tl] at h; omega
      | cons c r => have := hlt c (by simp); have := h.2.1; omega
    have e : pw o = pw (o - 1) + pw (o - 1) := by
      have := pw_succ (z := o - 1) (by omega)
      rw [show o - 1 + 1 = o by omega] at this; omega
    have hq := pw_pos (o - 1)
    have hm : Al a (o - 1) := Al_down (by omega) (by omega) ha
    obtain ⟨l1, l2, e1, q1, q2⟩ := Tl_cut (m := a + pw (o - 1)) (Tl_weaken h hlt) (by omega) (by omega) (fun b hb hs => by
      have hz := hlt b hb
      obtain ⟨_, _, hz0, _, hal⟩ := Tl_mem h b hb
      exact Al_lt hal (Al_add hz0 hz (Al_down hz0 hz hm)) hs)
    refine ⟨h1, l1, l2, e1, q1, ?_⟩
    rw [show a + pw (o - 1) + pw (o - 1) = a + pw o by omega]
    exact q2

theorem bk_left {a b : List Blk} {k : Nat} (h : k < a.length) : bk (a ++ b) k = bk a k := by
  unfold bk; rw [List.getD_eq_getElem?_getD, List.getD_eq_getElem?_getD, List.getElem?_append_left h]
theorem bk_right {a b : List Blk} {k : Nat} : bk (a ++ b) (a.length + k) = bk b k := by
  unfold bk; rw [List.getD_eq_getElem?_getD, List.getD_eq_getElem?_getD, List.getElem?_append_right (by omega), Nat.add_sub_cancel_left]

theorem Nj_left {a b : List Blk} (h : Nj (a ++ b)) : Nj a := fun i hi => by
  have := h i (by simp; omega)
  rwa [bk_left (by omega), bk_left hi] at this
theorem Nj_right {a b : List Blk} (h : Nj (a ++ b)) : Nj b := fun i hi => by
  have := h (a.length + i) (by simp; omega)
  rwa [Nat.add_assoc, bk_right, bk_right] at this

theorem uniq : ∀ (n : Nat) (o a : Int), o = n → ∀ (x y : List Blk), Al a o → Tl o a x (a + pw o) → Tl o a y (a + pw o) → Nj x → Nj y → usd x = usd y → x = y := by
  intro n
  induction n with
  | zero =>
    rintro o a rfl x y ha hx hy _ _ hu
    rcases Tl_split (by omega) ha hx with ⟨u, rfl⟩ | ⟨h, _⟩
    · rcases Tl_split (by omega) ha hy with ⟨v, rfl⟩ | ⟨h, _⟩
      · cases u <;> cases v <;> simp_all [usd]
      · omega
    · omega
  | succ n ih =>
    intro o a ho x y ha hx hy nx ny hu
    have h0 : 0 ≤ o := by omega
    have h1 : 0 ≤ o - 1 := by omega
    have hd : Al a (o - 1) := Al_down h1 (by omega) ha
    have ha2 : Al (a + pw (o - 1)) (o - 1) := Al_add h1 (Int.le_refl _) hd
    have half : ∀ (v : Bool) (y1 y2 : List Blk), Tl (o - 1) a y1 (a + pw (o - 1)) → Tl (o - 1) (a + pw (o - 1)) y2 (a + pw (o - 1) + pw (o - 1)) → Nj (y1 ++ y2) → usd (y1 ++ y2) = usd [⟨a, o, v⟩] → False := by
      intro v y1 y2 t1 t2 nj hu
      cases v with
      | true =>
        have hm : (⟨a, o, true⟩ : Blk) ∈ y1 ++ y2 := by
          have : (⟨a, o, true⟩ : Blk) ∈ usd (y1 ++ y2) := by rw [hu]; simp [usd]
          exact (List.mem_filter.1 this).1
        rcases List.mem_append.1 hm with hm | hm
        · have h3 : (o : Int) ≤ o - 1 := (Tl_mem t1 _ hm).2.2.2.1
          omega
        · have h3 : (o : Int) ≤ o - 1 := (Tl_mem t2 _ hm).2.2.2.1
          omega
      | false =>
        have hu' : usd y1 ++ usd y2 = [] := by rw [← usd_append, hu]; rfl
        obtain ⟨u1, u2⟩ := List.append_eq_nil_iff.1 hu'
        have s1 : Nj [(⟨a, o - 1, false⟩ : Blk)] := fun i hi => by simp at hi
        have s2 : Nj [(⟨a + pw (o - 1), o - 1, false⟩ : Blk)] := fun i hi => by simp at hi
        have e1 := ih (o - 1) a (by omega) y1 [⟨a, o - 1, false⟩] hd t1 ⟨rfl, h1, Int.le_refl _, hd, rfl⟩ (Nj_left nj) s1 (by rw [u1]; rfl)
        have e2 := ih (o - 1) (a + pw (o - 1)) (by omega) y2 [⟨a + pw (o - 1), o - 1, false⟩] ha2 t2 ⟨rfl, h1, Int.le_refl _, ha2, rfl⟩ (Nj_right nj) s2 (by rw [u2]; rfl)
        subst e1 e2
        refine nj 0 (by simp) ⟨rfl, rfl, rfl, ?_⟩
        show Al a (o - 1 + 1)
        rw [show o - 1 + 1 = o by omega]; exact ha
    rcases Tl_split h0 ha hx with ⟨u, rfl⟩ | ⟨_, x1, x2, rfl, p1, p2⟩
    · rcases Tl_split h0 ha hy with ⟨v, rfl⟩ | ⟨_, y1, y2, rfl, q1, q2⟩
      · cases u <;> cases v <;> simp_all [usd]
      · exact absurd hu.symm (fun h => half u y1 y2 q1 q2 ny h)
    · rcases Tl_split h0 ha hy with ⟨v, rfl⟩ | ⟨_, y1, y2, rfl, q1, q2⟩
      · exact absurd hu (fun h => half v x1 x2 p1 p2 nx h)
      · have cut : ∀ z1 z2 : List Blk, Tl (o - 1) a z1 (a + pw (o - 1)) → Tl (o - 1) (a + pw (o - 1)) z2 (a + pw (o - 1) + pw (o - 1)) →
            (usd (z1 ++ z2)).filter (fun b => decide (b.s < a + pw (o - 1))) = usd z1 ∧ (usd (z1 ++ z2)).filter (fun b => !decide (b.s < a + pw (o - 1))) = usd z2 := by
          intro z1 z2 t1 t2
          rw [usd_append, List.filter_append, List.filter_append]
          have f1 : ∀ b ∈ usd z1, b.s < a + pw (o - 1) := fun b hb => by
            have := Tl_mem t1 b (List.mem_filter.1 hb).1
            have := pw_pos b.z
            omega
          have f2 : ∀ b ∈ usd z2, ¬ b.s < a + pw (o - 1) := fun b hb => by
            have := Tl_mem t2 b (List.mem_filter.1 hb).1
            omega
          constructor
          · rw [List.filter_eq_self.2 (fun b hb => by simpa using f1 b hb), List.filter_eq_nil_iff.2 (fun b hb => by simpa using f2 b hb), List.append_nil]
          · rw [List.filter_eq_nil_iff.2 (fun b hb => by simpa using f1 b hb), List.filter_eq_self.2 (fun b hb => by simpa using f2 b hb), List.nil_append]
        obtain ⟨c1, c2⟩ := cut x1 x2 p1 p2
        obtain ⟨d1, d2⟩ := cut y1 y2 q1 q2
        rw [hu] at c1 c2
        rw [ih (o - 1) a (by omega) x1 y1 hd p1 q1 (Nj_left nx) (Nj_left ny) (c1.symm.trans d1),
          ih (o - 1) (a + pw (o - 1)) (by omega) x2 y2 ha2 p2 q2 (Nj_right nx) (Nj_right ny) (c2.symm.trans d2)]

/-- Valid buddies with the same used ones are the same. -/
theorem VU_uniq {x y : List Blk} {p : Int} (hx : VU x p) (hy : VU y p) (h : usd x = usd y) : x = y := by
  have h0 := hx.1
  exact uniq p.toNat p 0 (by omega) x y (Al_zero p) (by rw [Int.zero_add]; exact hx.2.2.1) (by rw [Int.zero_add]; exact hy.2.2.1) hx.2.2.2 hy.2.2.2 h

end Go.Proofs.Ytlcgfncgjljgpaa.Pl
