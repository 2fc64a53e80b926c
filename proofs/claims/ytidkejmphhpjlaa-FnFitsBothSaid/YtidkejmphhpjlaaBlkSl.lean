/- Plain mathematics of blocks: sliding, shares, counting free words. Conditions: none. -/
import Derived.Test.YtidkejmphhpjlaaBlkMore
namespace Go.Proofs.Ytidkejmphhpjlaa.Pl

/-- The used blocks moved together, from word e on. -/
def slU (e : Int) : List Blk → List Blk
  | [] => []
  | b :: r => if b.u then ⟨e, b.z, true⟩ :: slU (e + b.z) r else slU e r
/-- Used words. -/
def uw : List Blk → Int
  | [] => 0
  | b :: r => (if b.u then b.z else 0) + uw r
/-- How many words were moved. -/
def mvd (e : Int) : List Blk → Int
  | [] => 0
  | b :: r => if b.u then (if b.s = e then 0 else b.z) + mvd (e + b.z) r else mvd e r

theorem slU_snoc (e : Int) (l : List Blk) (b : Blk) : slU e (l ++ [b]) = slU e l ++ if b.u then [⟨e + uw l, b.z, true⟩] else [] := by
  induction l generalizing e with
  | nil => simp [slU, uw]
  | cons c r ih =>
    simp only [List.cons_append, slU, uw]
    cases hc : c.u
    · simp only [Bool.false_eq_true, if_false]; rw [ih, Int.zero_add]
    · simp only [if_true]; rw [ih, List.cons_append, Int.add_assoc]
theorem uw_append (a b : List Blk) : uw (a ++ b) = uw a + uw b := by
  induction a with
  | nil => simp [uw]
  | cons x r ih => simp only [List.cons_append, uw, ih]; omega
theorem mvd_snoc (e : Int) (l : List Blk) (b : Blk) : mvd e (l ++ [b]) = mvd e l + if b.u then (if b.s = e + uw l then 0 else b.z) else 0 := by
  induction l generalizing e with
  | nil => simp [mvd, uw]
  | cons c r ih =>
    by_cases hc : c.u = true
    · have e1 : uw (c :: r) = c.z + uw r := by simp [uw, hc]
      rw [e1, ← Int.add_assoc]
      simp only [List.cons_append, mvd, hc, if_true]
      rw [ih]; omega
    · have e1 : uw (c :: r) = uw r := by simp [uw, hc]
      rw [e1]
      simp only [List.cons_append, mvd, hc, Bool.false_eq_true, if_false]
      rw [ih]
theorem slU_take {l : List Blk} {k : Nat} (h : k < l.length) : slU 0 (l.take (k + 1)) = slU 0 (l.take k) ++ if (bk l k).u then [⟨uw (l.take k), (bk l k).z, true⟩] else [] := by
  rw [take_succ' h, slU_snoc, Int.zero_add]
theorem uw_take {l : List Blk} {k : Nat} (h : k < l.length) : uw (l.take (k + 1)) = uw (l.take k) + if (bk l k).u then (bk l k).z else 0 := by
  rw [take_succ' h, uw_append]; simp [uw]
theorem mvd_take {l : List Blk} {k : Nat} (h : k < l.length) : mvd 0 (l.take (k + 1)) = mvd 0 (l.take k) + if (bk l k).u then (if (bk l k).s = uw (l.take k) then 0 else (bk l k).z) else 0 := by
  rw [take_succ' h, mvd_snoc, Int.zero_add]
theorem slU_len (e : Int) (l : List Blk) : (slU e l).length ≤ l.length := by
  induction l generalizing e with
  | nil => simp [slU]
  | cons c r ih =>
    simp only [slU]
    split
    · have := ih (e + c.z); simp; omega
    · have := ih e; simp; omega

theorem uw_fw {a e : Int} {pf : Bool} {l : List Blk} (h : Ok a pf l e) : uw l + fw l = e - a := by
  induction l generalizing a pf with
  | nil => simp only [Ok] at h; simp [uw, fw]; omega
  | cons b r ih => have := ih h.2.2.2; simp only [uw, fw]; split <;> omega
theorem uw_nonneg' {a e : Int} {pf : Bool} {l : List Blk} (h : Ok a pf l e) : 0 ≤ uw l := by
  induction l generalizing a pf with
  | nil => simp [uw]
  | cons b r ih => have := ih h.2.2.2; have := h.2.1; simp only [uw]; split <;> omega
theorem mvd_bd {a e : Int} {pf : Bool} {l : List Blk} (h : Ok a pf l e) (x : Int) : 0 ≤ mvd x l ∧ mvd x l ≤ uw l := by
  induction l generalizing a pf x with
  | nil => simp [mvd, uw]
  | cons b r ih =>
    have h1 := h.2.1
    have h2 := ih h.2.2.2 x
    have h3 := ih h.2.2.2 (x + b.z)
    simp only [mvd, uw]
    split
    · split <;> omega
    · omega
theorem pre_ok {l : List Blk} {t : Int} (hv : V l t) (k : Nat) : ∃ m, Ok 0 false (l.take k) m ∧ m ≤ t := by
  obtain ⟨m, h1, _, h2⟩ := V_prefix hv k; exact ⟨m, h1, h2⟩
theorem uw_take_bd {l : List Blk} {t : Int} (hv : V l t) (k : Nat) : 0 ≤ uw (l.take k) ∧ uw (l.take k) ≤ t ∧ 0 ≤ mvd 0 (l.take k) ∧ mvd 0 (l.take k) ≤ t := by
  obtain ⟨m, h1, h2⟩ := pre_ok hv k
  have := uw_fw h1
  have := fw_bd h1
  have := uw_nonneg' h1
  have := mvd_bd h1 0
  omega

/-- Slid blocks. -/
def slide (l : List Blk) (t : Int) : List Blk := slU 0 l ++ if uw l < t then [⟨uw l, t - uw l, false⟩] else []

theorem slU_ok {a e : Int} {pf : Bool} {l : List Blk} (h : Ok a pf l e) (x : Int) : Ok x false (slU x l) (x + uw l) ∧ lastFree false (slU x l) = false ∧ (∀ b ∈ slU x l, b.u = true) := by
  induction l generalizing a pf x with
  | nil => exact ⟨by simp [slU, Ok, uw], rfl, by simp [slU]⟩
  | cons b r ih =>
    simp only [slU, uw]
    cases hb : b.u
    · simp only [Bool.false_eq_true, if_false]
      rw [Int.zero_add]
      exact ih h.2.2.2 x
    · simp only [if_true]
      obtain ⟨h1, h2, h3⟩ := ih h.2.2.2 (x + b.z)
      refine ⟨⟨rfl, h.2.1, .inl rfl, ?_⟩, h2, ?_⟩
      · rw [← Int.add_assoc]; exact h1
      · intro c hc
        rcases List.mem_cons.1 hc with rfl | hc
        · rfl
        · exact h3 c hc

theorem slide_valid {l : List Blk} {t : Int} (hv : V l t) : V (slide l t) t := by
  obtain ⟨h1, h2, h3⟩ := slU_ok hv.2.2 0
  have hf := uw_fw hv.2.2
  have hb := fw_bd hv.2.2
  refine ⟨hv.1, hv.2.1, ?_⟩
  unfold slide
  rw [Ok_append]
  refine ⟨0 + uw l, h1, ?_⟩
  rw [h2]
  split
  · exact ⟨by show uw l = 0 + uw l; omega, by show 1 ≤ t - uw l; omega, .inl rfl, by show 0 + uw l + (t - uw l) = t; omega⟩
  · show 0 + uw l = t; omega

theorem used_fw {l : List Blk} (h : ∀ b ∈ l, b.u = true) : fw l = 0 ∧ lf l = 0 := by
  induction l with
  | nil => exact ⟨rfl, rfl⟩
  | cons b r ih =>
    obtain ⟨h1, h2⟩ := ih (fun c hc => h c (by simp [hc]))
    have := h b (by simp)
    simp [fw, lf, this, h1, h2]
theorem slide_fw {l : List Blk} {t : Int} (hv : V l t) : fw (slide l t) = fw l ∧ lf (slide l t) = fw l := by
  obtain ⟨h1, h2, h3⟩ := slU_ok hv.2.2 0
  have hf := uw_fw hv.2.2
  have hb := fw_bd hv.2.2
  obtain ⟨u1, u2⟩ := used_fw h3
  unfold slide
  split
  · constructor
    · rw [fw_append, u1]; simp [fw]; omega
    · rw [lf_snoc, u2]; simp; omega
  · simp only [List.append_nil]; omega

/-- Sliding again moves nothing. -/
theorem slU_again {a e : Int} {pf : Bool} {l : List Blk} (h : Ok a pf l e) (x : Int) : slU x (slU x l) = slU x l ∧ mvd x (slU x l) = 0 ∧ uw (slU x l) = uw l := by
  induction l generalizing a pf x with
  | nil => exact ⟨rfl, rfl, rfl⟩
  | cons b r ih =>
    simp only [slU, uw]
    cases hb : b.u
    · simp only [Bool.false_eq_true, if_false]; rw [Int.zero_add]; exact ih h.2.2.2 x
    · simp only [if_true]
      obtain ⟨h1, h2, h3⟩ := ih h.2.2.2 (x + b.z)
      simp [slU, mvd, uw, h1, h2, h3]
theorem slide_again {l : List Blk} {t : Int} (hv : V l t) : slide (slide l t) t = slide l t ∧ mvd 0 (slide l t) = 0 := by
  obtain ⟨h1, h2, h3⟩ := slU_again hv.2.2 0
  have hu : uw (slide l t) = uw l := by
    unfold slide
    rw [uw_append, h3]
    split <;> simp [uw]
  constructor
  · show slU 0 (slide l t) ++ (if uw (slide l t) < t then [⟨uw (slide l t), t - uw (slide l t), false⟩] else []) = slU 0 l ++ _
    rw [hu]
    congr 1
    unfold slide
    split
    · rw [slU_snoc, h1]; simp
    · simp only [List.append_nil]; exact h1
  · unfold slide
    split
    · rw [mvd_snoc, h2]; simp
    · simp only [List.append_nil]; exact h2

/-- How many used blocks are among the first k. -/
def cu : List Blk → Nat
  | [] => 0
  | b :: r => (if b.u then 1 else 0) + cu r
theorem cu_snoc (l : List Blk) (b : Blk) : cu (l ++ [b]) = cu l + if b.u then 1 else 0 := by
  induction l with
  | nil => simp [cu]
  | cons c r ih => simp only [List.cons_append, cu, ih]; omega
theorem cu_take {l : List Blk} {k : Nat} (h : k < l.length) : cu (l.take (k + 1)) = cu (l.take k) + if (bk l k).u then 1 else 0 := by
  rw [take_succ' h, cu_snoc]
theorem slU_length (e : Int) (l : List Blk) : (slU e l).length = cu l := by
  induction l generalizing e with
  | nil => rfl
  | cons b r ih =>
    simp only [slU, cu]
    split
    · simp [ih]; omega
    · rw [ih]; omega
theorem slU_at (e : Int) {l : List Blk} {k : Nat} (h : k < l.length) (hu : (bk l k).u = true) : cu (l.take k) < (slU e l).length ∧ (bk (slU e l) (cu (l.take k))).u = true ∧ (bk (slU e l) (cu (l.take k))).z = (bk l k).z := by
  induction l generalizing e k with
  | nil => simp at h
  | cons b r ih =>
    cases k with
    | zero =>
      have hb : b.u = true := hu
      simp only [List.take_zero, cu, slU, hb, if_true]
      exact ⟨by simp, rfl, rfl⟩
    | succ k =>
      have hk : k < r.length := by simpa using h
      have hu' : (bk r k).u = true := hu
      simp only [List.take_succ_cons, cu, slU]
      cases hb : b.u
      · simp only [Bool.false_eq_true, if_false, Nat.zero_add]
        exact ih e hk hu'
      · simp only [if_true]
        obtain ⟨h1, h2, h3⟩ := ih (e + b.z) hk hu'
        rw [Nat.add_comm 1]
        exact ⟨by simp; omega, h2, h3⟩
theorem bk_app {a b : List Blk} {k : Nat} (h : k < a.length) : bk (a ++ b) k = bk a k := by
  unfold bk; rw [List.getD_eq_getElem?_getD, List.getD_eq_getElem?_getD, List.getElem?_append_left h]
theorem slide_at {l : List Blk} (t : Int) {k : Nat} (h : k < l.length) (hu : (bk l k).u = true) : cu (l.take k) < (slide l t).length ∧ (bk (slide l t) (cu (l.take k))).u = true ∧ (bk (slide l t) (cu (l.take k))).z = (bk l k).z := by
  obtain ⟨h1, h2, h3⟩ := slU_at 0 h hu
  unfold slide
  rw [bk_app h1]
  exact ⟨by simp only [List.length_append]; omega, h2, h3⟩
theorem slide_len {l : List Blk} {t : Int} : (slide l t).length ≤ l.length + 1 := by
  have := slU_len 0 l
  unfold slide
  split <;> simp <;> omega

/-- The share in percent. -/
def frag (l : List Blk) : Int := if fw l ≤ 0 then fw l else 100 * (fw l - lf l) / fw l

theorem frag_slide {l : List Blk} {t : Int} (hv : V l t) : frag (slide l t) = 0 := by
  obtain ⟨h1, h2⟩ := slide_fw hv
  have := fw_bd hv.2.2
  unfold frag
  rw [h1, h2]
  split
  · omega
  · rw [Int.sub_self]; simp
theorem lf_pos {l : List Blk} {a e : Int} {pf : Bool} (h : Ok a pf l e) (hp : 0 < fw l) : 1 ≤ lf l := by
  by_cases hl : lf l ≤ 0
  · exfalso
    have := (lf_le_iff l 0 (Int.le_refl _)).1 hl
    clear hl
    induction l generalizing a pf with
    | nil => simp [fw] at hp
    | cons b r ih =>
      simp only [fw] at hp
      cases hb : b.u
      · have := this b (by simp) hb; have := h.2.1; omega
      · simp only [hb, if_true] at hp
        exact ih h.2.2.2 (by omega) (fun c hc => this c (by simp [hc]))
  · omega
theorem frag_bd {l : List Blk} {t : Int} (hv : V l t) : 0 ≤ frag l ∧ frag l ≤ 99 ∧ (frag l = 0 ↔ 100 * (fw l - lf l) < max 1 (fw l)) := by
  have hb := fw_bd hv.2.2
  have hl := lf_le_fw hv.2.2
  unfold frag
  split
  · have : fw l = 0 := by omega
    have := lf_nonneg l
    refine ⟨by omega, by omega, ?_⟩
    omega
  · have h1 := lf_pos hv.2.2 (by omega)
    have hq : 0 ≤ 100 * (fw l - lf l) / fw l := Int.ediv_nonneg (by omega) (by omega)
    have hq2 : 100 * (fw l - lf l) / fw l < 100 := Int.ediv_lt_of_lt_mul (by omega) (by omega)
    refine ⟨hq, by omega, ?_⟩
    rw [show max 1 (fw l) = fw l by omega]
    constructor
    · intro h
      have := Int.lt_mul_of_ediv_lt (a := 100 * (fw l - lf l)) (b := 1) (c := fw l) (by omega) (by omega)
      omega
    · intro h
      exact Int.ediv_eq_zero_of_lt (by omega) h

/-- The free words before word w. -/
def cw (w : Int) : List Blk → Int
  | [] => 0
  | b :: r => (if b.u then 0 else max 0 (min b.z (w - b.s))) + cw w r
theorem cw_zero {a e : Int} {pf : Bool} {l : List Blk} (h : Ok a pf l e) {w : Int} (hw : w ≤ a) : cw w l = 0 := by
  induction l generalizing a pf with
  | nil => rfl
  | cons b r ih =>
    have := ih h.2.2.2 (by have := h.2.1; omega)
    have := h.1
    simp only [cw]; split <;> omega
theorem cw_all {a e : Int} {pf : Bool} {l : List Blk} (h : Ok a pf l e) {w : Int} (hw : e ≤ w) : cw w l = fw l := by
  induction l generalizing a pf with
  | nil => rfl
  | cons b r ih =>
    have := ih h.2.2.2
    have := Ok_le h.2.2.2
    have := h.1
    have := h.2.1
    simp only [cw, fw]; split <;> omega
theorem cw_step {a e : Int} {pf : Bool} {l : List Blk} (h : Ok a pf l e) {w : Int} {k : Nat} (hk : k < l.length) (h1 : (bk l k).s ≤ w) (h2 : w < (bk l k).s + (bk l k).z) : cw (w + 1) l = cw w l + if (bk l k).u then 0 else 1 := by
  induction l generalizing a pf k with
  | nil => simp at hk
  | cons b r ih =>
    obtain ⟨o1, o2, o3, o4⟩ := h
    cases k with
    | zero =>
      have e1 : b.s ≤ w := h1
      have e2 : w < b.s + b.z := h2
      have z1 := cw_zero o4 (w := w) (by omega)
      have z2 := cw_zero o4 (w := w + 1) (by omega)
      show _ = cw w (b :: r) + if b.u then 0 else 1
      simp only [cw]
      split <;> omega
    | succ k =>
      have e1 : (bk r k).s ≤ w := h1
      have hk' : k < r.length := by simpa using hk
      have := ih o4 hk' h1 h2
      have hs : a + b.z ≤ (bk r k).s := starts (Til_of_Ok o4) _ (bk_mem hk')
      show _ = cw w (b :: r) + if (bk r k).u then 0 else 1
      simp only [cw]
      split <;> omega

end Go.Proofs.Ytidkejmphhpjlaa.Pl
