/- The merge of sort.SliceStable in plain Lean. Conditions: none. -/
import Derived.Test.YtidkejmphhpjlaaBfp
namespace Go.Proofs.Ytidkejmphhpjlaa.Pl

/-- Where the element at place k of two swapped ranges came from. -/
def swI (x y n k : Nat) : Nat := if x ≤ k ∧ k < x + n then k + (y - x) else if y ≤ k ∧ k < y + n then k - (y - x) else k
theorem swI_zero (x y k : Nat) : swI x y 0 k = k := by unfold swI; rw [if_neg (by omega), if_neg (by omega)]
/-- Where the element at place k of a rotated range came from. -/
def rotI (a m b k : Nat) : Nat := if a ≤ k ∧ k < a + (b - m) then k + (m - a) else if a + (b - m) ≤ k ∧ k < b then k - (b - m) else k
theorem rot_more {m i j k : Nat} (hi : i ≤ m) (h : j < i) (hj : 0 < j) : swI (m - i) m j (rotI (m - (i - j)) m (m + j) k) = rotI (m - i) m (m + j) k := by
  unfold swI rotI
  repeat' split
  all_goals omega
theorem rot_less {m i j k : Nat} (hi : i ≤ m) (h : i < j) (hi0 : 0 < i) : swI (m - i) (m + j - i) i (rotI (m - i) m (m + (j - i)) k) = rotI (m - i) m (m + j) k := by
  unfold swI rotI
  repeat' split
  all_goals omega
theorem rot_last {m i k : Nat} (hi : i ≤ m) : swI (m - i) m i k = rotI (m - i) m (m + i) k := by
  unfold swI rotI
  repeat' split
  all_goals omega
theorem rot_id1 (m b k : Nat) (h : m ≤ b) : rotI m m b k = k := by
  unfold rotI
  repeat' split
  all_goals omega
theorem rot_id2 (a m k : Nat) : rotI a m m k = k := by
  unfold rotI
  repeat' split
  all_goals omega

section
variable {α : Type} (v : α → Nat) (l : List Blk)

def LTx (a b : α) : Prop := (bk l (v a)).z < (bk l (v b)).z ∨ ((bk l (v a)).z = (bk l (v b)).z ∧ v a < v b)
theorem LTx.trans {a b c : α} (h : LTx v l a b) (h' : LTx v l b c) : LTx v l a c := by unfold LTx at *; omega
theorem lt_false {r q : α} (h : ltz v l r q = false) (hv : v q < v r) : LTx v l q r := by
  unfold ltz at h
  rw [decide_eq_false_iff_not] at h
  unfold LTx; omega
theorem lt_true {r q : α} (h : ltz v l r q = true) : LTx v l r q := by
  unfold ltz at h
  rw [decide_eq_true_iff] at h
  exact .inl h

variable [Inhabited α]

/-- A sorted range. -/
def Seg (d : Array α) (a b : Nat) : Prop := ∀ i j, a ≤ i → i < j → j < b → LTx v l d[i]! d[j]!
/-- All of the first range come before all of the second. -/
def VL (d : Array α) (a m b : Nat) : Prop := ∀ i j, a ≤ i → i < m → m ≤ j → j < b → v d[i]! < v d[j]!

theorem Seg.le {d : Array α} {a b : Nat} (h : Seg v l d a b) {i j : Nat} {x : α} (h1 : a ≤ i) (h2 : i ≤ j) (h3 : j < b) (hx : LTx v l d[j]! x) : LTx v l d[i]! x := by
  by_cases e : i = j
  · subst e; exact hx
  · exact (h i j h1 (by omega) h3).trans v l hx
theorem Seg.ge {d : Array α} {a b : Nat} (h : Seg v l d a b) {i j : Nat} {x : α} (h1 : a ≤ i) (h2 : i ≤ j) (h3 : j < b) (hx : LTx v l x d[i]!) : LTx v l x d[j]! := by
  by_cases e : i = j
  · subst e; exact hx
  · exact hx.trans v l (h i j h1 (by omega) h3)

/-- Two sorted ranges, the one laid into the other by a rotation. -/
theorem seg_rot {d D : Array α} {a m b s e : Nat} (hL : Seg v l d a m) (hR : Seg v l d m b) (h1 : a ≤ s) (h2 : s ≤ m) (h3 : m ≤ e) (h4 : e ≤ b)
    (H1 : ∀ i j, a ≤ i → i < s → m ≤ j → j < e → LTx v l d[i]! d[j]!) (H2 : ∀ i j, s ≤ i → i < m → m ≤ j → j < e → LTx v l d[j]! d[i]!) (H3 : ∀ i j, a ≤ i → i < m → e ≤ j → j < b → LTx v l d[i]! d[j]!)
    (hD : ∀ k, D[k]! = d[rotI s m e k]!) : Seg v l D a b := by
  intro i j hai hij hjb
  rw [hD i, hD j]
  have ri : (a ≤ i ∧ i < s ∧ rotI s m e i = i) ∨ (s ≤ i ∧ i < s + (e - m) ∧ rotI s m e i = i + (m - s)) ∨ (s + (e - m) ≤ i ∧ i < e ∧ rotI s m e i = i - (e - m)) ∨ (e ≤ i ∧ rotI s m e i = i) := by
    unfold rotI; split
    · omega
    · split <;> omega
  have rj : (a ≤ j ∧ j < s ∧ rotI s m e j = j) ∨ (s ≤ j ∧ j < s + (e - m) ∧ rotI s m e j = j + (m - s)) ∨ (s + (e - m) ≤ j ∧ j < e ∧ rotI s m e j = j - (e - m)) ∨ (e ≤ j ∧ rotI s m e j = j) := by
    unfold rotI; split
    · omega
    · split <;> omega
  rcases ri with ⟨i1, i2, ei⟩ | ⟨i1, i2, ei⟩ | ⟨i1, i2, ei⟩ | ⟨i1, ei⟩ <;> rcases rj with ⟨j1, j2, ej⟩ | ⟨j1, j2, ej⟩ | ⟨j1, j2, ej⟩ | ⟨j1, ej⟩ <;> rw [ei, ej]
  · exact hL _ _ (by omega) (by omega) (by omega)
  · exact H1 _ _ (by omega) (by omega) (by omega) (by omega)
  · exact hL _ _ (by omega) (by omega) (by omega)
  · exact H3 _ _ (by omega) (by omega) (by omega) (by omega)
  · omega
  · exact hR _ _ (by omega) (by omega) (by omega)
  · exact H2 _ _ (by omega) (by omega) (by omega) (by omega)
  · exact hR _ _ (by omega) (by omega) (by omega)
  · omega
  · omega
  · exact hL _ _ (by omega) (by omega) (by omega)
  · exact H3 _ _ (by omega) (by omega) (by omega) (by omega)
  · omega
  · omega
  · omega
  · exact hR _ _ (by omega) (by omega) (by omega)

/-- The four ranges behind the rotation of the general case. -/
structure Halves (D : Array α) (a s c e b : Nat) : Prop where
  s1 : Seg v l D a s
  s2 : Seg v l D s c
  s3 : Seg v l D c e
  s4 : Seg v l D e b
  v1 : VL v D a s c
  v2 : VL v D c e b
  cross : ∀ i j, a ≤ i → i < c → c ≤ j → j < b → LTx v l D[i]! D[j]!

theorem halves_of {d D : Array α} {a m b s e c : Nat} (hL : Seg v l d a m) (hR : Seg v l d m b) (hV : VL v d a m b) (h1 : a ≤ s) (h2 : s ≤ m) (h3 : m ≤ e) (h4 : e ≤ b) (hc : c = s + (e - m))
    (H1 : s = a ∨ e = b ∨ (e < b ∧ LTx v l d[s - 1]! d[e]!)) (H2 : s = m ∨ e = m ∨ LTx v l d[e - 1]! d[s]!) (hD : ∀ k, D[k]! = d[rotI s m e k]!) : Halves v l D a s c e b := by
  have r1 : ∀ k, k < s → D[k]! = d[k]! := fun k hk => by rw [hD]; congr 1; unfold rotI; rw [if_neg (by omega), if_neg (by omega)]
  have r2 : ∀ k, s ≤ k → k < c → D[k]! = d[k + (m - s)]! := fun k h1 h2 => by rw [hD]; congr 1; unfold rotI; rw [if_pos (by omega)]
  have r3 : ∀ k, c ≤ k → k < e → D[k]! = d[k - (e - m)]! := fun k h1 h2 => by rw [hD]; congr 1; unfold rotI; rw [if_neg (by omega), if_pos (by omega)]
  have r4 : ∀ k, e ≤ k → D[k]! = d[k]! := fun k h1 => by rw [hD]; congr 1; unfold rotI; rw [if_neg (by omega), if_neg (by omega)]
  refine ⟨?_, ?_, ?_, ?_, ?_, ?_, ?_⟩
  · intro i j q1 q2 q3; rw [r1 i (by omega), r1 j (by omega)]; exact hL _ _ (by omega) (by omega) (by omega)
  · intro i j q1 q2 q3; rw [r2 i (by omega) (by omega), r2 j (by omega) (by omega)]; exact hR _ _ (by omega) (by omega) (by omega)
  · intro i j q1 q2 q3; rw [r3 i (by omega) (by omega), r3 j (by omega) (by omega)]; exact hL _ _ (by omega) (by omega) (by omega)
  · intro i j q1 q2 q3; rw [r4 i (by omega), r4 j (by omega)]; exact hR _ _ (by omega) (by omega) (by omega)
  · intro i j q1 q2 q3 q4; rw [r1 i (by omega), r2 j (by omega) (by omega)]; exact hV _ _ (by omega) (by omega) (by omega) (by omega)
  · intro i j q1 q2 q3 q4; rw [r3 i (by omega) (by omega), r4 j (by omega)]; exact hV _ _ (by omega) (by omega) (by omega) (by omega)
  · intro i j q1 q2 q3 q4
    by_cases ci : i < s
    · rw [r1 i ci]
      by_cases cj : j < e
      · rw [r3 j q3 cj]; exact hL _ _ (by omega) (by omega) (by omega)
      · rw [r4 j (by omega)]
        rcases H1 with rfl | rfl | ⟨hlt, H⟩
        · omega
        · omega
        · exact hL.le v l q1 (show i ≤ s - 1 by omega) (by omega) (hR.ge v l h3 (show e ≤ j by omega) q4 H)
    · rw [r2 i (by omega) q2]
      by_cases cj : j < e
      · rw [r3 j q3 cj]
        rcases H2 with rfl | rfl | H
        · omega
        · omega
        · exact hR.le v l (show m ≤ i + (m - s) by omega) (show i + (m - s) ≤ e - 1 by omega) (by omega) (hL.ge v l h1 (show s ≤ j - (e - m) by omega) (by omega) H)
      · rw [r4 j (by omega)]; exact hR _ _ (by omega) (by omega) (by omega)

theorem seg_glue {D : Array α} {a c b : Nat} (h1 : Seg v l D a c) (h2 : Seg v l D c b) (hX : ∀ i j, a ≤ i → i < c → c ≤ j → j < b → LTx v l D[i]! D[j]!) : Seg v l D a b := by
  intro i j q1 q2 q3
  by_cases ci : j < c
  · exact h1 i j q1 q2 ci
  · by_cases cj : i < c
    · exact hX i j q1 cj (by omega) q3
    · exact h2 i j (by omega) q2 q3
/-- What lies between two ranges stays when each is permuted. -/
theorem cross_perm {D D1 D2 : Array α} {a c b : Nat} (hb : b ≤ D.size) (p1 : Go.Sort.PermIn a c D D1) (p2 : Go.Sort.PermIn c b D1 D2) (hX : ∀ i j, a ≤ i → i < c → c ≤ j → j < b → LTx v l D[i]! D[j]!) :
    ∀ i j, a ≤ i → i < c → c ≤ j → j < b → LTx v l D2[i]! D2[j]! := by
  have s1 := p1.1
  have e1 : ∀ i j, a ≤ i → i < c → c ≤ j → j < b → LTx v l D1[i]! D1[j]! := fun i j q1 q2 q3 q4 => by
    rw [p1.2.1 j (.inr q3)]
    exact Go.Sort.permIn_all D D1 a c (fun x => LTx v l x D[j]!) (by omega) p1 (fun i q1 q2 => hX i j q1 q2 q3 q4) i q1 q2
  intro i j q1 q2 q3 q4
  rw [p2.2.1 i (.inl q2)]
  exact Go.Sort.permIn_all D1 D2 c b (fun x => LTx v l D1[i]! x) (by omega) p2 (fun j q3 q4 => e1 i j q1 q2 q3 q4) j q3 q4
theorem seg_keep {D D' : Array α} {a b p q : Nat} (h : Seg v l D p q) (hp : Go.Sort.PermIn a b D D') (hd : q ≤ a ∨ b ≤ p) : Seg v l D' p q := by
  intro i j q1 q2 q3
  rw [hp.2.1 i (by omega), hp.2.1 j (by omega)]
  exact h i j q1 q2 q3
theorem vl_keep {D D' : Array α} {a b p m q : Nat} (h : VL v D p m q) (hp : Go.Sort.PermIn a b D D') (hd : q ≤ a ∨ b ≤ p) : VL v D' p m q := by
  intro i j q1 q2 q3 q4
  rw [hp.2.1 i (by omega), hp.2.1 j (by omega)]
  exact h i j q1 q2 q3 q4

end
end Go.Proofs.Ytidkejmphhpjlaa.Pl
