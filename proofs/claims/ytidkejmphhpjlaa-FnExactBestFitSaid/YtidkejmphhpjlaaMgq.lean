/- sort.SliceStable in plain Lean: blocks of 20 sorted, then merged. Conditions: at most 256 elements. -/
import Derived.Test.YtidkejmphhpjlaaMgp
namespace Go.Proofs.Ytidkejmphhpjlaa.Pl

section
variable {α : Type} [Inhabited α] (v : α → Nat) (l : List Blk)

theorem innerA_eq (a : Nat) : ∀ (j : Nat) (d : Array α), j < d.size → (∀ m, a ≤ m → m < j → v d[m]! < v d[j]!) → Go.Sort.insInner (ltz v l) a j d = Go.Sort.insInner (ltx v l) a j d := by
  intro j
  induction j with
  | zero => intro d _ _; rfl
  | succ j ih =>
    intro d hj h
    unfold Go.Sort.insInner
    by_cases hja : a ≤ j
    · rw [ltz_eq v l (h j hja (by omega))]
      split
      · refine ih _ (by rw [Go.Sort.size_swp]; omega) (fun m hm1 hm => ?_)
        rw [Go.Sort.swp_other d (j + 1) j m (by omega) (by omega), Go.Sort.swp_right d (j + 1) j (by omega)]
        exact h m hm1 (by omega)
      · rfl
    · have e : decide (j + 1 > a) = false := by rw [decide_eq_false_iff_not]; omega
      simp [e]

theorem innerA_keeps (lt : α → α → Bool) (a : Nat) : ∀ (j : Nat) (d : Array α), j < d.size → (Go.Sort.insInner lt a j d).size = d.size ∧ (∀ m, (j < m ∨ m < a) → (Go.Sort.insInner lt a j d)[m]! = d[m]!) ∧ ∀ Q : α → Prop, (∀ m, a ≤ m → m ≤ j → Q d[m]!) → ∀ m, a ≤ m → m ≤ j → Q (Go.Sort.insInner lt a j d)[m]! := by
  intro j
  induction j with
  | zero => intro d _; exact ⟨rfl, fun _ _ => rfl, fun _ h => h⟩
  | succ j ih =>
    intro d hj
    unfold Go.Sort.insInner
    split
    · rename_i hc
      have hja : a ≤ j := by
        rw [Bool.and_eq_true, decide_eq_true_iff] at hc; omega
      obtain ⟨h1, h2, h3⟩ := ih (Go.Sort.swp d (j + 1) j) (by rw [Go.Sort.size_swp]; omega)
      refine ⟨h1.trans (Go.Sort.size_swp _ _ _), fun m hm => ?_, fun Q hQ m hma hm => ?_⟩
      · rw [h2 m (by omega), Go.Sort.swp_other d (j + 1) j m (by omega) (by omega)]
      · by_cases e : m = j + 1
        · subst e
          rw [h2 (j + 1) (by omega), Go.Sort.swp_left d (j + 1) j hj (by omega)]
          exact hQ j hja (by omega)
        · refine h3 Q (fun m' hma' hm' => ?_) m hma (by omega)
          by_cases e' : m' = j
          · subst e'
            rw [Go.Sort.swp_right d (m' + 1) m' (by omega)]
            exact hQ _ (by omega) (by omega)
          · rw [Go.Sort.swp_other d (j + 1) j m' (by omega) e']
            exact hQ m' hma' (by omega)
    · exact ⟨rfl, fun _ _ => rfl, fun _ h => h⟩

theorem outerA_eq (a b : Nat) : ∀ (f i : Nat) (d : Array α), b - i ≤ f → b ≤ d.size → (∀ m q, a ≤ m → m < q → i ≤ q → q < b → v d[m]! < v d[q]!) → Go.Sort.insOuter (ltz v l) a b i d = Go.Sort.insOuter (ltx v l) a b i d := by
  intro f
  induction f with
  | zero =>
    intro i d hf _ _
    unfold Go.Sort.insOuter
    rw [if_neg (by omega), if_neg (by omega)]
  | succ f ih =>
    intro i d hf hb h
    unfold Go.Sort.insOuter
    by_cases hi : i < b
    · rw [if_pos hi, if_pos hi, innerA_eq v l a i d (by omega) (fun m hma hm => h m i hma hm (Nat.le_refl _) hi)]
      obtain ⟨h1, h2, h3⟩ := innerA_keeps (ltx v l) a i d (by omega)
      exact ih (i + 1) (Go.Sort.insInner (ltx v l) a i d) (by omega) (by omega) (fun m q hma hmq hq hqs => by
        rw [h2 q (by omega)]
        by_cases hm : m ≤ i
        · exact h3 (fun x => v x < v d[q]!) (fun m' hma' hm' => h m' q hma' (by omega) (by omega) (by omega)) m hma hm
        · rw [h2 m (by omega)]; exact h m q hma hmq (by omega) (by omega))
    · rw [if_neg hi, if_neg hi]

/-- Places that differ stay so. -/
theorem perm_ne {N : Nat} {d0 d : Array α} (hN : d0.size = N) (h0 : ∀ i j, i < j → j < N → v d0[i]! < v d0[j]!) (hp : Go.Sort.PermIn 0 N d0 d) : ∀ i j, i < j → j < N → v d[i]! ≠ v d[j]! := by
  obtain ⟨hs, _, hP⟩ := hp
  rw [Go.Sort.extract_toList d 0 N (by omega), Go.Sort.extract_toList d0 0 N (by omega)] at hP
  have hP2 := hP.map v
  rw [List.map_map, List.map_map] at hP2
  have hr : List.range' 0 (N - 0) = List.range N := by rw [Nat.sub_zero, List.range_eq_range']
  rw [hr] at hP2
  have hn0 : ((List.range N).map (v ∘ fun i => d0[i]!)).Nodup := by
    unfold List.Nodup
    rw [List.pairwise_map, List.pairwise_iff_getElem]
    intro i j hi hj hij
    simp at hi hj ⊢
    have := h0 i j hij hj
    omega
  have hn : ((List.range N).map (v ∘ fun i => d[i]!)).Nodup := hP2.nodup_iff.2 hn0
  intro i j hij hj
  unfold List.Nodup at hn
  rw [List.pairwise_map, List.pairwise_iff_getElem] at hn
  have := hn i j (by simp; omega) (by simp; omega) hij
  simpa using this

/-- The insertion sort of an ascending range. -/
theorem ins_seg {N a b : Nat} {d0 d : Array α} (hN : d0.size = N) (h0 : ∀ i j, i < j → j < N → v d0[i]! < v d0[j]!) (hp : Go.Sort.PermIn 0 N d0 d) (hab : a ≤ b) (hb : b ≤ N) (hA : ∀ m q, a ≤ m → m < q → q < b → v d[m]! < v d[q]!) :
    Go.Sort.PermIn a b d (Go.Sort.insertionSort (ltz v l) d a b) ∧ Seg v l (Go.Sort.insertionSort (ltz v l) d a b) a b := by
  have hs := hp.1
  have e : Go.Sort.insertionSort (ltz v l) d a b = Go.Sort.insertionSort (ltx v l) d a b := outerA_eq v l a b b (a + 1) d (by omega) (by omega) (fun m q h1 h2 _ h3 => hA m q h1 h2 h3)
  rw [e]
  obtain ⟨p1, p2⟩ := Go.Sort.insertionSort_holds (swo_ltx v l) d a b hab (by omega)
  refine ⟨p1, fun i j h1 h2 h3 => ?_⟩
  have hne := perm_ne v hN h0 (Go.Sort.permIn_trans _ _ _ _ _ hp (Go.Sort.permIn_mono _ _ _ _ _ _ (Nat.zero_le _) hb (by omega) p1)) i j h2 (by omega)
  have := p2 i j h1 h2 h3
  simp only [ltx, decide_eq_false_iff_not] at this
  unfold LTx; omega

/-- Ranges that are sorted, the places ascending from range to range. -/
def Dn (N : Nat) (same : Nat → Nat → Prop) (d : Array α) : Prop := ∀ i j, i < j → j < N → (same i j → LTx v l d[i]! d[j]!) ∧ (¬ same i j → v d[i]! < v d[j]!)

theorem Dn_step {N a b : Nat} {same same' : Nat → Nat → Prop} {d d' : Array α} (h : Dn v l N same d) (hs : d.size = N) (hb : b ≤ N) (hp : Go.Sort.PermIn a b d d') (hq : Seg v l d' a b)
    (c1 : ∀ i j, i < j → j < N → (j < a ∨ b ≤ i) → (same' i j ↔ same i j)) (c2 : ∀ i j, a ≤ i → i < j → j < b → same' i j) (c3 : ∀ i j, i < a → a ≤ j → j < b → ¬ same' i j ∧ ¬ same i j) (c4 : ∀ i j, i < b → b ≤ j → j < N → ¬ same' i j ∧ ¬ same i j) : Dn v l N same' d' := by
  intro i j hij hj
  by_cases j1 : j < a
  · rw [hp.2.1 i (by omega), hp.2.1 j (by omega), c1 i j hij hj (.inl j1)]
    exact h i j hij hj
  · by_cases j2 : j < b
    · by_cases i1 : i < a
      · obtain ⟨n1, n2⟩ := c3 i j i1 (by omega) j2
        refine ⟨fun e => absurd e n1, fun _ => ?_⟩
        rw [hp.2.1 i (by omega)]
        exact Go.Sort.permIn_all d d' a b (fun x => v d[i]! < v x) (by omega) hp (fun q q1 q2 => (h i q (by omega) (by omega)).2 (c3 i q i1 q1 q2).2) j (by omega) j2
      · exact ⟨fun _ => hq i j (by omega) hij j2, fun e => absurd (c2 i j (by omega) hij j2) e⟩
    · by_cases i2 : b ≤ i
      · rw [hp.2.1 i (by omega), hp.2.1 j (by omega), c1 i j hij hj (.inr i2)]
        exact h i j hij hj
      · obtain ⟨n1, n2⟩ := c4 i j (by omega) (by omega) hj
        refine ⟨fun e => absurd e n1, fun _ => ?_⟩
        rw [hp.2.1 j (by omega)]
        by_cases i1 : i < a
        · rw [hp.2.1 i (by omega)]; exact (h i j hij hj).2 n2
        · exact Go.Sort.permIn_all d d' a b (fun x => v x < v d[j]!) (by omega) hp (fun q q1 q2 => (h q j (by omega) hj).2 (c4 q j q2 (by omega) hj).2) i (by omega) (by omega)

/-- While the blocks of 20 are sorted; while they are merged. -/
def P1 (t i j : Nat) : Prop := i / 20 = j / 20 ∧ j < t
def P2 (s a i j : Nat) : Prop := (j < a ∧ i / (2 * s) = j / (2 * s)) ∨ (a ≤ i ∧ i / s = j / s)
def Bs4 (s : Nat) : Prop := s = 20 ∨ s = 40 ∨ s = 80 ∨ s = 160

theorem Dn_start {N : Nat} {d : Array α} (h : ∀ i j, i < j → j < N → v d[i]! < v d[j]!) : Dn v l N (P1 0) d := fun i j hij hj => ⟨fun e => by unfold P1 at e; omega, fun _ => h i j hij hj⟩
theorem Dn_ins {N a b : Nat} {d d' : Array α} (h : Dn v l N (P1 a) d) (hs : d.size = N) (hb : b ≤ N) (ha : a % 20 = 0) (hab : b ≤ a + 20) (hbN : b = a + 20 ∨ b = N) (hp : Go.Sort.PermIn a b d d') (hq : Seg v l d' a b) : Dn v l N (P1 b) d' :=
  Dn_step v l h hs hb hp hq (fun i j hij hj hc => by unfold P1; omega) (fun i j h1 h2 h3 => by unfold P1; omega) (fun i j h1 h2 h3 => by unfold P1; omega) (fun i j h1 h2 h3 => by unfold P1; omega)
theorem Dn_asc {N a b : Nat} {d : Array α} (h : Dn v l N (P1 a) d) (hb : b ≤ N) : ∀ m q, a ≤ m → m < q → q < b → v d[m]! < v d[q]! := fun m q h1 h2 h3 => (h m q h2 (by omega)).2 (by unfold P1; omega)
theorem Dn_first {N : Nat} {d : Array α} (h : Dn v l N (P1 N) d) : Dn v l N (P2 20 0) d := fun i j hij hj => by
  have := h i j hij hj
  have e : P2 20 0 i j ↔ P1 N i j := by unfold P1 P2; omega
  rw [e]; exact this
theorem Dn_pre {N s a b : Nat} {d : Array α} (h : Dn v l N (P2 s a) d) (hs : Bs4 s) (ha : a % (2 * s) = 0) (hab : a + s < b) (hb2 : b ≤ a + 2 * s) (hb : b ≤ N) : Seg v l d a (a + s) ∧ Seg v l d (a + s) b ∧ VL v d a (a + s) b := by
  refine ⟨fun i j h1 h2 h3 => (h i j h2 (by omega)).1 ?_, fun i j h1 h2 h3 => (h i j h2 (by omega)).1 ?_, fun i j h1 h2 h3 h4 => (h i j (by omega) (by omega)).2 ?_⟩
  all_goals
    unfold P2
    rcases hs with rfl | rfl | rfl | rfl
    all_goals omega
theorem Dn_merge {N s a b : Nat} {d d' : Array α} (h : Dn v l N (P2 s a) d) (hsz : d.size = N) (hs : Bs4 s) (ha : a % (2 * s) = 0) (hb2 : b ≤ a + 2 * s) (hbN : b = a + 2 * s ∨ b = N) (hb : b ≤ N) (hp : Go.Sort.PermIn a b d d') (hq : Seg v l d' a b) : Dn v l N (P2 s b) d' := by
  refine Dn_step v l h hsz hb hp hq (fun i j hij hj hc => ?_) (fun i j h1 h2 h3 => ?_) (fun i j h1 h2 h3 => ?_) (fun i j h1 h2 h3 => ?_)
  all_goals
    unfold P2
    rcases hs with rfl | rfl | rfl | rfl
    all_goals omega
theorem Dn_pass {N s a : Nat} {d : Array α} (h : Dn v l N (P2 s a) d) (hs : Bs4 s) (ha : a % (2 * s) = 0 ∨ N ≤ a) (hN : N ≤ a + s) : Dn v l N (P2 (2 * s) 0) d := fun i j hij hj => by
  have := h i j hij hj
  have e : P2 (2 * s) 0 i j ↔ P2 s a i j := by
    unfold P2
    rcases hs with rfl | rfl | rfl | rfl
    all_goals omega
  rw [e]; exact this
theorem Dn_end {N s : Nat} {d : Array α} (h : Dn v l N (P2 s 0) d) (hN : N ≤ s) : Seg v l d 0 N := fun i j _ hij hj => (h i j hij hj).1 (by
  refine .inr ⟨Nat.zero_le _, ?_⟩
  rw [Nat.div_eq_of_lt (show i < s by omega), Nat.div_eq_of_lt (show j < s by omega)])

end
end Go.Proofs.Ytidkejmphhpjlaa.Pl
