/- BlockAt, of the program and of the reference. Conditions: none. -/
import Derived.Test.YtofolkiikmnbhaaTkb
import Derived.Test.YtofolkiikmnbhaaBlkMore
import Derived.Shelf.SlSorted.Search
import Derived.IntWalk
namespace Go.Proofs.Ytofolkiikmnbhaa.Pl

/-- Word x is in block k. -/
def AtW (l : List Blk) (x : Int) (k : Nat) : Prop := k < l.length ∧ (bk l k).s ≤ x ∧ x < (bk l k).s + (bk l k).z
/-- The number of the block in which word x is; -1 if there is none. -/
def BAt (l : List Blk) (x r : Int) : Prop := (r = -1 ∧ ∀ k : Nat, ¬ AtW l x k) ∨ ∃ k : Nat, r = k ∧ AtW l x k

theorem BAt_hit {l : List Blk} {t x r : Int} (hv : V l t) (h : BAt l x r) {k : Nat} (hk : AtW l x k) : r = k := by
  rcases h with ⟨_, h⟩ | ⟨j, rfl, hj⟩
  · exact absurd hk (h k)
  · rw [at_unique hv.2.2 hj.1 hk.1 hj.2 hk.2]
theorem BAt_miss {l : List Blk} {x r : Int} (h : BAt l x r) (hn : ∀ k : Nat, k < l.length → ¬ AtW l x k) : r = -1 := by
  rcases h with ⟨h, _⟩ | ⟨j, rfl, hj⟩
  · exact h
  · exact absurd hj (hn j hj.1)
theorem BAt_out {l : List Blk} {t x : Int} (hv : V l t) (hx : x < 0 ∨ t ≤ x) : BAt l x (-1) := by
  refine .inl ⟨rfl, fun k hk => ?_⟩
  have := V_blk hv hk.1
  have := hk.2
  omega
theorem BAt_in {l : List Blk} {t x : Int} (hv : V l t) (h0 : 0 ≤ x) (h1 : x < t) : ∃ k : Nat, BAt l x k ∧ AtW l x k := by
  obtain ⟨k, hk, h2, h3⟩ := at_word hv.2.2 h0 h1
  exact ⟨k, .inr ⟨k, rfl, hk, h2, h3⟩, hk, h2, h3⟩

theorem countP_lt (m : Nat) (p : Nat → Bool) (n : Nat) (hm : m ≤ n) (hp : ∀ i, i < n → (p i = true ↔ i < m)) : (List.range n).countP p = m := by
  induction n generalizing m with
  | zero => simp at hm; subst hm; rfl
  | succ n ih =>
    rw [List.range_succ, List.countP_append]
    by_cases e : m = n + 1
    · subst e
      have h1 := ih n (Nat.le_refl _) (fun i hi => by have := hp i (by omega); rw [this]; omega)
      have h2 : p n = true := (hp n (by omega)).2 (by omega)
      rw [h1]; simp [h2]
    · have h1 := ih m (by omega) (fun i hi => hp i (by omega))
      have h2 : p n = false := by
        cases hpn : p n
        · rfl
        · have := (hp n (by omega)).1 hpn; omega
      rw [h1]; simp [h2]

/-- How many blocks begin at word x or before. -/
theorem count_at {l : List Blk} {t x : Int} (hv : V l t) {k : Nat} (hk : AtW l x k) : (List.range l.length).countP (fun i => !decide (x < (bk l i).s)) = k + 1 := by
  refine countP_lt (k + 1) _ _ hk.1 (fun i hi => ?_)
  simp only [Bool.not_eq_true', decide_eq_false_iff_not, Int.not_lt]
  constructor
  · intro h
    rcases Nat.lt_or_ge i (k + 1) with h1 | h1
    · exact h1
    · have := starts_mono hv.2.2 (show k < i by omega) hi
      have := hk.2.2
      omega
  · intro h
    by_cases e : i = k
    · subst e; exact hk.2.1
    · have := starts_mono hv.2.2 (show i < k by omega) hk.1
      have := blk_z hv.2.2 hi
      have := hk.2.1
      omega
theorem at_mono {l : List Blk} {t x : Int} (hv : V l t) (a b : Nat) (hab : a ≤ b) (hb : b < l.length) (h : decide (x < (bk l a).s) = true) : decide (x < (bk l b).s) = true := by
  by_cases e : a = b
  · subst e; exact h
  · have h1 := starts_mono hv.2.2 (show a < b by omega) hb
    have h2 := blk_z hv.2.2 (show a < l.length by omega)
    simp only [decide_eq_true_eq] at h ⊢
    omega

end Go.Proofs.Ytofolkiikmnbhaa.Pl
namespace Go.Proofs.Ytofolkiikmnbhaa.Wk
open Go.RowKit Go.Proofs.Ytofolkiikmnbhaa.Pl

def srch_ren : Go.Shelf.Ren := ⟨fun | 16 => 77 | n => n, fun | 3 => 3 | 4 => 4 | 35 => 31 | 38 => 66 | n => n, fun n => n⟩
theorem srch : SlLaysO.n16 Try.prog srch_ren := {
  mixed := by kernel_rfl
  f16 := Try.func77.trans (congrArg some (by kernel_rfl))
  t3 := Try.underlying3
  a3 := Try.isAgg3
  z3 := Try.sizeOf3
  v3 := Try.zeroValue3
  t4 := Try.underlying4
  a4 := Try.isAgg4
  z4 := Try.sizeOf4
  v4 := Try.zeroValue4
  t35 := Try.underlying31
  a35 := Try.isAgg31
  z35 := Try.sizeOf31
  v35 := Try.zeroValue31
  t38 := Try.underlying66
  a38 := Try.isAgg66
  z38 := Try.sizeOf66
  v38 := Try.zeroValue66 }

/-- The closure of BlockAt: does block i begin behind word x? -/
theorem at_less (b off n c g1 g2 i : Nat) (x s : Int) (w : World) (h1 : w.cell? ⟨g1, 0, none⟩ = some (.slice (some ⟨b, off, none⟩) n c)) (h2 : w.cell? ⟨g2, 0, none⟩ = some (.int .i64 x)) (h3 : w.cell? ⟨b, off + i * 3, none⟩ = some (.int .i64 s)) (hi : i < n) :
    Calls Try.prog 84 #[.int .i64 i, .pointer (some ⟨g1, 0, none⟩), .pointer (some ⟨g2, 0, none⟩)] w fun e w' => e = .returned (.bool (decide (x < s))) ∧ ∃ q os, w' = Go.Sort.grow (w.drewN q) os := by
  have i1 : (0 : Int) ≤ (i : Int) := by omega
  have i2 : (i : Int) < (n : Int) := by omega
  go_enter Try.func84, Try.ntmps84
  go_wp2
  go_quiet (fail)
  go_wp2
  go_ret
  exact ⟨rfl, _, #[], (Go.Sort.grow_empty _).symm⟩

end Go.Proofs.Ytofolkiikmnbhaa.Wk
