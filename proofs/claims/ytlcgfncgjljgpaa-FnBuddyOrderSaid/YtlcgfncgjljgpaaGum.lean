/- Giving a buddy: the memory. Conditions: none. -/
import Derived.Test.YtlcgfncgjljgpaaGup
import Derived.Test.YtlcgfncgjljgpaaExlU
import Derived.Deep.RegionLaw
import Derived.Deep.QuietTactic
import Derived.BigQuiet
namespace Go.Proofs.Ytlcgfncgjljgpaa.Wu
open Go.RowKit Go.Proofs.Ytlcgfncgjljgpaa.Pl Go.Proofs.Ytlcgfncgjljgpaa.Wk

theorem cellsL_setZ {R : List Blk} {i : Nat} (h : i < R.length) (x : Int) : cellsL (R.set i ⟨(bk R i).s, x, (bk R i).u⟩) = (cellsL R).set (i * 3 + 1) (.int .i64 x) := by
  induction R generalizing i with
  | nil => simp at h
  | cons b r ih =>
    cases i with
    | zero => simp [cellsL_cons, bk]
    | succ i =>
      have := ih (i := i) (by simpa using h)
      rw [List.set_cons_succ, cellsL_cons, cellsL_cons, show (i + 1) * 3 + 1 = i * 3 + 1 + 1 + 1 + 1 by omega]
      simp only [List.set_cons_succ]
      rw [← this]; rfl
theorem cellsL_setU {R : List Blk} {i : Nat} (h : i < R.length) (x : Bool) : cellsL (R.set i ⟨(bk R i).s, (bk R i).z, x⟩) = (cellsL R).set (i * 3 + 2) (.bool x) := by
  induction R generalizing i with
  | nil => simp at h
  | cons b r ih =>
    cases i with
    | zero => simp [cellsL_cons, bk]
    | succ i =>
      have := ih (i := i) (by simpa using h)
      rw [List.set_cons_succ, cellsL_cons, cellsL_cons, show (i + 1) * 3 + 2 = i * 3 + 2 + 1 + 1 + 1 by omega]
      simp only [List.set_cons_succ]
      rw [← this]; rfl
theorem own_setZ {w : World} {B g N cp : Nat} {R : List Blk} (h : Own w B (.slice (some ⟨g, 0, none⟩) N cp) R) {i : Nat} (hi : i < R.length) (x : Int) :
    Own (w.setCell ⟨g, i * 3 + 1, none⟩ (.int .i64 x)) B (.slice (some ⟨g, 0, none⟩) N cp) (R.set i ⟨(bk R i).s, x, (bk R i).u⟩) := by
  obtain ⟨hN, _⟩ := own_form h
  subst hN
  have h1 := (World.ownsRow.stored (show w.ownsRow B 44 3 (.slice (some ⟨g, 0, none⟩) R.length cp) R.length (cellsL R) from h) (i * 3 + 1) (.int .i64 x)).1
  rw [← cellsL_setZ hi x] at h1
  exact own_of h1 (by simp) rfl
theorem own_setU {w : World} {B g N cp : Nat} {R : List Blk} (h : Own w B (.slice (some ⟨g, 0, none⟩) N cp) R) {i : Nat} (hi : i < R.length) (x : Bool) :
    Own (w.setCell ⟨g, i * 3 + 2, none⟩ (.bool x)) B (.slice (some ⟨g, 0, none⟩) N cp) (R.set i ⟨(bk R i).s, (bk R i).z, x⟩) := by
  obtain ⟨hN, _⟩ := own_form h
  subst hN
  have h1 := (World.ownsRow.stored (show w.ownsRow B 44 3 (.slice (some ⟨g, 0, none⟩) R.length cp) R.length (cellsL R) from h) (i * 3 + 2) (.bool x)).1
  rw [← cellsL_setU hi x] at h1
  exact own_of h1 (by simp) rfl
theorem own_frozen {w : World} {B g N cp : Nat} {R : List Blk} (h : Own w B (.slice (some ⟨g, 0, none⟩) N cp) R) (j : Nat) : w.frozen? ⟨g, j, none⟩ = false := by
  obtain ⟨hN, _⟩ := own_form h
  subst hN
  exact World.ownsRow.frozenAt (show w.ownsRow B 44 3 (.slice (some ⟨g, 0, none⟩) R.length cp) R.length (cellsL R) from h) j

theorem cellsL_takeN (l : List Blk) (k : Nat) (h : k ≤ l.length) : (cellsL l).take (k * 3) = cellsL (l.take k) := by
  have e : cellsL l = cellsL (l.take k) ++ cellsL (l.drop k) := by rw [← cellsL_append, List.take_append_drop]
  have hl : (cellsL (l.take k)).length = k * 3 := by rw [cellsL_length]; simp; omega
  rw [e, ← hl, List.take_left']
  rfl
/-- The first buddies of the call's own. -/
theorem own_take {w : World} {B n c k : Nat} {A : Option Addr} {l : List Blk} (h : Own w B (.slice A n c) l) (hk : k ≤ n) : Own w B (.slice A k c) (l.take k) := by
  obtain ⟨hn, _⟩ := own_form h
  have hlen : (l.take k).length = k := by simp; omega
  refine ⟨by rw [cellsL_length, hlen], ?_⟩
  rw [hlen]
  rcases h.2 with ⟨hv, h0⟩ | ⟨g, cap, cur, hv, hB, hg, hnc, hcm, hs, ht⟩
  · injection hv with h1 h2 h3
    subst h1 h2 h3
    obtain rfl : k = 0 := by omega
    exact .inl ⟨rfl, rfl⟩
  · injection hv with h1 h2 h3
    subst h1 h3
    refine .inr ⟨g, c, cur, rfl, hB, hg, by omega, hcm, hs, ?_⟩
    have e : (cur.toList.take (l.length * 3)).take (k * 3) = cur.toList.take (k * 3) := by rw [List.take_take]; congr 1; omega
    rw [← e, ht]
    exact cellsL_takeN l k (by omega)

theorem cut_mid (T D : List Blk) (b : Blk) : (T ++ b :: D).take (T.length + 1) = T ++ [b] ∧ (T ++ b :: D).drop (T.length + 2) = D.drop 1 := by
  induction T with
  | nil => exact ⟨rfl, rfl⟩
  | cons c T ih =>
    exact ⟨by simpa using ih.1, by simp⟩
theorem join_set {x : List Blk} {j : Nat} (h : j + 1 < x.length) : (x.set j ⟨(bk x j).s, (bk x j).z + 1, false⟩).take (j + 1) ++ (x.set j ⟨(bk x j).s, (bk x j).z + 1, false⟩).drop (j + 2) = joinU x j := by
  have hl : (x.take j).length = j := by simp; omega
  obtain ⟨e1, e2⟩ := cut_mid (x.take j) (x.drop (j + 1)) ⟨(bk x j).s, (bk x j).z + 1, false⟩
  rw [hl] at e1 e2
  unfold joinU
  rw [List.set_eq_take_append_cons_drop, if_pos (by omega), e1, e2, List.drop_drop]
  simp
theorem join_app {x : List Blk} {j : Nat} {s z : Int} (hs : (bk x j).s = s) (hz : (bk x j).z = z) : (([] ++ x.take j) ++ [⟨s, z + 1, false⟩]) ++ x.drop (j + 2) = joinU x j := by
  subst hs hz
  unfold joinU
  simp

end Go.Proofs.Ytlcgfncgjljgpaa.Wu
