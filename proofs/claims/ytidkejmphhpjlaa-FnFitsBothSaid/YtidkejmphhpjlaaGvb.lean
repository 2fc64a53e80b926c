/- The exact law of GiveBlock: the walk. Conditions: none. -/
import Derived.Test.YtidkejmphhpjlaaGvi
import Derived.Test.YtidkejmphhpjlaaGvs
namespace Go.Proofs.Ytidkejmphhpjlaa.Wk
open Go.RowKit Go.Proofs.Ytidkejmphhpjlaa.Pl

/-- What a contract of GiveBlock says. -/
def GiveC (f : Nat) (l : List Blk) (t k : Int) (R : List Blk) (b : Bool) : Prop :=
  ∀ (A : Option Addr) (c : Nat) (w : World), Lst w w.heap.size A l.length l → l.length ≤ c → Calls Try.prog f #[.slice A l.length c, .int .i64 t, .int .i64 k] w (PostL R (.bool b) w)

theorem give_inv (l : List Blk) (t k : Int) (hl : l.length ≤ 1125899906842624) (hv : ¬ V l t) : GiveC 40 l t k [] false ∧ GiveC 41 l t k [] false :=
  ⟨fun A c w h _ => sGive_inv A _ c l t k w h hv hl, fun A c w h _ => iGive_inv A _ c l t k w h hv hl⟩
theorem give_no (l : List Blk) (t k : Int) (hv : V l t) (hn : ¬ ∃ j : Nat, k = j ∧ j < l.length ∧ (bk l j).u = true) : GiveC 40 l t k l false ∧ GiveC 41 l t k l false := by
  have hp := V_pos hv
  have hk : (k < 0 ∨ (l.length : Int) ≤ k) ∨ ∃ j : Nat, k = j ∧ j < l.length ∧ (bk l j).u = false := by
    by_cases h : k < 0 ∨ (l.length : Int) ≤ k
    · exact .inl h
    · obtain ⟨j, rfl⟩ := Int.eq_ofNat_of_zero_le (show 0 ≤ k by omega)
      refine .inr ⟨j, rfl, by omega, ?_⟩
      cases hu : (bk l j).u
      · rfl
      · exact absurd ⟨j, rfl, by omega, hu⟩ hn
  refine ⟨fun A c w h _ => ?_, fun A c w h _ => ?_⟩
  · obtain ⟨b, off, rfl⟩ := lst_some h hp
    exact sGive_no b off _ c l t k w h hv hk
  · obtain ⟨b, off, rfl⟩ := lst_some h hp
    exact iGive_no b off _ c l t k w h hv hk
theorem give_yes (l : List Blk) (t : Int) (j : Nat) (hv : V l t) (hj : j < l.length) (hu : (bk l j).u = true) : GiveC 40 l t j (give l j) true ∧ GiveC 41 l t j (give l j) true := by
  have hp := V_pos hv
  refine ⟨fun A c w h _ => ?_, fun A c w h _ => ?_⟩
  · obtain ⟨b, off, rfl⟩ := lst_some h hp
    exact sGive_yes b off _ c j l t w h hv hj hu
  · obtain ⟨b, off, rfl⟩ := lst_some h hp
    exact iGive_yes b off _ c j l t w h hv hj hu
theorem give_both (l : List Blk) (t k : Int) (hl : l.length ≤ 1048577) : ∃ R b, R.length ≤ 2097152 ∧ GiveC 40 l t k R b ∧ GiveC 41 l t k R b := by
  by_cases hv : V l t
  · by_cases ho : ∃ j : Nat, k = j ∧ j < l.length ∧ (bk l j).u = true
    · obtain ⟨j, rfl, hj, hu⟩ := ho
      exact ⟨_, true, by have := (give_len hv j).1; omega, give_yes l t j hv hj hu⟩
    · exact ⟨l, false, by omega, give_no l t k hv ho⟩
  · exact ⟨[], false, by simp, give_inv l t k (by omega) hv⟩

end Go.Proofs.Ytidkejmphhpjlaa.Wk
