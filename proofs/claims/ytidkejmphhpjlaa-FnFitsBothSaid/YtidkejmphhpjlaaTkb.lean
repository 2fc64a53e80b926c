/- TakeBlock: one result for the program and for the reference. Conditions: none. -/
import Derived.Test.YtidkejmphhpjlaaTks
namespace Go.Proofs.Ytidkejmphhpjlaa.Wk
open Go.RowKit Go.Proofs.Ytidkejmphhpjlaa.Pl

theorem lst_some {w : World} {B n : Nat} {A : Option Addr} {l : List Blk} (h : Lst w B A n l) (hn : 0 < n) : ∃ b off, A = some ⟨b, off, none⟩ := by
  obtain ⟨b, off, e, _⟩ := h.cells 0 hn
  exact ⟨b, off, e⟩

def TakeOk (l : List Blk) (k z : Int) : Prop := ∃ j : Nat, k = j ∧ j < l.length ∧ (bk l j).u = false ∧ 1 ≤ z ∧ z ≤ (bk l j).z

/-- What a contract of TakeBlock says: f is called on the list l. -/
def TakeC (f : Nat) (l : List Blk) (t k z : Int) (R : List Blk) (b : Bool) : Prop :=
  ∀ (A : Option Addr) (c : Nat) (w : World), Lst w w.heap.size A l.length l → l.length ≤ c → Calls Try.prog f #[.slice A l.length c, .int .i64 t, .int .i64 k, .int .i64 z] w (PostL R (.bool b) w)

theorem take_inv (l : List Blk) (t k z : Int) (hl : l.length ≤ 1125899906842624) (hv : ¬ V l t) :
    TakeC 35 l t k z [] false ∧ TakeC 30 l t k z [] false :=
  ⟨fun A c w h _ => sTake_inv A _ c l t k z w h hv hl, fun A c w h _ => iTake_inv A _ c l t k z w h hv hl⟩

theorem take_no (l : List Blk) (t k z : Int) (hv : V l t) (hn : ¬ TakeOk l k z) :
    TakeC 35 l t k z l false ∧ TakeC 30 l t k z l false := by
  have hp := V_pos hv
  by_cases hk : k < 0 ∨ (l.length : Int) ≤ k
  · refine ⟨fun A c w h _ => ?_, fun A c w h _ => ?_⟩
    · obtain ⟨b, off, rfl⟩ := lst_some h hp
      exact sTake_out b off _ c l t k z w h hv hk
    · obtain ⟨b, off, rfl⟩ := lst_some h hp
      exact iTake_out b off _ c l t k z w h hv hk
  · obtain ⟨j, rfl⟩ := Int.eq_ofNat_of_zero_le (show 0 ≤ k by omega)
    have hj : j < l.length := by omega
    by_cases hu : (bk l j).u = true
    · refine ⟨fun A c w h _ => ?_, fun A c w h _ => ?_⟩
      · obtain ⟨b, off, rfl⟩ := lst_some h hp
        exact sTake_bad b off _ c j l t z w h hv hj (.inl hu)
      · obtain ⟨b, off, rfl⟩ := lst_some h hp
        exact iTake_used b off _ c j l t z w h hv hj hu
    · have hu2 : (bk l j).u = false := by simpa using hu
      have hz : z < 1 ∨ (bk l j).z < z := by
        by_cases h : 1 ≤ z ∧ z ≤ (bk l j).z
        · exact absurd ⟨j, rfl, hj, hu2, h.1, h.2⟩ hn
        · omega
      refine ⟨fun A c w h _ => ?_, fun A c w h _ => ?_⟩
      · obtain ⟨b, off, rfl⟩ := lst_some h hp
        exact sTake_bad b off _ c j l t z w h hv hj (.inr hz)
      · obtain ⟨b, off, rfl⟩ := lst_some h hp
        exact iTake_size b off _ c j l t z w h hv hj hu2 hz

theorem take_yes (l : List Blk) (t z : Int) (j : Nat) (hv : V l t) (hj : j < l.length) (hu : (bk l j).u = false) (h1 : 1 ≤ z) (h2 : z ≤ (bk l j).z) :
    TakeC 35 l t j z (Pl.take l j z) true ∧ TakeC 30 l t j z (Pl.take l j z) true := by
  have hp := V_pos hv
  refine ⟨fun A c w h hc => ?_, fun A c w h hc => ?_⟩
  · obtain ⟨b, off, rfl⟩ := lst_some h hp
    exact sTake_yes b off _ c j l t z w h hc hv hj hu h1 h2
  · obtain ⟨b, off, rfl⟩ := lst_some h hp
    exact iTake_yes b off _ c j l t z w h hc hv hj hu h1 h2

/-- One result. -/
theorem take_both (l : List Blk) (t k z : Int) (hl : l.length ≤ 1048577) : ∃ R b, R.length ≤ 2097152 ∧
    TakeC 35 l t k z R b ∧ TakeC 30 l t k z R b := by
  by_cases hv : V l t
  · by_cases ho : TakeOk l k z
    · obtain ⟨j, rfl, hj, hu, h1, h2⟩ := ho
      exact ⟨_, true, by have := (take_len (size := z) hj).2; omega, take_yes l t z j hv hj hu h1 h2⟩
    · exact ⟨l, false, by omega, take_no l t k z hv ho⟩
  · exact ⟨[], false, by simp, take_inv l t k z (by omega) hv⟩

end Go.Proofs.Ytidkejmphhpjlaa.Wk
