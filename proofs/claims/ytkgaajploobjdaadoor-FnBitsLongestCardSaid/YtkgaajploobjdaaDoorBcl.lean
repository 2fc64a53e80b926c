/- The program's clone of bools. Conditions: a list that a slice reads as. -/
import Derived.Test.YtkgaajploobjdaaDoorBcp
namespace Go.Proofs.YtkgaajploobjdaaDoor.Wb
open Go.RowKit Go.Proofs.YtkgaajploobjdaaDoor.Pl Go.Proofs.YtkgaajploobjdaaDoor.Wk

/-- clone, whatever it is handed. -/
theorem clone_all (A : Option Addr) (n c B : Nat) (l : List Bool) (w : World) (h : Lst w B A n l) (hB : B ≤ w.heap.size) (hn : n ≤ 1048576) :
    Calls Tryd.prog 29 #[.slice A n c] w fun e w' => ∃ A' c', e = .returned (.slice A' n c') ∧ Own w' w.heap.size (.slice A' n c') l ∧ Below w.heap.size w w' := by
  have HK := Lib.hid (fun (w1 : World) (hb : Below w.heap.size w w1) => h.below hb hB)
  have HL := Lib.hid h.len
  clear h
  obtain ⟨i0, hi, hz0, hz1, hz2⟩ := info_parts info_B
  go_enter Tryd.func29, Tryd.ntmps29
  go_wp2_with (first
    | (at_make; refine wpList_make_own _ rfl _ _ 22 rfl w.heap.size 4 i0 _ 1 Tryd.underlying22 hi hz0 hz1 _ _ _ n rfl rfl rfl (by rw [hz2]; omega) (by unfold maxLen; omega) (Nat.le_refl _) ?_; intro w1 hown1 hgrow1; have hb1 : Below w.heap.size w w1 := ⟨hgrow1.os, hgrow1.tape, hgrow1.output, hgrow1.size, fun k hk => hgrow1.block k hk (by simp)⟩)
    | (at_builtin; refine append_b (by rfl) _ _ (by rfl) w.heap.size B [] l _ A n c (by rfl) hown1 (by rfl) (HK.out _ hb1) (by simp; omega) hb1.size n (by simp) ?_; intro A' c' w2 hown2 hb2 _ _))
  go_ret
  exact ⟨A', c', rfl, by simpa using hown2, hb1.trans (hb2.mono (Nat.le_refl _))⟩

end Go.Proofs.YtkgaajploobjdaaDoor.Wb
