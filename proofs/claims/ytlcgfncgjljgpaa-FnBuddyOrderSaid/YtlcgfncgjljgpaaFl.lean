/- freeLists: the free buddies of every order. Conditions: a list that a slice of buddies reads as, of orders from 0 to 8. -/
import Derived.Test.YtlcgfncgjljgpaaVu
import Derived.Test.YtlcgfncgjljgpaaApdU
import Derived.Deep.RegionHeld3
import Derived.Deep.RegionWith
namespace Go.Proofs.Ytlcgfncgjljgpaa.Wu
open Go.RowKit Go.Proofs.Ytlcgfncgjljgpaa.Pl Go.Proofs.Ytlcgfncgjljgpaa.Wk

/-- The free ones of order o among the first k. -/
def fl (l : List Blk) (k o : Nat) : List Nat := (List.range k).filter fun i => !(bk l i).u && decide ((bk l i).z = (o : Int))
def flc (l : List Blk) (k o : Nat) : List Value := (fl l k o).map fun (i : Nat) => Value.int .i64 (i : Int)

theorem fl_step_in {l : List Blk} {k o : Nat} (h : (bk l k).u = false) (hz : (bk l k).z = (o : Int)) : fl l (k + 1) o = fl l k o ++ [k] := by
  unfold fl; rw [List.range_succ, List.filter_append]; simp [h, hz]
theorem fl_step_out {l : List Blk} {k o : Nat} (h : (bk l k).u = true ∨ (bk l k).z ≠ (o : Int)) : fl l (k + 1) o = fl l k o := by
  unfold fl; rw [List.range_succ, List.filter_append]
  rcases h with h | h <;> simp [h]
theorem fl_le (l : List Blk) (k o : Nat) : (fl l k o).length ≤ k := by
  unfold fl; have := List.length_filter_le (fun i => !(bk l i).u && decide ((bk l i).z = (o : Int))) (List.range k); simpa using this
theorem flc_len (l : List Blk) (k o : Nat) : (flc l k o).length = (fl l k o).length := by simp [flc]

theorem info_I : (Try.prog.info? 3).map (fun i => (i.zero, i.size, i.bytes)) = some (some (.int .i64 0), 1, 8) := by kernel_rfl
theorem elem_I : ElemOf Try.prog 56 3 1 8 := by
  obtain ⟨i0, hi, hz0, hz1, hz2⟩ := info_parts info_I
  exact ⟨Try.underlying56, ⟨i0, _, hi, hz0, hz1, hz2, rfl⟩, by omega⟩

/-- The lists stand in the array at block g, each in memory of its own from block B on. -/
structure FlR (wr : World) (g B : Nat) (l : List Blk) (k : Nat) (V : Nat → Value) : Prop where
  arr : Bk wr g #[V 0, V 1, V 2, V 3, V 4, V 5, V 6, V 7, V 8] 61
  row : ∀ o, o < 9 → wr.ownsRow B 3 1 (V o) (fl l k o).length (flc l k o)
  sep : ∀ o o', o < 9 → o' < 9 → o ≠ o' → ∀ b, (V o).ownBlock = some b → (V o').ownBlock ≠ some b

theorem rows_kept {w w' : World} {B n : Nat} {v : Value} {xs : List Value} {row : Option Nat} (h : w.ownsRow B 3 1 v n xs) (hg : w.grownBy w' row) (hne : ∀ b, v.ownBlock = some b → row ≠ some b) : w'.ownsRow B 3 1 v n xs := by
  refine h.kept hg ?_
  cases hv : v.ownBlock with
  | none => exact .inl rfl
  | some b => exact .inr (fun e => hne b hv e.symm)

/-- The array with one list turned. -/
def upd (V : Nat → Value) (o : Nat) (v : Value) : Nat → Value := fun i => if i = o then v else V i
theorem upd_arr (V : Nat → Value) {o : Nat} (ho : o < 9) (v : Value) : (#[V 0, V 1, V 2, V 3, V 4, V 5, V 6, V 7, V 8] : Array Value).setIfInBounds o v = #[upd V o v 0, upd V o v 1, upd V o v 2, upd V o v 3, upd V o v 4, upd V o v 5, upd V o v 6, upd V o v 7, upd V o v 8] := by
  have hc : o = 0 ∨ o = 1 ∨ o = 2 ∨ o = 3 ∨ o = 4 ∨ o = 5 ∨ o = 6 ∨ o = 7 ∨ o = 8 := by omega
  rcases hc with rfl | rfl | rfl | rfl | rfl | rfl | rfl | rfl | rfl <;> rfl
theorem arr_at (V : Nat → Value) {o : Nat} (ho : o < 9) : (#[V 0, V 1, V 2, V 3, V 4, V 5, V 6, V 7, V 8] : Array Value)[o]? = some (V o) := by
  have hc : o = 0 ∨ o = 1 ∨ o = 2 ∨ o = 3 ∨ o = 4 ∨ o = 5 ∨ o = 6 ∨ o = 7 ∨ o = 8 := by omega
  rcases hc with rfl | rfl | rfl | rfl | rfl | rfl | rfl | rfl | rfl <;> rfl

/-- One of order o more. -/
theorem FlR.add {W w7 : World} {g B : Nat} {l : List Blk} {k : Nat} {V : Nat → Value} (h : FlR W g B l k V) {o N c : Nat} {A : Option Addr} (ho : o < 9) (hgB : g < B) (hu : (bk l k).u = false) (hz : (bk l k).z = (o : Int))
    (hN : N = (fl l k o).length + 1) (hown : w7.ownsRow B 3 1 (.slice A N c) N (flc l k o ++ [.int .i64 (k : Int)])) (hgr : W.grownBy w7 (V o).ownBlock) (hbl : (Value.slice A N c).ownBlock = (V o).ownBlock ∨ ∃ b, W.heap.size ≤ b ∧ (Value.slice A N c).ownBlock = some b) :
    FlR (w7.setCell ⟨g, o, none⟩ (.slice A N c)) g B l (k + 1) (upd V o (.slice A N c)) := by
  have hgne : ∀ b, (V o).ownBlock = some b → b ≠ g := fun b hb => by have := (h.row o ho).lt b hb; omega
  have harr : Bk w7 g #[V 0, V 1, V 2, V 3, V 4, V 5, V 6, V 7, V 8] 61 := (hgr.block g h.arr.lt (fun e => hgne g e.symm rfl)).trans h.arr
  have hset : w7.grownBy (w7.setCell ⟨g, o, none⟩ (.slice A N c)) (some g) := ⟨rfl, rfl, rfl, by simp [World.setCell], fun b _ hne => Below.heap_setCell w7 ⟨g, o, none⟩ _ b (fun e => hne (by rw [e]))⟩
  refine ⟨?_, fun p hp => ?_, fun p p' hp hp' hne b hb => ?_⟩
  · have := harr.set_ o (.slice A N c)
    rwa [upd_arr V ho] at this
  · by_cases e : p = o
    · subst e
      have e1 : upd V p (.slice A N c) p = .slice A N c := by simp [upd]
      have e2 : flc l (k + 1) p = flc l k p ++ [.int .i64 (k : Int)] := by unfold flc; rw [fl_step_in hu hz]; simp
      have e3 : (fl l (k + 1) p).length = N := by rw [fl_step_in hu hz, hN]; simp
      rw [e1, e2, e3]
      exact rows_kept hown hset (fun b hb e => by have := (hown.lt b hb).1; injection e with e; omega)
    · have e1 : upd V o (.slice A N c) p = V p := by simp [upd, e]
      have e2 : fl l (k + 1) p = fl l k p := fl_step_out (.inr (fun e' => e (by omega)))
      have e3 : flc l (k + 1) p = flc l k p := by unfold flc; rw [e2]
      rw [e1, e2, e3]
      refine rows_kept (rows_kept (h.row p hp) hgr (fun b hb e' => ?_)) hset (fun b hb e' => ?_)
      · exact h.sep o p ho hp (fun e' => e e'.symm) b e' hb
      · have := ((h.row p hp).lt b hb).1; injection e' with e'; omega
  · by_cases e : p = o
    · subst e
      have e1 : upd V p (.slice A N c) p = .slice A N c := by simp [upd]
      have e2 : upd V p (.slice A N c) p' = V p' := by simp [upd, hne.symm]
      rw [e1] at hb
      rw [e2]
      rcases hbl with hbl | ⟨b', hb1, hb2⟩
      · rw [hbl] at hb; exact h.sep p p' hp hp' hne b hb
      · rw [hb2] at hb; injection hb with hb; subst hb
        intro e3
        have := ((h.row p' hp').lt _ e3).2
        omega
    · have e1 : upd V o (.slice A N c) p = V p := by simp [upd, e]
      rw [e1] at hb
      by_cases e' : p' = o
      · subst e'
        have e2 : upd V p' (.slice A N c) p' = .slice A N c := by simp [upd]
        rw [e2]
        rcases hbl with hbl | ⟨b', hb1, hb2⟩
        · rw [hbl]; exact h.sep p p' hp hp' hne b hb
        · rw [hb2]; intro e3; injection e3 with e3; subst e3
          have := ((h.row p hp).lt _ hb).2
          omega
      · have e2 : upd V o (.slice A N c) p' = V p' := by simp [upd, e']
        rw [e2]
        exact h.sep p p' hp hp' hne b hb
/-- None more. -/
theorem FlR.skip {W w7 : World} {g B : Nat} {l : List Blk} {k : Nat} {V : Nat → Value} (h : FlR W g B l k V) (hb : Below W.heap.size W w7) (hu : (bk l k).u = true) : FlR w7 g B l (k + 1) V :=
  ⟨h.arr.below hb h.arr.lt, fun o ho => by
    have e2 : fl l (k + 1) o = fl l k o := fl_step_out (.inl hu)
    have e3 : flc l (k + 1) o = flc l k o := by unfold flc; rw [e2]
    rw [e2, e3]
    exact rows_kept (row := none) (h.row o ho) ⟨hb.os, hb.tape, hb.output, hb.size, fun b hb' _ => hb.block b hb'⟩ (fun b _ => by simp), h.sep⟩
theorem FlR.keep {W w7 : World} {g B : Nat} {l : List Blk} {k : Nat} {V : Nat → Value} (h : FlR W g B l k V) (hb : Below W.heap.size W w7) : FlR w7 g B l k V :=
  ⟨h.arr.below hb h.arr.lt, fun o ho => rows_kept (row := none) (h.row o ho) ⟨hb.os, hb.tape, hb.output, hb.size, fun b hb' _ => hb.block b hb'⟩ (fun b _ => by simp), h.sep⟩

end Go.Proofs.Ytlcgfncgjljgpaa.Wu
