/- How an argument that is a slice of blocks is opened. Conditions: none. -/
import Derived.Test.YtidkejmphhpjlaaCopy
import Derived.Deep.Slices
import Derived.Deep.Fields
namespace Go.Proofs.Ytidkejmphhpjlaa.Wk
open Go.ChangeShapes Go.WideShapes Go.ChangeAt Go.RowKit Go.Proofs.Ytidkejmphhpjlaa.Pl

/-- A slice of blocks that came in. -/
structure InBlk (w : World) (A : Option Addr) (n : Nat) (l : List Blk) : Prop where
  lst : Lst w w.heap.size A n l
  max : n ≤ maxLen

theorem open_blocks {H : Type} {enc : TypeId × Value → H} {W : World} {base : Nat} {v : Value} {d : DataW H} {p : List MemPlace}
    (hv : Value.okWide Try.prog W .any base 22 v) (h : DataW.Trod enc Try.prog W 0 (fun _ => true) true 22 v d p) :
    ∃ a len cap l, v = .slice a len cap ∧ InBlk W a len l := by
  obtain ⟨a, len, cap, rfl⟩ := okWide_slice Try.underlying22 hv
  obtain ⟨fuel, hf⟩ := h
  rcases Go.Deep.open_slice Try.underlying22 hf with ⟨hcs, _⟩ | ⟨x, l', c', m, n, D, Pl, hcs, _, hl, hm, hmm, _, hi⟩
  · simp [Value.cells] at hcs
    obtain ⟨rfl, rfl, rfl⟩ := hcs
    exact ⟨_, _, _, [], rfl, ⟨⟨rfl, fun k hk => by omega⟩, by unfold maxLen; omega⟩⟩
  · simp [Value.cells] at hcs
    obtain ⟨rfl, rfl, rfl⟩ := hcs
    simp only [if_true] at hmm
    have hC : Try.prog.cellsOf 49 = 3 := by kernel_rfl
    have key : ∀ i, ∃ b : Blk, i < len → W.cell? (x.add (i * 3)) = some (.int .i64 b.s) ∧ W.cell? (x.add (i * 3 + 1)) = some (.int .i64 b.z) ∧ W.cell? (x.add (i * 3 + 2)) = some (.bool b.u) := by
      intro i
      by_cases hlt : i < len
      · obtain ⟨cs', hc, ht⟩ := hi i (by omega)
        rw [hC] at hc
        obtain ⟨_, hcl, hat⟩ := World.cells?_some hc
        obtain ⟨ys, n', _, _, _, hys, hfld⟩ := DataW.trod_struct Try.underlying49 ht
        match cs', hcl with
        | [x0, x1, x2], _ =>
          have c3 : Try.prog.cellsOf 3 = 1 := by kernel_rfl
          have c4 : Try.prog.cellsOf 4 = 1 := by kernel_rfl
          have h0 : DataW.trod enc Try.prog W 0 (fun _ => true) true n' 3 [x0] = ys[0]? := by
            have h : DataW.trod enc Try.prog W 0 (fun _ => true) true n' 3 (List.take (Try.prog.cellsOf 3) (List.drop 0 [x0, x1, x2])) = ys[0]? := hfld 0 _ rfl
            rw [c3] at h
            exact h
          have h1 : DataW.trod enc Try.prog W 0 (fun _ => true) true n' 3 [x1] = ys[1]? := by
            have h : DataW.trod enc Try.prog W 0 (fun _ => true) true n' 3 (List.take (Try.prog.cellsOf 3) (List.drop 1 [x0, x1, x2])) = ys[1]? := hfld 1 _ rfl
            rw [c3] at h
            exact h
          have h2 : DataW.trod enc Try.prog W 0 (fun _ => true) true n' 4 [x2] = ys[2]? := by
            have h : DataW.trod enc Try.prog W 0 (fun _ => true) true n' 4 (List.take (Try.prog.cellsOf 4) (List.drop 2 [x0, x1, x2])) = ys[2]? := hfld 2 _ rfl
            rw [c4] at h
            exact h
          cases e0 : ys[0]? with
          | none =>
            simp at e0
            subst e0
            simp at hys
          | some y0 =>
            cases e1 : ys[1]? with
            | none => simp at e1; have : ys.length = 3 := hys; omega
            | some y1 =>
              cases e2 : ys[2]? with
              | none => simp at e2; have : ys.length = 3 := hys; omega
              | some y2 =>
                rw [e0] at h0; rw [e1] at h1; rw [e2] at h2
                obtain ⟨s, q0, _, _⟩ := DataW.trod_int Try.underlying3 h0
                obtain ⟨z, q1, _, _⟩ := DataW.trod_int Try.underlying3 h1
                obtain ⟨u, q2, _⟩ := DataW.trod_bool Try.underlying4 h2
                simp only [List.cons.injEq, and_true] at q0 q1 q2
                subst q0 q1 q2
                refine ⟨⟨s, z, u⟩, fun _ => ⟨?_, ?_, ?_⟩⟩
                · simpa [Go.Deep.add_add] using hat 0 (by omega)
                · simpa [Go.Deep.add_add] using hat 1 (by omega)
                · simpa [Go.Deep.add_add] using hat 2 (by omega)
      · exact ⟨⟨0, 0, false⟩, fun h => absurd h hlt⟩
    obtain ⟨f, hf'⟩ := Classical.axiomOfChoice key
    refine ⟨_, _, _, (List.range len).map f, rfl, ⟨⟨by simp, fun k hk => ?_⟩, by omega⟩⟩
    obtain ⟨q0, q1, q2⟩ := hf' k hk
    have hb : bk ((List.range len).map f) k = f k := by rw [bk_eq (by simpa using hk)]; simp
    have hlt : x.block < W.heap.size := by
      have hbk : ∀ j, (x.add j).block = x.block := by intro j; unfold Addr.add; split <;> rfl
      have := World.block_lt_of_cell? W _ q0
      rwa [hbk] at this
    obtain ⟨b, off, spot⟩ := x
    have hspot : spot = none := by
      obtain ⟨z0, _, _⟩ := hf' 0 (by omega)
      simpa [Addr.add] using World.cell?_spot z0
    subst hspot
    have hadd : ∀ j, (⟨b, off, none⟩ : Addr).add j = ⟨b, off + j, none⟩ := by intro j; unfold Addr.add; split <;> simp_all
    rw [hadd] at q0 q1 q2
    rw [hb]
    exact ⟨b, off, rfl, hlt, q0, by rw [Nat.add_assoc]; exact q1, by rw [Nat.add_assoc]; exact q2⟩

/-- The list reads the same in a later world. -/
theorem Lst.up {w w' : World} {B B' B2 : Nat} {A : Option Addr} {n : Nat} {l : List Blk} (h : Lst w B A n l) (hb : Below B' w w') (hB : B ≤ B') (h2 : B ≤ B2) : Lst w' B2 A n l :=
  ⟨h.len, fun k hk => by
    obtain ⟨b, off, e, q, r⟩ := (h.below hb hB).cells k hk
    exact ⟨b, off, e, by omega, r⟩⟩

end Go.Proofs.Ytidkejmphhpjlaa.Wk
