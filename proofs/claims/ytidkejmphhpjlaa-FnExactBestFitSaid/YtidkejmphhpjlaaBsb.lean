/- bySize: the free blocks in the stable order of their sizes. Conditions: at most 20 blocks. -/
import Derived.Test.YtidkejmphhpjlaaBso
import Derived.Sort.Grow
namespace Go.Proofs.Ytidkejmphhpjlaa.Pl

/-- The free ones among the first k. -/
def fiN (l : List Blk) (k : Nat) : List Nat := (List.range k).filter fun i => !(bk l i).u
def fiv (l : List Blk) (k : Nat) : List Value := (fiN l k).map fun (i : Nat) => Value.int .i64 (i : Int)
theorem fiN_in {l : List Blk} {k : Nat} (h : (bk l k).u = false) : fiN l (k + 1) = fiN l k ++ [k] := by
  unfold fiN; rw [List.range_succ, List.filter_append]; simp [h]
theorem fiN_out {l : List Blk} {k : Nat} (h : (bk l k).u = true) : fiN l (k + 1) = fiN l k := by
  unfold fiN; rw [List.range_succ, List.filter_append]; simp [h]
theorem fiN_le (l : List Blk) (k : Nat) : (fiN l k).length ≤ k := by
  unfold fiN; have := List.length_filter_le (fun i => !(bk l i).u) (List.range k); simpa using this
theorem fiv_len (l : List Blk) (k : Nat) : (fiv l k).length = (fiN l k).length := by simp [fiv]
theorem fiN_mem {l : List Blk} {k i : Nat} : i ∈ fiN l k ↔ i < k ∧ (bk l i).u = false := by
  unfold fiN; simp [List.mem_filter]

/-- The free places, as an array of places. -/
def fiD (l : List Blk) (K : Nat) : Array (Fin (K + 1)) := ((fiN l (K + 1)).map fun i => (⟨i % (K + 1), Nat.mod_lt _ (Nat.succ_pos _)⟩ : Fin (K + 1))).toArray
theorem fiD_size (l : List Blk) (K : Nat) : (fiD l K).size = (fiN l (K + 1)).length := by simp [fiD]
theorem fiD_at {l : List Blk} {K j : Nat} (h : j < (fiN l (K + 1)).length) : (fiD l K)[j]!.val = (fiN l (K + 1))[j] := by
  have hlt : (fiN l (K + 1))[j] < K + 1 := (fiN_mem.1 (List.getElem_mem h)).1
  rw [getElem!_pos (fiD l K) j (by rw [fiD_size]; exact h)]
  simp [fiD, Nat.mod_eq_of_lt hlt]
theorem fiD_asc (l : List Blk) (K : Nat) : ∀ m q, m < q → q < (fiD l K).size → (fiD l K)[m]!.val < (fiD l K)[q]!.val := by
  intro m q hmq hq
  rw [fiD_size] at hq
  rw [fiD_at (show m < _ by omega), fiD_at hq]
  have hs : (fiN l (K + 1)).Pairwise (· < ·) := by unfold fiN; exact List.Pairwise.filter _ List.pairwise_lt_range
  exact List.pairwise_iff_getElem.1 hs m q _ hq hmq
theorem fiD_mem (l : List Blk) (K : Nat) (hl : l.length = K + 1) (i : Nat) : (i < l.length ∧ (bk l i).u = false) ↔ ∃ m, m < (fiD l K).size ∧ (fiD l K)[m]!.val = i := by
  rw [hl, ← fiN_mem]
  constructor
  · intro h
    obtain ⟨m, hm, e⟩ := List.getElem_of_mem h
    exact ⟨m, by rw [fiD_size]; exact hm, by rw [fiD_at hm, e]⟩
  · rintro ⟨m, hm, rfl⟩
    rw [fiD_size] at hm
    rw [fiD_at hm]
    exact List.getElem_mem hm
/-- A permutation has the same places. -/
theorem perm_mem {K : Nat} {d d' : Array (Fin (K + 1))} (h : Go.Sort.PermIn 0 d.size d d') (i : Nat) : (∃ m, m < d.size ∧ d[m]!.val = i) ↔ ∃ m, m < d'.size ∧ d'[m]!.val = i := by
  obtain ⟨hs, _, hp⟩ := h
  have key : ∀ (a : Array (Fin (K + 1))), a.size = d.size → ((∃ m, m < a.size ∧ a[m]!.val = i) ↔ ∃ x ∈ (a.extract 0 d.size).toList, x.val = i) := by
    intro a ha
    rw [Go.Sort.extract_toList a 0 d.size (by omega)]
    constructor
    · rintro ⟨m, hm, e⟩
      exact ⟨a[m]!, List.mem_map.2 ⟨m, by simp [List.mem_range']; omega, rfl⟩, e⟩
    · rintro ⟨x, hx, e⟩
      obtain ⟨m, hm, rfl⟩ := List.mem_map.1 hx
      simp [List.mem_range'] at hm
      exact ⟨m, by omega, e⟩
  rw [key d rfl, key d' hs]
  constructor
  · rintro ⟨x, hx, e⟩; exact ⟨x, hp.mem_iff.2 hx, e⟩
  · rintro ⟨x, hx, e⟩; exact ⟨x, hp.mem_iff.1 hx, e⟩

/-- The free places in the stable order of the sizes. -/
def fiS (l : List Blk) (K : Nat) : Array (Fin (K + 1)) := Go.Sort.insertionSort (ltz (fun i : Fin (K + 1) => i.val) l) (fiD l K) 0 (fiD l K).size
theorem fiS_holds (l : List Blk) (K : Nat) (hl : l.length = K + 1) : (fiS l K).size = (fiN l (K + 1)).length ∧ Go.Sort.SortedIn (ltx (fun i : Fin (K + 1) => i.val) l) 0 (fiS l K).size (fiS l K) ∧ ∀ i : Nat, (i < l.length ∧ (bk l i).u = false) ↔ ∃ m, m < (fiS l K).size ∧ (fiS l K)[m]!.val = i := by
  unfold fiS
  rw [sort_eq (fun i : Fin (K + 1) => i.val) l (fiD l K) (fiD_asc l K)]
  obtain ⟨h1, h2⟩ := Go.Sort.insertionSort_holds (swo_ltx (fun i : Fin (K + 1) => i.val) l) (fiD l K) 0 (fiD l K).size (Nat.zero_le _) (Nat.le_refl _)
  refine ⟨h1.1.trans (fiD_size l K), by rw [h1.1]; exact h2, fun i => ?_⟩
  rw [fiD_mem l K hl i]
  exact perm_mem h1 i

end Go.Proofs.Ytidkejmphhpjlaa.Pl
namespace Go.Proofs.Ytidkejmphhpjlaa.Wk
open Go.RowKit Go.Proofs.Ytidkejmphhpjlaa.Pl

theorem info_I : (Try.prog.info? 3).map (fun i => (i.zero, i.size, i.bytes)) = some (some (.int .i64 0), 1, 8) := by kernel_rfl
theorem elem_I : ElemOf Try.prog 50 3 1 8 := by
  obtain ⟨i0, hi, hz0, hz1, hz2⟩ := info_parts info_I
  exact ⟨Try.underlying50, ⟨i0, _, hi, hz0, hz1, hz2, rfl⟩, by omega⟩
theorem shows_one {w : World} {g : Nat} {u : Value} {T : TypeId} (h : Bk w g #[u] T) : Shows w w.heap.size 1 (some ⟨g, 0, none⟩) 1 [u] :=
  ⟨rfl, fun _ => ⟨g, 0, rfl, h.lt, fun j x hx => by
    rw [Nat.zero_add, h.cell j]
    simpa using hx⟩⟩
theorem emptyI (w : World) (H : Nat) (hH : w.heap.size = H) : (w.alloc (.cells #[] 3)).ownsRow H 3 1 (.slice (some ⟨H, 0, none⟩) 0 0) 0 [] := by
  subst hH
  exact ⟨rfl, .inr ⟨w.heap.size, 0, _, rfl, Nat.le_refl _, heap_alloc_new w _, Nat.le_refl _, by unfold maxLen; omega, rfl, rfl⟩⟩

theorem grown_sorted {α : Type} [Inhabited α] (enc : α → Value) {w : World} {g n : Nat} {os : Array Obj} (d : Array α) : w.grownBy (Go.Sort.grow (Go.Sort.putRow enc (Go.Sort.ahead w n) g 0 d) os) (some g) := by
  refine ⟨rfl, rfl, rfl, by simp [Go.Sort.grow], fun k hk hne => ?_⟩
  rw [Go.Sort.heap_grow_old _ _ (by simpa using hk)]
  have : g ≠ k := fun e => hne (by rw [e])
  simp [Go.Sort.putRow, Go.Sort.mapBlock, Go.Sort.ahead, Array.getElem?_modify, this]

/-- The two boxes of bySize and the places that it has gathered. -/
structure Idx (w wr : World) (V : Value) (l : List Blk) (k m cp : Nat) (A : Option Addr) : Prop where
  box1 : Bk wr w.heap.size #[V] 25
  box3 : Bk wr (w.heap.size + 2) #[.slice A m cp] 50
  row : wr.ownsRow (w.heap.size + 1) 3 1 (.slice A m cp) m (fiv l k)
  sep : ∀ kb, (Value.slice A m cp).ownBlock = some kb → kb ≠ w.heap.size + 2
  below : Below w.heap.size w wr
  some_ : A ≠ none

theorem rows_kept {w w' : World} {B n : Nat} {v : Value} {xs : List Value} {row : Option Nat} (h : w.ownsRow B 3 1 v n xs) (hg : w.grownBy w' row) (hne : ∀ b, v.ownBlock = some b → row ≠ some b) : w'.ownsRow B 3 1 v n xs := by
  refine h.kept hg ?_
  cases hv : v.ownBlock with
  | none => exact .inl rfl
  | some b => exact .inr (fun e => hne b hv e.symm)
theorem grown_alloc (w : World) (o : Obj) : w.grownBy (w.alloc o) none := ⟨rfl, rfl, rfl, by simp, fun k hk _ => Below.heap_alloc w o k hk⟩
theorem Idx.alloc {w wr : World} {V : Value} {l : List Blk} {k m cp : Nat} {A : Option Addr} (h : Idx w wr V l k m cp A) (o : Obj) : Idx w (wr.alloc o) V l k m cp A :=
  ⟨h.box1.alloc o, h.box3.alloc o, rows_kept h.row (grown_alloc wr o) (fun _ _ e => by cases e), h.sep, h.below.alloc h.below.size o, h.some_⟩

/-- One place more: the row has grown, and its box bears it. -/
theorem Idx.add {w W w7 : World} {V : Value} {l : List Blk} {k m cp N c : Nat} {A A' : Option Addr} (h : Idx w W V l k m cp A) (hu : (bk l k).u = false) (hN : N = m + 1)
    (hown : w7.ownsRow (w.heap.size + 1) 3 1 (.slice A' N c) N (fiv l k ++ [.int .i64 (k : Int)])) (hb : Below (w.heap.size + 1) W w7) (hgr : W.grownBy w7 (Value.slice A m cp).ownBlock) (hbl : (Value.slice A' N c).ownBlock = (Value.slice A m cp).ownBlock ∨ (Value.slice A' N c).ownBlock = some W.heap.size) :
    Idx w (w7.setCell ⟨w.heap.size + 2, 0, none⟩ (.slice A' N c)) V l (k + 1) N c A' := by
  have h3 : Bk w7 (w.heap.size + 2) #[.slice A m cp] 50 := (hgr.block _ h.box3.lt (fun e => h.sep _ e.symm rfl)).trans h.box3
  have hset : w7.grownBy (w7.setCell ⟨w.heap.size + 2, 0, none⟩ (.slice A' N c)) (some (w.heap.size + 2)) := ⟨rfl, rfl, rfl, by simp [World.setCell], fun b _ hne => Below.heap_setCell w7 ⟨w.heap.size + 2, 0, none⟩ _ b (fun e => hne (by rw [e]))⟩
  have hsep : ∀ kb, (Value.slice A' N c).ownBlock = some kb → kb ≠ w.heap.size + 2 := fun kb hk => by
    rcases hbl with hbl | hbl
    · rw [hbl] at hk; exact h.sep kb hk
    · rw [hbl] at hk; injection hk with hk; have := h.box3.lt; omega
  have e2 : fiv l (k + 1) = fiv l k ++ [.int .i64 (k : Int)] := by unfold fiv; rw [fiN_in hu]; simp
  have h7 := h3.set_ 0 (.slice A' N c)
  refine ⟨(h.box1.below hb (by omega)).far (q := ⟨w.heap.size + 2, 0, none⟩) (by show w.heap.size ≠ w.heap.size + 2; omega) _, h7, ?_, hsep, ?_, ?_⟩
  · rw [e2]; exact rows_kept hown hset (fun b hb e => hsep b hb (by injection e with e; exact e.symm))
  · exact (h.below.trans (hb.mono (Nat.le_succ _))).setCell (p := ⟨w.heap.size + 2, 0, none⟩) (by show w.heap.size ≤ w.heap.size + 2; omega) _
  · rcases hown.2 with ⟨_, h0⟩ | ⟨g, cap, cur, hv, _⟩
    · omega
    · injection hv with hv; rw [hv]; simp
theorem Idx.skip {w wr : World} {V : Value} {l : List Blk} {k m cp : Nat} {A : Option Addr} (h : Idx w wr V l k m cp A) (hu : (bk l k).u = true) : Idx w wr V l (k + 1) m cp A :=
  ⟨h.box1, h.box3, by have e : fiv l (k + 1) = fiv l k := by unfold fiv; rw [fiN_out hu]
                      rw [e]; exact h.row, h.sep, h.below, h.some_⟩

end Go.Proofs.Ytidkejmphhpjlaa.Wk
