/- Slices of bools in memory: what they read as, what the call itself made. Conditions: none. -/
import Derived.Test.YtkgaajploobjdaaDoorFr
import Derived.Test.YtkgaajploobjdaaDoorApx
import Derived.Test.YtkgaajploobjdaaDoorBit
import Derived.Lib.Hide
import Derived.BigQuiet
import Derived.Deep.QuietTactic
import Derived.Outline
import Derived.Deep.Grids
namespace Go.Proofs.YtkgaajploobjdaaDoor.Wb
open Go.ChangeShapes Go.WideShapes Go.ChangeAt Go.RowKit Go.Proofs.YtkgaajploobjdaaDoor.Pl Go.Proofs.YtkgaajploobjdaaDoor.Wk

/-- The slice at A with n bools reads as the list l, from below block number B. -/
structure Lst (w : World) (B : Nat) (A : Option Addr) (n : Nat) (l : List Bool) : Prop where
  len : n = l.length
  cells : ∀ k, k < n → ∃ b off, A = some ⟨b, off, none⟩ ∧ b < B ∧ w.cell? ⟨b, off + k, none⟩ = some (.bool (ub l k))

theorem Lst.below {w w' : World} {B B' : Nat} {A : Option Addr} {n : Nat} {l : List Bool} (h : Lst w B A n l) (hb : Below B' w w') (hB : B ≤ B') : Lst w' B A n l :=
  ⟨h.len, fun k hk => by
    obtain ⟨b, off, rfl, h1, h2⟩ := h.cells k hk
    exact ⟨b, off, rfl, h1, (hb.cell (p := ⟨b, off + k, none⟩) (by show b < B'; omega)).trans h2⟩⟩
theorem Lst.up {w w' : World} {B B' B2 : Nat} {A : Option Addr} {n : Nat} {l : List Bool} (h : Lst w B A n l) (hb : Below B' w w') (hB : B ≤ B') (h2 : B ≤ B2) : Lst w' B2 A n l :=
  ⟨h.len, fun k hk => by
    obtain ⟨b, off, e, q, r⟩ := (h.below hb hB).cells k hk
    exact ⟨b, off, e, by omega, r⟩⟩
theorem lst_up {w w' : World} {A : Option Addr} {n : Nat} {l : List Bool} (h : Lst w w.heap.size A n l) (hb : Below w.heap.size w w') : Lst w' w'.heap.size A n l := h.up hb (Nat.le_refl _) hb.size

/-- A slice of bools that came in. -/
structure InB (w : World) (A : Option Addr) (n : Nat) (l : List Bool) : Prop where
  lst : Lst w w.heap.size A n l
  max : n ≤ maxLen

theorem open_bools {H : Type} {enc : TypeId × Value → H} {W : World} {base : Nat} {v : Value} {d : DataW H} {p : List MemPlace}
    (hv : Value.okWide Tryd.prog W .any base 22 v) (h : DataW.Trod enc Tryd.prog W 0 (fun _ => true) true 22 v d p) :
    ∃ a len cap l, v = .slice a len cap ∧ InB W a len l := by
  obtain ⟨a, len, cap, rfl⟩ := okWide_slice Tryd.underlying22 hv
  obtain ⟨fuel, hf⟩ := h
  rcases Go.Deep.open_bools Tryd.underlying22 Tryd.underlying4 (by kernel_rfl) hf with ⟨hcs, _⟩ | ⟨x, l', c', Bf, hcs, _, hl, hm, _, hcell⟩
  · simp [Value.cells] at hcs
    obtain ⟨rfl, rfl, rfl⟩ := hcs
    exact ⟨_, _, _, [], rfl, ⟨⟨rfl, fun k hk => by omega⟩, by unfold maxLen; omega⟩⟩
  · simp [Value.cells] at hcs
    obtain ⟨rfl, rfl, rfl⟩ := hcs
    refine ⟨_, _, _, (List.range len).map Bf, rfl, ⟨⟨by simp, fun k hk => ?_⟩, by omega⟩⟩
    have hck := hcell k (by omega)
    have hc0 := hcell 0 (by omega)
    obtain ⟨b, off, spot⟩ := x
    have hspot : spot = none := by simpa [Addr.add] using World.cell?_spot hc0
    subst hspot
    rw [addr_plus] at hck
    have e : ub ((List.range len).map Bf) k = Bf k := by rw [ub_eq (by simpa using hk)]; simp
    rw [e]
    exact ⟨b, off, rfl, World.block_lt_of_cell? W _ hck, hck⟩

/-- The cells of a list of bools. -/
def cellsB (l : List Bool) : List Value := l.map Value.bool
theorem cellsB_append (a b : List Bool) : cellsB (a ++ b) = cellsB a ++ cellsB b := by simp [cellsB]
theorem cellsB_length (l : List Bool) : (cellsB l).length = l.length := by simp [cellsB]
theorem cellsB_one (l : List Bool) : ∀ u ∈ cellsB l, u.oneCell' = true := by
  intro u hu
  obtain ⟨b, _, rfl⟩ := List.mem_map.1 hu
  rfl
theorem cellsB_get {l : List Bool} {k : Nat} (h : k < l.length) : (cellsB l)[k]? = some (.bool (ub l k)) := by
  rw [ub_eq h]; simp [cellsB, h]
theorem cellsB_set (l : List Bool) (k : Nat) (v : Bool) : cellsB (l.set k v) = (cellsB l).set k (.bool v) := by simp [cellsB]

/-- The value v is a slice of the call's own, from block number B on, that holds the list l. -/
def Own (w : World) (B : Nat) (v : Value) (l : List Bool) : Prop := w.ownsRow B 4 1 v l.length (cellsB l)

theorem info_B : (Tryd.prog.info? 4).map (fun i => (i.zero, i.size, i.bytes)) = some (some (.bool false), 1, 1) := by kernel_rfl
theorem elem_B : ElemOf Tryd.prog 22 4 1 1 := by
  obtain ⟨i0, hi, hz0, hz1, hz2⟩ := info_parts info_B
  exact ⟨Tryd.underlying22, ⟨i0, _, hi, hz0, hz1, hz2, rfl⟩, by omega⟩

theorem Lst.shows {w : World} {B n : Nat} {A : Option Addr} {l : List Bool} (h : Lst w B A n l) : Shows w B 1 A n (cellsB l) := by
  refine ⟨by rw [cellsB_length, h.len]; omega, fun hn => ?_⟩
  obtain ⟨b, off, rfl, hb, _⟩ := h.cells 0 hn
  refine ⟨b, off, rfl, hb, fun j u hu => ?_⟩
  have hj : j < l.length := by
    rw [← cellsB_length]
    rcases Nat.lt_or_ge j (cellsB l).length with h1 | h1
    · exact h1
    · rw [List.getElem?_eq_none h1] at hu; cases hu
  obtain ⟨b', off', e, _, c0⟩ := h.cells j (by rw [h.len]; exact hj)
  simp only [Option.some.injEq, Addr.mk.injEq, and_true] at e
  obtain ⟨rfl, rfl⟩ := e
  rw [c0, ← cellsB_get hj, hu]

theorem own_of {w : World} {B : Nat} {v : Value} {l : List Bool} {n : Nat} {xs : List Value} (h : w.ownsRow B 4 1 v n xs) (hn : n = l.length) (hx : xs = cellsB l) : Own w B v l := by
  subst hn hx; exact h
theorem own_form {w : World} {B : Nat} {A : Option Addr} {n c : Nat} {l : List Bool} (h : Own w B (.slice A n c) l) : n = l.length ∧ (0 < n → ∃ g, A = some ⟨g, 0, none⟩ ∧ B ≤ g ∧ g < w.heap.size) := by
  rcases h.2 with ⟨hv, hn⟩ | ⟨g, cap, cur, hv, hB, hg, _⟩
  · injection hv with _ h2 _
    exact ⟨by omega, fun h => by omega⟩
  · injection hv with h1 h2 _
    subst h1
    exact ⟨h2, fun _ => ⟨g, rfl, hB, (Array.getElem?_eq_some_iff.1 hg).1⟩⟩
theorem Own.lst {w : World} {B : Nat} {v : Value} {l : List Bool} (h : Own w B v l) : ∃ A c, v = .slice A l.length c ∧ Lst w w.heap.size A l.length l ∧ l.length ≤ c := by
  obtain ⟨A, c, rfl, hs, hc⟩ := row_form h
  refine ⟨A, c, rfl, ⟨rfl, fun k hk => ?_⟩, hc⟩
  obtain ⟨b, off, rfl, hb, hcell⟩ := hs.2 (by omega)
  exact ⟨b, off, rfl, hb, hcell k _ (cellsB_get hk)⟩
theorem own_lst {w : World} {B : Nat} {A : Option Addr} {n c : Nat} {l : List Bool} (h : Own w B (.slice A n c) l) : Lst w w.heap.size A l.length l := by
  obtain ⟨A', c', e, hl, _⟩ := h.lst
  injection e with e1 e2 e3
  subst e1
  exact hl
theorem own_cap {w : World} {B : Nat} {A : Option Addr} {n c : Nat} {l : List Bool} (h : Own w B (.slice A n c) l) : l.length ≤ c := by
  obtain ⟨A', c', e, _, hc⟩ := h.lst
  injection e with _ _ e3
  omega
theorem own_lstn {w : World} {B : Nat} {A : Option Addr} {n c : Nat} {l : List Bool} (h : Own w B (.slice A n c) l) : Lst w w.heap.size A n l := by
  have e := (own_form h).1
  have := own_lst h
  rw [← e] at this; exact this
theorem own_at {w : World} {B : Nat} {v : Value} {l : List Bool} (h : Own w B v l) : ∀ k, v.ownBlock = some k → B ≤ k ∧ k < w.heap.size := h.lt
theorem own_past {w w' : World} {B : Nat} {v : Value} {l : List Bool} {row : Option Nat} (h : Own w B v l) (hg : w.grownBy w' row) (hne : ∀ k, v.ownBlock = some k → row ≠ some k) : Own w' B v l := by
  refine h.kept hg ?_
  cases hv : v.ownBlock with
  | none => exact .inl rfl
  | some k => exact .inr (fun e => hne k hv e.symm)
theorem Own.below {w w' : World} {B : Nat} {v : Value} {l : List Bool} (h : Own w B v l) (hb : Below w.heap.size w w') : Own w' B v l :=
  own_past (row := none) h ⟨hb.os, hb.tape, hb.output, hb.size, fun k hk _ => hb.block k hk⟩ (fun k _ => by simp)
theorem Own.mono {w : World} {B B' : Nat} {v : Value} {l : List Bool} (h : Own w B v l) (hB : B' ≤ B) : Own w B' v l := by
  refine ⟨h.1, ?_⟩
  rcases h.2 with h2 | ⟨g, cap, cur, hv, hg, r⟩
  · exact .inl h2
  · exact .inr ⟨g, cap, cur, hv, by omega, r⟩
theorem Own.nil (w : World) (B : Nat) : Own w B (.slice none 0 0) [] := ⟨rfl, .inl ⟨rfl, rfl⟩⟩
theorem own_empty (w : World) : Own (w.alloc (.cells #[] 4)) w.heap.size (.slice (some ⟨w.heap.size, 0, none⟩) 0 0) [] :=
  ⟨rfl, .inr ⟨w.heap.size, 0, _, rfl, Nat.le_refl _, heap_alloc_new w _, Nat.le_refl _, by unfold maxLen; omega, rfl, rfl⟩⟩
theorem own_emptyH (w : World) (H : Nat) (hH : w.heap.size = H) : Own (w.alloc (.cells #[] 4)) H (.slice (some ⟨H, 0, none⟩) 0 0) [] := by
  subst hH; exact own_empty w
/-- A store into the call's own bools. -/
theorem own_set {w : World} {B g N cp : Nat} {l : List Bool} (h : Own w B (.slice (some ⟨g, 0, none⟩) N cp) l) (i : Nat) (x : Bool) : Own (w.setCell ⟨g, i, none⟩ (.bool x)) B (.slice (some ⟨g, 0, none⟩) N cp) (l.set i x) := by
  obtain ⟨hN, _⟩ := own_form h
  subst hN
  have h1 := (World.ownsRow.stored (show w.ownsRow B 4 1 (.slice (some ⟨g, 0, none⟩) l.length cp) l.length (cellsB l) from h) i (.bool x)).1
  rw [← cellsB_set] at h1
  exact own_of h1 (by simp) rfl
theorem own_frozen {w : World} {B g N cp : Nat} {l : List Bool} (h : Own w B (.slice (some ⟨g, 0, none⟩) N cp) l) (j : Nat) : w.frozen? ⟨g, j, none⟩ = false := by
  obtain ⟨hN, _⟩ := own_form h
  subst hN
  exact World.ownsRow.frozenAt (show w.ownsRow B 4 1 (.slice (some ⟨g, 0, none⟩) l.length cp) l.length (cellsB l) from h) j

/-- append of bools, in a plain region. -/
theorem append_b {ops : Array Oper} {rest : List Oper} {o : Oper} {a : Act} {w : World} {Q : Exit → Act → World → Prop} (hgd : o.guard = none) (s x : Operand)
    (ho : o.op = .call { callee := .builtin .append, args := #[s, x], argTypes := #[22, 22] })
    (B B2 : Nat) (l l2 : List Bool) (v : Value) (A : Option Addr) (m c : Nat) (hs : a.eval s = v) (hown : Own w B v l) (hx : a.eval x = .slice A m c) (hr : Lst w B2 A m l2) (hn : l.length + m ≤ 2097152) (hB : B ≤ w.heap.size) (N : Nat) (hN : N = l.length + m)
    (h : ∀ A' c' w', Own w' B (.slice A' N c') (l ++ l2) → Below B w w' → w.grownBy w' v.ownBlock → ((Value.slice A' N c').ownBlock = v.ownBlock ∨ (Value.slice A' N c').ownBlock = some w.heap.size) → wpList Tryd.prog ops Q rest (a.put o.dst (.slice A' N c')) w') :
    wpList Tryd.prog ops Q (o :: rest) a w :=
  append_shown elem_B hgd s x ho B B2 v l.length m c (cellsB l) (cellsB l2) A hs hown hx hr.shows (cellsB_one _) (by unfold maxLen; omega) (by omega) hB N hN
    (fun A' c' w' h2 => h A' c' w' (own_of h2 (by rw [hN, List.length_append, hr.len]) (by rw [cellsB_append])))

/-- A list in memory of the call's own, in a block from lo on and below hi. -/
structure Slot (w : World) (lo hi : Nat) (v : Value) (l : List Bool) : Prop where
  own : Own w lo v l
  top : ∀ k, v.ownBlock = some k → k < hi
theorem Own.slot {w : World} {B : Nat} {v : Value} {l : List Bool} (h : Own w B v l) : Slot w B w.heap.size v l := ⟨h, fun k hk => (own_at h k hk).2⟩
theorem Slot.below {w w' : World} {lo hi : Nat} {v : Value} {l : List Bool} (h : Slot w lo hi v l) (hb : Below w.heap.size w w') : Slot w' lo hi v l := ⟨h.own.below hb, h.top⟩
theorem Slot.past {w w' : World} {lo hi lo' hi' : Nat} {v v' : Value} {l l' : List Bool} (h : Slot w lo hi v l) (h' : Slot w lo' hi' v' l') (hg : w.grownBy w' v'.ownBlock) (hd : hi ≤ lo' ∨ hi' ≤ lo) : Slot w' lo hi v l :=
  ⟨own_past h.own hg (fun k hk e => by
    have a1 := h.top k hk
    have a2 := own_at h.own k hk
    have a3 := h'.top k e
    have a4 := own_at h'.own k e
    omega), h.top⟩
theorem Slot.lst {w : World} {lo hi n c : Nat} {A : Option Addr} {l : List Bool} (h : Slot w lo hi (.slice A n c) l) : Lst w w.heap.size A l.length l := own_lst h.own

/-- A call that returns the list R, in memory of its own, and the value x beside it. -/
def PostL (R : List Bool) (x : Value) (w : World) (e : Ending) (w' : World) : Prop :=
  ∃ A c, e = .returned (.tuple #[.slice A R.length c, x]) ∧ Own w' w.heap.size (.slice A R.length c) R ∧ Below w.heap.size w w'
theorem postL_of {R : List Bool} {x : Value} {w w' : World} {e : Ending} (h : ∃ v, e = .returned (.tuple #[v, x]) ∧ Own w' w.heap.size v R ∧ Below w.heap.size w w') : PostL R x w e w' := by
  obtain ⟨v, rfl, ho, hb⟩ := h
  obtain ⟨A, c, rfl, _⟩ := ho.lst
  exact ⟨A, c, rfl, ho, hb⟩

end Go.Proofs.YtkgaajploobjdaaDoor.Wb
