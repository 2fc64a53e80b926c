/- append under a guard, on slices of blocks. Conditions: none. -/
import Derived.Test.YtofolkiikmnbhaaApd
namespace Go.Proofs.Ytofolkiikmnbhaa.Wk
open Go.RowKit Go.Proofs.Ytofolkiikmnbhaa.Pl

section
variable {P : Program} {t e : TypeId} {size bytes : Nat}

/-- In a plain region, where a guard stands before it. -/
theorem append_shown_if (E : ElemOf P t e size bytes) {ops : Array Oper} {rest : List Oper} {o : Oper} {a : Act} {w : World} {Q : Exit → Act → World → Prop} (hgd : Region.wanted o (yielded ops a.tmps) = true) (s x : Operand)
    (ho : o.op = .call { callee := .builtin .append, args := #[s, x], argTypes := #[t, t] })
    (B B2 : Nat) (v : Value) (n m c : Nat) (xs news : List Value) (A : Option Addr) (hs : a.eval s = v) (hown : w.ownsRow B e size v n xs) (hx : a.eval x = .slice A m c)
    (hr : Shows w B2 size A m news) (h1 : ∀ u ∈ news, u.oneCell' = true) (h63 : n + m ≤ maxLen) (hbytes : (n + m) * bytes ≤ 140737488355328) (hB : B ≤ w.heap.size) (N : Nat) (hN : N = n + m)
    (h : ∀ A' c' w', w'.ownsRow B e size (.slice A' N c') N (xs ++ news) → Below B w w' → w.grownBy w' v.ownBlock → ((Value.slice A' N c').ownBlock = v.ownBlock ∨ (Value.slice A' N c').ownBlock = some w.heap.size) → wpList P ops Q rest (a.put o.dst (.slice A' N c')) w') :
    wpList P ops Q (o :: rest) a w :=
  wpList_step fun _ hK => by
    rw [if_pos hgd]
    exact wp_append_shown E s x ho B B2 v n m c xs news A hs hown hx hr h1 h63 hbytes hB N hN fun A' c' w' h2 h3 h4 h5 => hK _ _ (h A' c' w' h2 h3 h4 h5)
end

/-- append of a slice of blocks, under a guard that holds. -/
theorem append_blk_if {ops : Array Oper} {rest : List Oper} {o : Oper} {a : Act} {w : World} {Q : Exit → Act → World → Prop} (hgd : Region.wanted o (yielded ops a.tmps) = true) (s x : Operand)
    (ho : o.op = .call { callee := .builtin .append, args := #[s, x], argTypes := #[25, 25] })
    (B B2 : Nat) (l l2 : List Blk) (v : Value) (A : Option Addr) (m c : Nat) (hs : a.eval s = v) (hown : Own w B v l) (hx : a.eval x = .slice A m c) (hr : Lst w B2 A m l2) (hn : l.length + m ≤ 2097152) (hB : B ≤ w.heap.size) (N : Nat) (hN : N = l.length + m)
    (h : ∀ A' c' w', Own w' B (.slice A' N c') (l ++ l2) → Below B w w' → w.grownBy w' v.ownBlock → ((Value.slice A' N c').ownBlock = v.ownBlock ∨ (Value.slice A' N c').ownBlock = some w.heap.size) → wpList Try.prog ops Q rest (a.put o.dst (.slice A' N c')) w') :
    wpList Try.prog ops Q (o :: rest) a w :=
  append_shown_if elem_Blk hgd s x ho B B2 v l.length m c (cellsL l) (cellsL l2) A hs hown hx hr.shows (cellsL_one _) (by unfold maxLen; omega) (by omega) hB N hN
    (fun A' c' w' h2 => h A' c' w' (own_of h2 (by rw [hN, List.length_append, hr.len]) (by rw [cellsL_append])))

end Go.Proofs.Ytofolkiikmnbhaa.Wk
