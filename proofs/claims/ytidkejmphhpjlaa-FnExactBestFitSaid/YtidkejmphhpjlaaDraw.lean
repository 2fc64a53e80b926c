/- The reader of the code: l20Open, pick, odd. It stands in one block; what it hands back lies below what was asked. Conditions: none. -/
import Derived.Test.YtidkejmphhpjlaaFr
import Derived.Lib.Hide
import Derived.BigQuiet
import Derived.Deep.QuietTactic
import Derived.Outline
namespace Go.Proofs.Ytidkejmphhpjlaa.Wk
open Go.RowKit

/-- The reader at block g: its bytes z lie below g; it has read p of them. -/
structure Rdr (w : World) (g : Nat) (A : Option Addr) (n c : Nat) (z : List Int) (p : Nat) : Prop where
  blk : w.heap[g]? = some (.cells #[.slice A n c, .int .i64 p] 64 (0, 0))
  bytes : ∀ i, i < n → ∃ b off, A = some ⟨b, off, none⟩ ∧ b < g ∧ w.cell? ⟨b, off + i, none⟩ = some (.int .u8 (z.getD i 0))
  range : ∀ i : Nat, 0 ≤ z.getD i 0 ∧ z.getD i 0 ≤ 255
  len : n ≤ 2000

/-- Only block g has turned, and no block is new. -/
structure Only (g : Nat) (w w' : World) : Prop where
  grown : w.grownBy w' (some g)
  size : w'.heap.size = w.heap.size

theorem rdr_step {w : World} {g n c : Nat} {A : Option Addr} {z : List Int} {p : Nat} (h : Rdr w g A n c z p) :
    Rdr (w.setCell ⟨g, 1, none⟩ (.int .i64 ((p : Int) + 1))) g A n c z (p + 1) ∧ Only g w (w.setCell ⟨g, 1, none⟩ (.int .i64 ((p : Int) + 1))) := by
  refine ⟨⟨?_, ?_, h.range, h.len⟩, ⟨⟨rfl, rfl, rfl, by simp [World.setCell], ?_⟩, by simp [World.setCell]⟩⟩
  · simp [World.setCell, Array.getElem?_modify, h.blk]
  · intro i hi
    obtain ⟨b, off, rfl, hb, hc⟩ := h.bytes i hi
    refine ⟨b, off, rfl, hb, ?_⟩
    rw [World.cell?_setCell_other _ _ _ _ (fun e => by have := congrArg Addr.block e; simp at this; omega)]
    exact hc
  · intro k _ hk
    exact Below.heap_setCell w _ _ k (fun e => hk (by rw [e]))

theorem rdr_drewN {w : World} {g n c : Nat} {A : Option Addr} {z : List Int} {p : Nat} (h : Rdr w g A n c z p) (q : Nat) : Rdr (w.drewN q) g A n c z p := ⟨h.blk, h.bytes, h.range, h.len⟩
theorem only_drewN {g : Nat} {a w : World} (h : Only g a w) (q : Nat) : Only g a (w.drewN q) := ⟨⟨h.grown.os, h.grown.tape, h.grown.output, h.grown.size, h.grown.block⟩, h.size⟩

/-- What pick hands back, and what it leaves. -/
def Picked (g n c : Nat) (A : Option Addr) (z : List Int) (p : Nat) (m : Int) (w : World) (e : Ending) (w' : World) : Prop :=
  ∃ x : Int, e = .returned (.int .i64 x) ∧ 0 ≤ x ∧ (x = 0 ∨ x < m) ∧ Rdr w' g A n c z (p + 1) ∧ Only g w w'

theorem picked_zero {g n c : Nat} {A : Option Addr} {z : List Int} {p : Nat} {m : Int} {w : World} (h : Rdr w g A n c z p) :
    Picked g n c A z p m w (.returned (.int .i64 0)) (w.setCell ⟨g, 1, none⟩ (.int .i64 ((p : Int) + 1))) :=
  ⟨0, rfl, Int.le_refl _, .inl rfl, (rdr_step h).1, (rdr_step h).2⟩

theorem picked_mod {g n c : Nat} {A : Option Addr} {z : List Int} {p : Nat} {m : Int} {w : World} (h : Rdr w g A n c z p) (y : Int) (hm : 1 ≤ m) (q : Nat) :
    Picked g n c A z p m w (.returned (.int .i64 (y % m))) ((w.setCell ⟨g, 1, none⟩ (.int .i64 ((p : Int) + 1))).drewN q) :=
  ⟨y % m, rfl, Int.emod_nonneg _ (by omega), .inr (Int.emod_lt_of_pos _ (by omega)), rdr_drewN (rdr_step h).1 q, only_drewN (rdr_step h).2 q⟩

theorem xor_nonneg (a b : Int) (ha : 0 ≤ a) (ha' : a < 4611686018427387904) (hb : 0 ≤ b) (hb' : b < 4611686018427387904) : 0 ≤ bits .xor .i64 a b := by
  obtain ⟨x, rfl⟩ := Int.eq_ofNat_of_zero_le ha
  obtain ⟨y, rfl⟩ := Int.eq_ofNat_of_zero_le hb
  have hx : x ^^^ y < 2 ^ 62 := Nat.xor_lt_two_pow (by omega) (by omega)
  have ex : ∀ n : Nat, n < 4611686018427387904 → (BitVec.ofInt 64 (n : Int)).toNat = n := by
    intro n hn
    rw [BitVec.ofInt_natCast, BitVec.toNat_ofNat]; exact Nat.mod_eq_of_lt (by omega)
  show 0 ≤ IntKind.i64.wrap ((BitVec.ofInt 64 (x : Int) ^^^ BitVec.ofInt 64 (y : Int)).toNat : Int)
  rw [BitVec.toNat_xor, ex x (by omega), ex y (by omega), IntKind.wrap_i64]
  omega

theorem picked_tmod {g n c : Nat} {A : Option Addr} {z : List Int} {p : Nat} {m : Int} {w : World} (h : Rdr w g A n c z p) (y : Int) (hy : 0 ≤ y) (hm : 1 ≤ m) (q : Nat) :
    Picked g n c A z p m w (.returned (.int .i64 (y.tmod m))) ((w.setCell ⟨g, 1, none⟩ (.int .i64 ((p : Int) + 1))).drewN q) := by
  rw [Int.tmod_eq_emod_of_nonneg hy]
  exact picked_mod h y hm q

theorem pick_any (g n c : Nat) (A : Option Addr) (z : List Int) (p : Nat) (m : Int) (w : World) (h : Rdr w g A n c z p) (hp : p ≤ 1000000) :
    Calls Try.prog 55 #[.pointer (some ⟨g, 0, none⟩), .int .i64 m] w (Picked g n c A z p m w) := by
  have hc0 : w.cell? ⟨g, 0, none⟩ = some (.slice A n c) := by simpa using cell_of_row w g 0 _ _ _ h.blk
  have hc1 : w.cell? ⟨g, 1, none⟩ = some (.int .i64 p) := by simpa using cell_of_row w g 1 _ _ _ h.blk
  have hf1 : w.frozen? ⟨g, 1, none⟩ = false := by simp [World.frozen?, h.blk]
  have hlen := h.len
  by_cases hm : m < 1
  · go_enter Try.func55, Try.ntmps55
    go_wp2
    go_ret
    exact picked_zero h
  · by_cases hn : n < 1
    · obtain rfl : n = 0 := by omega
      go_enter Try.func55, Try.ntmps55
      go_wp2
      go_ret
      exact picked_zero h
    · have hm1 : 1 ≤ m := by omega
      have hn1 : 1 ≤ n := by omega
      have hn0 : ((n : Int) == 0) = false := by simp; omega
      clear hm hn
      by_cases hpn : p < n
      · obtain ⟨b, off, rfl, hb, hcb⟩ := h.bytes p hpn
        have hr := h.range p
        obtain ⟨v, hv⟩ : ∃ v, v = z.getD p 0 := ⟨_, rfl⟩
        rw [← hv] at hcb hr
        have h0 := hr.1
        have h1 := hr.2
        clear hv hr
        go_enter Try.func55, Try.ntmps55
        go_wp2
        go_ret
        exact picked_mod h v hm1 0
      · have hq : p % n < n := Nat.mod_lt _ (by omega)
        have hq2 : (p * 7 + 3) % n < n := Nat.mod_lt _ (by omega)
        obtain ⟨b, off, rfl, hb, hcb⟩ := h.bytes (p % n) hq
        obtain ⟨b', off', e', _, hcb2⟩ := h.bytes ((p * 7 + 3) % n) hq2
        simp only [Option.some.injEq, Addr.mk.injEq, and_true] at e'
        obtain ⟨rfl, rfl⟩ := e'
        have hr := h.range (p % n)
        have hr2 := h.range ((p * 7 + 3) % n)
        obtain ⟨v, hv⟩ : ∃ v, v = z.getD (p % n) 0 := ⟨_, rfl⟩
        obtain ⟨v2, hv2⟩ : ∃ v, v = z.getD ((p * 7 + 3) % n) 0 := ⟨_, rfl⟩
        rw [← hv] at hcb hr
        rw [← hv2] at hcb2 hr2
        have h0 := hr.1
        have h1 := hr.2
        have h2 := hr2.1
        have h3 := hr2.2
        clear hv hr hv2 hr2
        have hpn' : ¬ (p : Int) < n := by omega
        have ei : ((p : Int) * 7 + 3) % (n : Int) = (((p * 7 + 3) % n : Nat) : Int) := by simp
        have i0 : 0 ≤ ((p : Int) * 7 + 3) % (n : Int) := by rw [ei]; omega
        have i1 : ((p : Int) * 7 + 3) % (n : Int) < (n : Int) := by rw [ei]; omega
        have i2 : (((p : Int) * 7 + 3) % (n : Int)).toNat = (p * 7 + 3) % n := by rw [ei]; omega
        have i3 : 0 ≤ (p : Int) / n := Int.ediv_nonneg (by omega) (by omega)
        have i4 : (p : Int) / n ≤ p := Int.ediv_le_self _ (by omega)
        clear ei
        go_enter Try.func55, Try.ntmps55
        go_wp2
        go_quiet (fail)
        go_wp2
        go_ret
        exact picked_tmod h _ (xor_nonneg _ _ (by omega) (by omega) (by omega) (by omega)) hm1 nq

/-- odd: true or false. -/
theorem odd_any (g n c : Nat) (A : Option Addr) (z : List Int) (p : Nat) (m : Int) (w : World) (h : Rdr w g A n c z p) (hp : p ≤ 1000000) (hm : 1 ≤ m) (hm' : m ≤ 1000) :
    Calls Try.prog 60 #[.pointer (some ⟨g, 0, none⟩), .int .i64 m] w fun e w' =>
      ∃ b : Bool, e = .returned (.bool b) ∧ Rdr w' g A n c z (p + 1) ∧ Only g w w' := by
  go_enter Try.func60, Try.ntmps60
  go_wp2_with fail
  refine (pick_any g n c A z p m w h hp).mono ?_
  rintro e w1 ⟨x, rfl, hx0, hx1, hr, ho⟩
  go_wp2
  go_ret
  exact ⟨_, rfl, hr, ho⟩

end Go.Proofs.Ytidkejmphhpjlaa.Wk
