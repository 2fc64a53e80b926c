/- The merge of sort.SliceStable, first part: swapRange_func and rotate_func walked. Conditions: ranges inside the row, at most 1000000 elements. -/
import Derived.Test.YtidkejmphhpjlaaBsw
import Derived.Test.YtidkejmphhpjlaaMgp
import Derived.Shelf.GgSortFunc.SW
namespace Go.Proofs.Ytidkejmphhpjlaa.Wk
open Go.RowKit Go.Proofs.Ytidkejmphhpjlaa.Pl

theorem gb_trans {a b c : World} {r : Option Nat} (h : a.grownBy b r) (h' : b.grownBy c r) : a.grownBy c r :=
  ⟨h'.os.trans h.os, h'.tape.trans h.tape, h'.output.trans h.output, Nat.le_trans h.size h'.size, fun k hk hne => (h'.block k (Nat.lt_of_lt_of_le hk h.size) hne).trans (h.block k hk hne)⟩
theorem gb_alloc (w : World) (o : Obj) (r : Option Nat) : w.grownBy (w.alloc o) r := ⟨rfl, rfl, rfl, by simp, fun k hk _ => Below.heap_alloc w o k hk⟩
theorem gb_drewN (w : World) (q : Nat) (r : Option Nat) : w.grownBy (w.drewN q) r := ⟨rfl, rfl, rfl, Nat.le_refl _, fun _ _ _ => rfl⟩
theorem gb_refl (w : World) (r : Option Nat) : w.grownBy w r := ⟨rfl, rfl, rfl, Nat.le_refl _, fun _ _ _ => rfl⟩
theorem gb_set (w : World) (blk o : Nat) (v : Value) : w.grownBy (w.setCell ⟨blk, o, none⟩ v) (some blk) := ⟨rfl, rfl, rfl, by simp [World.setCell], fun b _ hne => Below.heap_setCell w ⟨blk, o, none⟩ v b (fun e => hne (by rw [e]))⟩
theorem gb_cell {w w' : World} {blk q o : Nat} {v : Value} (h : w.grownBy w' (some blk)) (hq : q < w.heap.size) (hne : q ≠ blk) (hc : w.cell? ⟨q, o, none⟩ = some v) : w'.cell? ⟨q, o, none⟩ = some v :=
  (World.cell?_of_block (w := w) (a := ⟨q, o, none⟩) (h.block q hq (fun e => hne (by injection e)))).trans hc

theorem swp_at {α : Type} [Inhabited α] (d : Array α) (i j k : Nat) (hi : i < d.size) (hj : j < d.size) (hij : i ≠ j) : (Go.Sort.swp d i j)[k]! = d[if k = i then j else if k = j then i else k]! := by
  by_cases h1 : k = i
  · subst h1; rw [if_pos rfl, Go.Sort.swp_left d k j hi hij]
  · by_cases h2 : k = j
    · subst h2; rw [if_neg h1, if_pos rfl, Go.Sort.swp_right d i k hj]
    · rw [if_neg h1, if_neg h2, Go.Sort.swp_other d i j k h1 h2]

section
variable {α : Type} [Inhabited α]

set_option maxRecDepth 100000 in
set_option maxHeartbeats 2000000 in
theorem swapRange_any (enc : α → Value) (gf : Value) (sf : Nat) (sb : Array Value) (blk : Nat) (d d0 : Array α) (w0 W : World) (x y n : Nat) (hswap : SwapSwaps Try.prog sf sb enc blk 0 d.size) (hblk : blk < w0.heap.size) (hH0 : Go.Sort.Holds enc w0 blk 0 d0) (hd0 : d0.size = d.size)
    (hSW : SW enc w0 blk 0 d W) (hxy : x + n ≤ y) (hy : y + n ≤ d.size) (hsz : d.size ≤ 1000000) :
    Calls Try.prog 73 #[.agg #[gf, .func (.func sf) #[] sb], .int .i64 x, .int .i64 y, .int .i64 n] W fun e w' => e = .returned (.tuple #[]) ∧ ∃ d', SW enc w0 blk 0 d' w' ∧ W.grownBy w' (some blk) ∧ Go.Sort.PermIn x (y + n) d d' ∧ d'.size = d.size ∧ ∀ k, d'[k]! = d[swI x y n k]! := by
  have hbW : blk < W.heap.size := hSW.lt hblk
  have HS := Lib.hid (hSW.alloc (.cells #[gf, .func (.func sf) #[] sb] 74))
  have HB := Lib.hid ((Bk.new W #[gf, .func (.func sf) #[] sb] 74).cell 1)
  clear hSW
  go_enter Try.func73, Try.ntmps73
  go_wp2
  go_loopw [8] (fun v wr => ∃ (i : Nat) (dj : Array α), v = .int .i64 i ∧ i ≤ n ∧ SW enc w0 blk 0 dj wr ∧ (W.alloc (.cells #[gf, .func (.func sf) #[] sb] 74)).grownBy wr (some blk) ∧ Go.Sort.PermIn x (y + n) d dj ∧ dj.size = d.size ∧ ∀ k, dj[k]! = d[swI x y i k]!) (fun v _ => n - (intOf v).toNat)
  case atStart => exact ⟨0, d, rfl, Nat.zero_le _, HS.out, gb_refl _ _, Go.Sort.permIn_refl _ _ _, rfl, fun k => by rw [swI_zero]⟩
  case round =>
    obtain ⟨i, dj, rfl, hi, hS, hG, hP, hsj, hI⟩ := hrel
    have HP := Lib.hid hP
    clear hP
    have HI := Lib.hid hI
    have HSj := Lib.hid hS
    clear hI hS
    by_cases hlt : i < n
    · have c1 : wr.cell? ⟨W.heap.size, 1, none⟩ = some (.func (.func sf) #[] sb) := gb_cell hG (by simp) (by omega) HB.out
      have hs := hswap wr dj (HSj.out.holds hblk hH0 (by omega)) hsj (x + i) (y + i) (by omega) (by omega)
      rw [show ((x + i : Nat) : Int) = (x : Int) + (i : Int) by omega, show ((y + i : Nat) : Int) = (y : Int) + (i : Int) by omega] at hs
      have HSS := Lib.hid hs
      clear hs
      go_wp2
      rw [HSS.out, Oper.upon_value]
      go_wp2
      go_roundw
      case rel =>
        refine ⟨i + 1, Go.Sort.swp dj (x + i) (y + i), by go_num, by omega, (by have h9 := HSj.out.swap hblk (x + i) (y + i) (by omega) (by omega); simp only [Nat.zero_add] at h9; exact h9), gb_trans (gb_trans hG (gb_set _ _ _ _)) (gb_set _ _ _ _), Go.Sort.permIn_trans _ _ _ _ _ HP.out (Go.Sort.swp_permIn dj x (y + n) (x + i) (y + i) (by omega) (by omega) (by omega) (by omega) (by omega)), by rw [Go.Sort.size_swp]; exact hsj, fun k => ?_⟩
        rw [swp_at dj (x + i) (y + i) k (by omega) (by omega) (by omega), HI.out]
        congr 1
        unfold swI
        repeat' split
        all_goals omega
      case measure => simp [intOf]; omega
    · obtain rfl : i = n := by omega
      go_wp2
      go_end0
      exact ⟨rfl, dj, HSj.out, gb_trans (gb_alloc _ _ _) hG, HP.out, hsj, HI.out⟩

end
end Go.Proofs.Ytidkejmphhpjlaa.Wk
