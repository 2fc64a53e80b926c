/- Blocks in memory, and the checks that read them: isTotal, BlocksValid, FreeWords. Conditions: a list that a slice of blocks reads as. -/
import Derived.Test.YtidkejmphhpjlaaFr
import Derived.Test.YtidkejmphhpjlaaBlk
import Derived.Lib.Hide
import Derived.BigQuiet
import Derived.Deep.QuietTactic
import Derived.Outline
namespace Go.Proofs.Ytidkejmphhpjlaa.Wk
open Go.RowKit Go.Proofs.Ytidkejmphhpjlaa.Pl

/-- The slice at A with n blocks reads as the list l, from below block number B. -/
structure Lst (w : World) (B : Nat) (A : Option Addr) (n : Nat) (l : List Blk) : Prop where
  len : n = l.length
  cells : ∀ k, k < n → ∃ b off, A = some ⟨b, off, none⟩ ∧ b < B ∧ w.cell? ⟨b, off + k * 3, none⟩ = some (.int .i64 (bk l k).s) ∧
    w.cell? ⟨b, off + k * 3 + 1, none⟩ = some (.int .i64 (bk l k).z) ∧ w.cell? ⟨b, off + k * 3 + 2, none⟩ = some (.bool (bk l k).u)

theorem Lst.below {w w' : World} {B B' : Nat} {A : Option Addr} {n : Nat} {l : List Blk} (h : Lst w B A n l) (hb : Below B' w w') (hB : B ≤ B') : Lst w' B A n l :=
  ⟨h.len, fun k hk => by
    obtain ⟨b, off, rfl, h1, h2, h3, h4⟩ := h.cells k hk
    exact ⟨b, off, rfl, h1, (hb.cell (p := ⟨b, off + k * 3, none⟩) (by show b < B'; omega)).trans h2,
      (hb.cell (p := ⟨b, off + k * 3 + 1, none⟩) (by show b < B'; omega)).trans h3, (hb.cell (p := ⟨b, off + k * 3 + 2, none⟩) (by show b < B'; omega)).trans h4⟩⟩

theorem isTotal_any (n : Int) (w : World) : Calls Try.prog 44 #[.int .i64 n] w fun e w' => e = .returned (.bool (decide (1 ≤ n ∧ n ≤ 256))) ∧ w = w' := by
  by_cases h1 : 1 ≤ n <;> by_cases h2 : n ≤ 256
  all_goals
    go_enter Try.func44, Try.ntmps44
    go_wp2
    go_ret
    exact ⟨by simp [h1, h2], rfl⟩

set_option maxHeartbeats 1000000 in
theorem iValid_yes (A : Option Addr) (n c : Nat) (l : List Blk) (t : Int) (w : World) (h : Lst w w.heap.size A n l) (hv : V l t) :
    Calls Try.prog 25 #[.slice A n c, .int .i64 t] w fun e w' => e = .returned (.bool true) ∧ Below w.heap.size w w' := by
  obtain ⟨hl, ht2, ht1⟩ := V_len hv
  have hn := h.len
  have hn1 : n ≤ 256 := by omega
  have hT : decide (1 ≤ t ∧ t ≤ 256) = true := by simp; omega
  have HN := Lib.hid hn
  clear hn
  go_enter Try.func25, Try.ntmps25
  go_wp2_with (refine (isTotal_any _ _).mono ?_; rintro e w' ⟨rfl, rfl⟩)
  go_loopw [5, 13] (fun v i wr => ∃ (k : Nat) (e : Int), k ≤ n ∧ i = .int .i64 k ∧ v = .int .i64 e ∧ Ok 0 false (l.take k) e ∧ 0 ≤ e ∧ e ≤ t ∧ Below w.heap.size w wr) (fun _ i _ => n - (intOf i).toNat)
  case atStart => exact ⟨0, 0, Nat.zero_le _, rfl, rfl, rfl, by omega, by omega, Below.refl _ _⟩
  case round =>
    obtain ⟨k, e, hk, rfl, rfl, hok, he0, he1, hb⟩ := hrel
    by_cases hlt : k < n
    · have hL := h.below hb (Nat.le_refl _)
      obtain ⟨b, off, rfl, hbb, c0, c1, c2⟩ := hL.cells k hlt
      have hsz := hb.size
      have hbw : b < wr.heap.size := by omega
      have hkl : k < l.length := by have := HN.out; omega
      obtain ⟨hfit, hz⟩ := V_at hv hok hkl
      have HR := Lib.hid (Ok_step hok hkl hfit)
      obtain ⟨f1, f2, f3⟩ := hfit
      have hbn := hb
      clear hok
      rcases Nat.eq_zero_or_pos k with hk0 | hk0
      · have hk1 : ¬ 0 < k := by omega
        clear f3 hk0 hL
        go_wp2
        go_roundw
        case rel => exact ⟨k + 1, _, by omega, by go_num, rfl, HR.out, by omega, by omega, hbn.alloc hsz _⟩
        case measure => simp [intOf]; omega
      · obtain ⟨b', off', e', _, _, _, d2⟩ := hL.cells (k - 1) (by omega)
        simp only [Option.some.injEq, Addr.mk.injEq, and_true] at e'
        obtain ⟨rfl, rfl⟩ := e'
        have f4 : (bk l k).u = true ∨ (bk l (k - 1)).u = true := f3.resolve_left (by omega)
        clear f3 hL
        generalize (bk l (k - 1)).u = up at d2 f4
        generalize (bk l k).u = uk at c2 f4
        have f5 : uk = true ∨ (uk = false ∧ up = true) := by cases uk <;> simp_all
        clear f4
        rcases f5 with rfl | ⟨rfl, rfl⟩
        all_goals
          go_wp2
          go_roundw
          case rel => exact ⟨k + 1, _, by omega, by go_num, rfl, HR.out, by omega, by omega, hbn.alloc hsz _⟩
          case measure => simp [intOf]; omega
    · have hkn : k = n := by omega
      subst hkn
      have het : e = t := by
        have h1 := hv.2.2
        rw [HN.out, List.take_length] at hok
        exact Ok_inj hok h1
      subst het
      go_wp2
      go_ret
      exact ⟨rfl, hb⟩

set_option maxHeartbeats 2000000 in
theorem iValid_no (A : Option Addr) (n c : Nat) (l : List Blk) (t : Int) (w : World) (h : Lst w w.heap.size A n l) (hv : ¬ V l t) (hnm : n ≤ 1125899906842624) :
    Calls Try.prog 25 #[.slice A n c, .int .i64 t] w fun e w' => e = .returned (.bool false) ∧ Below w.heap.size w w' := by
  have HN := Lib.hid h.len
  have HV := Lib.hid hv
  clear hv
  by_cases ht : 1 ≤ t ∧ t ≤ 256
  · have hT : decide (1 ≤ t ∧ t ≤ 256) = true := by simp; omega
    obtain ⟨ht1, ht2⟩ := ht
    go_enter Try.func25, Try.ntmps25
    go_wp2_with (refine (isTotal_any _ _).mono ?_; rintro e w' ⟨rfl, rfl⟩)
    go_loopw [5, 13] (fun v i wr => ∃ (k : Nat) (e : Int), k ≤ n ∧ i = .int .i64 k ∧ v = .int .i64 e ∧ Ok 0 false (l.take k) e ∧ 0 ≤ e ∧ e ≤ t ∧ Below w.heap.size w wr) (fun _ i _ => n - (intOf i).toNat)
    case atStart => exact ⟨0, 0, Nat.zero_le _, rfl, rfl, rfl, by omega, by omega, Below.refl _ _⟩
    case round =>
      obtain ⟨k, e, hk, rfl, rfl, hok, he0, he1, hb⟩ := hrel
      have hsz := hb.size
      by_cases hlt : k < n
      · have hL := h.below hb (Nat.le_refl _)
        obtain ⟨b, off, rfl, hbb, c0, c1, c2⟩ := hL.cells k hlt
        have hbw : b < wr.heap.size := by omega
        have hkl : k < l.length := by have := HN.out; omega
        have hbn := hb
        have HO := Lib.hid (fun hf => Ok_step hok hkl hf)
        clear hok
        by_cases f1 : (bk l k).s = e
        · by_cases f2 : 1 ≤ (bk l k).z
          · by_cases hz : (bk l k).z ≤ t - e
            · by_cases hk0 : 0 < k
              · obtain ⟨b', off', e', _, _, _, d2⟩ := hL.cells (k - 1) (by omega)
                simp only [Option.some.injEq, Addr.mk.injEq, and_true] at e'
                obtain ⟨rfl, rfl⟩ := e'
                clear hL
                by_cases f5 : (bk l k).u = true ∨ (bk l (k - 1)).u = true
                · have HR := Lib.hid (HO.out ⟨f1, f2, .inr f5⟩)
                  generalize (bk l (k - 1)).u = up at d2 f5
                  generalize (bk l k).u = uk at c2 f5
                  have f5 : uk = true ∨ (uk = false ∧ up = true) := by cases uk <;> simp_all
                  rcases f5 with rfl | ⟨rfl, rfl⟩
                  all_goals
                    go_wp2
                    go_roundw
                    case rel => exact ⟨k + 1, _, by omega, by go_num, rfl, HR.out, by omega, by omega, hbn.alloc hsz _⟩
                    case measure => simp [intOf]; omega
                · have f6 : (bk l k).u = false ∧ (bk l (k - 1)).u = false := by simpa using f5
                  obtain ⟨f6, f7⟩ := f6
                  rw [f6] at c2
                  rw [f7] at d2
                  clear f5 f6 f7
                  go_wp2
                  go_ret
                  exact ⟨rfl, hbn.alloc hsz _⟩
              · have HR := Lib.hid (HO.out ⟨f1, f2, .inl (by omega)⟩)
                clear hL
                go_wp2
                go_roundw
                case rel => exact ⟨k + 1, _, by omega, by go_num, rfl, HR.out, by omega, by omega, hbn.alloc hsz _⟩
                case measure => simp [intOf]; omega
            · clear hL
              go_wp2
              go_ret
              exact ⟨rfl, hbn.alloc hsz _⟩
          · clear hL
            go_wp2
            go_ret
            exact ⟨rfl, hbn.alloc hsz _⟩
        · clear hL
          go_wp2
          go_ret
          exact ⟨rfl, hbn.alloc hsz _⟩
      · have hkn : k = n := by omega
        subst hkn
        have het : e ≠ t := by
          rintro rfl
          rw [HN.out, List.take_length] at hok
          exact HV.out ⟨ht1, ht2, hok⟩
        clear hok
        go_wp2
        go_ret
        exact ⟨by simp [het], hb⟩
  · have hT : decide (1 ≤ t ∧ t ≤ 256) = false := by simpa using ht
    clear ht
    go_enter Try.func25, Try.ntmps25
    go_wp2_with (refine (isTotal_any _ _).mono ?_; rintro e w' ⟨rfl, rfl⟩)
    go_ret
    exact ⟨rfl, Below.refl _ _⟩

end Go.Proofs.Ytidkejmphhpjlaa.Wk
