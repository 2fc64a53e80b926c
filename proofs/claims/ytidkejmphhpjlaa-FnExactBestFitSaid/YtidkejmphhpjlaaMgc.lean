/- The merge of sort.SliceStable: symMerge_func walked. Conditions: two sorted ranges of the row, at most 1000000 elements. -/
import Derived.Test.YtidkejmphhpjlaaMgb
namespace Go.Proofs.Ytidkejmphhpjlaa.Wk
open Go.RowKit Go.Proofs.Ytidkejmphhpjlaa.Pl

section
variable {α : Type} [Inhabited α]

/-- What symMerge_func leaves. -/
def MgP (enc : α → Value) (v : α → Nat) (l : List Blk) (blk a b : Nat) (d : Array α) (w0 W : World) (e : Ending) (w' : World) : Prop :=
  e = .returned (.tuple #[]) ∧ ∃ d' : Array α, SW enc w0 blk 0 d' w' ∧ W.grownBy w' (some blk) ∧ Go.Sort.PermIn a b d d' ∧ Seg v l d' a b

set_option maxRecDepth 100000 in
set_option maxHeartbeats 16000000 in
theorem symMerge_any (enc : α → Value) (v : α → Nat) (l : List Blk) (g : Nat) (lb : Array Value) (sf : Nat) (sb : Array Value) (blk N : Nat) (d0 : Array α) (w0 : World) (eg : ∀ args w, (callFunc g args).run Try.prog w = .ok (.enter g args) w)
    (hless0 : LessReads Try.prog g lb enc (ltz v l) blk 0 N w0) (hswap0 : SwapSwaps Try.prog sf sb enc blk 0 N) (hblk : blk < w0.heap.size) (hH00 : Go.Sort.Holds enc w0 blk 0 d0) (hd0 : d0.size = N) (hsz : N ≤ 1000000) :
    ∀ (f a m b : Nat) (d : Array α) (W : World), b - a ≤ f → d.size = N → SW enc w0 blk 0 d W → a < m → m < b → b ≤ N → Seg v l d a m → Seg v l d m b → VL v d a m b →
      Calls Try.prog 71 #[.agg #[.func (.func g) #[] lb, .func (.func sf) #[] sb], .int .i64 a, .int .i64 m, .int .i64 b] W (MgP enc v l blk a b d w0 W) := by
  have hless := Lib.hid hless0
  have hswap := Lib.hid hswap0
  have hH0 := Lib.hid hH00
  clear hless0 hswap0 hH00
  intro f
  induction f with
  | zero => intro a m b d W h1 _ _ h2 h3; omega
  | succ f ih0 =>
    intro a m b d W hf hsd hSW0 ham hmb hbN hL0 hR0 hV0
    have ih := Lib.hid ih0
    have hL := Lib.hid hL0
    have hR := Lib.hid hR0
    have hV := Lib.hid hV0
    have hbW : blk < W.heap.size := hSW0.lt hblk
    have HS := Lib.hid (hSW0.alloc (.cells #[.func (.func g) #[] lb, .func (.func sf) #[] sb] 74))
    have HB0 := Lib.hid ((Bk.new W #[.func (.func g) #[] lb, .func (.func sf) #[] sb] 74).cell 0)
    have HB1 := Lib.hid ((Bk.new W #[.func (.func g) #[] lb, .func (.func sf) #[] sb] 74).cell 1)
    clear hSW0 hL0 hR0 hV0 ih0
    by_cases hc1 : m = a + 1
    · have q1 : (m : Int) - (a : Int) = 1 := by omega
      have HM := Lib.hid hc1
      clear hc1
      go_enter Try.func71, Try.ntmps71
      go_wp2
      go_loopw [8, 9, 10] (fun vi vj _ wr => ∃ (i j : Nat), vi = .int .i64 i ∧ vj = .int .i64 j ∧ m ≤ i ∧ i ≤ j ∧ j ≤ b ∧ (i = m ∨ LTx v l d[i - 1]! d[a]!) ∧ (j = b ∨ LTx v l d[a]! d[j]!) ∧ SW enc w0 blk 0 d wr ∧ (W.alloc (.cells #[.func (.func g) #[] lb, .func (.func sf) #[] sb] 74)).grownBy wr (some blk)) (fun vi vj _ _ => (intOf vj).toNat - (intOf vi).toNat)
      case atStart => exact ⟨m, b, rfl, rfl, Nat.le_refl _, by omega, Nat.le_refl _, .inl rfl, .inl rfl, HS.out, gb_refl _ _⟩
      case round =>
        obtain ⟨i, j, rfl, rfl, hmi, hij, hjb, hI, hJ, hS, hG⟩ := hrel
        have HI := Lib.hid hI
        have HJ := Lib.hid hJ
        have HSj := Lib.hid hS
        have c0 : wr.cell? ⟨W.heap.size, 0, none⟩ = some (.func (.func g) #[] lb) := gb_cell hG (by simp) (by omega) HB0.out
        have c1 : wr.cell? ⟨W.heap.size, 1, none⟩ = some (.func (.func sf) #[] sb) := gb_cell hG (by simp) (by omega) HB1.out
        clear hI hJ hS
        by_cases hlt : i < j
        · have hl := HSj.out.less hless.out hsd ((i + j) / 2) a (by omega) (by omega)
          rw [show (((i + j) / 2 : Nat) : Int) = ((i : Int) + (j : Int)) / 2 by omega] at hl
          have hv := hV.out a ((i + j) / 2) (Nat.le_refl _) ham (by omega) (by omega)
          cases hlv : ltz v l d[(i + j) / 2]! d[a]! with
          | true =>
            rw [hlv] at hl
            have HQ := Lib.hid (lt_true v l hlv)
            clear hlv hv
            go_wp2_with (go_at_fn g; refine hl.mono ?_; rintro e w' ⟨rfl, q, rfl⟩)
            go_roundw
            case rel => exact ⟨(i + j) / 2 + 1, j, by rw [show ((i : Int) + (j : Int)) / 2 + 1 = (((i + j) / 2 + 1 : Nat) : Int) by omega], rfl, by omega, by omega, hjb, .inr (by rw [Nat.add_sub_cancel]; exact HQ.out), HJ.out, HSj.out.drewN q, gb_trans hG (gb_drewN _ _ _)⟩
            case measure => simp [intOf]; omega
          | false =>
            rw [hlv] at hl
            have HQ := Lib.hid (lt_false v l hlv hv)
            clear hlv hv
            go_wp2_with (go_at_fn g; refine hl.mono ?_; rintro e w' ⟨rfl, q, rfl⟩)
            go_roundw
            case rel => exact ⟨i, (i + j) / 2, rfl, by rw [show ((i : Int) + (j : Int)) / 2 = (((i + j) / 2 : Nat) : Int) by omega], hmi, by omega, by omega, HI.out, .inr HQ.out, HSj.out.drewN q, gb_trans hG (gb_drewN _ _ _)⟩
            case measure => simp [intOf]; omega
        · obtain rfl : i = j := by omega
          obtain ⟨wo, rfl⟩ : ∃ x : World, x = wr := ⟨_, rfl⟩
          go_wp2
          go_loopw [11] (fun vk wr => ∃ (k : Nat) (dj : Array α), vk = .int .i64 k ∧ a ≤ k ∧ k ≤ i - 1 ∧ SW enc w0 blk 0 dj wr ∧ (W.alloc (.cells #[.func (.func g) #[] lb, .func (.func sf) #[] sb] 74)).grownBy wr (some blk) ∧ Go.Sort.PermIn a b d dj ∧ dj.size = N ∧ ∀ x, dj[x]! = d[rotI a (a + 1) (k + 1) x]!) (fun vk _ => i - (intOf vk).toNat)
          case atStart => exact ⟨a, d, rfl, Nat.le_refl _, by omega, HSj.out, hG, Go.Sort.permIn_refl _ _ _, hsd, fun x => by rw [rot_id2]⟩
          case round =>
            obtain ⟨k, dj, rfl, hak, hki, hS, hG2, hP, hsj, hD⟩ := hrel
            have HD := Lib.hid hD
            have HP := Lib.hid hP
            have HSk := Lib.hid hS
            have e1 : wr.cell? ⟨W.heap.size, 1, none⟩ = some (.func (.func sf) #[] sb) := gb_cell hG2 (by simp) (by omega) HB1.out
            clear hD hP hS c0 c1
            by_cases hk : k < i - 1
            · have hs := hswap.out wr dj (HSk.out.holds hblk hH0.out (by omega)) hsj k (k + 1) (by omega) (by omega)
              rw [show ((k + 1 : Nat) : Int) = (k : Int) + 1 by omega] at hs
              have HSS := Lib.hid hs
              have q2 : (k : Int) < (i : Int) - 1 := by omega
              clear hs
              go_wp2
              rw [HSS.out, Oper.upon_value]
              go_wp2
              go_roundw
              case rel =>
                refine ⟨k + 1, Go.Sort.swp dj k (k + 1), by go_num, by omega, by omega, (by have h9 := HSk.out.swap hblk k (k + 1) (by omega) (by omega); simp only [Nat.zero_add] at h9; exact h9), gb_trans (gb_trans hG2 (gb_set _ _ _ _)) (gb_set _ _ _ _), Go.Sort.permIn_trans _ _ _ _ _ HP.out (Go.Sort.swp_permIn dj a b k (k + 1) (by omega) (by omega) (by omega) (by omega) (by omega)), by rw [Go.Sort.size_swp]; exact hsj, fun x => ?_⟩
                rw [swp_at dj k (k + 1) x (by omega) (by omega) (by omega), HD.out]
                congr 1
                unfold rotI
                repeat' split
                all_goals omega
              case measure => simp [intOf]; omega
            · have q2 : ¬ (k : Int) < (i : Int) - 1 := by omega
              go_wp2
              go_end0
              refine ⟨rfl, dj, HSk.out, gb_trans (gb_alloc _ _ _) hG2, HP.out, ?_⟩
              refine seg_rot v l (d := d) (s := a) (e := i) hL.out hR.out (Nat.le_refl _) (by omega) hmi hjb (fun i' j' h1 h2 => by omega) (fun i' j' h1 h2 h3 h4 => ?_) (fun i' j' h1 h2 h3 h4 => ?_) (fun x => ?_)
              · obtain rfl : i' = a := by have := HM.out; omega
                rcases HI.out with e | e
                · omega
                · exact hR.out.le v l h3 (show j' ≤ i - 1 by omega) (by omega) e
              · obtain rfl : i' = a := by have := HM.out; omega
                rcases HJ.out with e | e
                · omega
                · exact hR.out.ge v l hmi (show i ≤ j' by omega) h4 e
              · rw [HD.out, HM.out, show k + 1 = i by omega]
    · have q1 : ((m : Int) - (a : Int) == 1) = false := by rw [beq_eq_false_iff_ne]; omega
      have q1b : ¬ (m : Int) - (a : Int) = 1 := by omega
      have hma2 : a + 2 ≤ m := by omega
      clear hc1
      by_cases hc2 : b = m + 1
      · have q2 : (b : Int) - (m : Int) = 1 := by omega
        have HM := Lib.hid hc2
        clear hc2
        go_enter Try.func71, Try.ntmps71
        go_wp2
        go_loopw [12, 13, 14] (fun vi vj _ wr => ∃ (i j : Nat), vi = .int .i64 i ∧ vj = .int .i64 j ∧ a ≤ i ∧ i ≤ j ∧ j ≤ m ∧ (i = a ∨ LTx v l d[i - 1]! d[m]!) ∧ (j = m ∨ LTx v l d[m]! d[j]!) ∧ SW enc w0 blk 0 d wr ∧ (W.alloc (.cells #[.func (.func g) #[] lb, .func (.func sf) #[] sb] 74)).grownBy wr (some blk)) (fun vi vj _ _ => (intOf vj).toNat - (intOf vi).toNat)
        case atStart => exact ⟨a, m, rfl, rfl, Nat.le_refl _, by omega, Nat.le_refl _, .inl rfl, .inl rfl, HS.out, gb_refl _ _⟩
        case round =>
          obtain ⟨i, j, rfl, rfl, hmi, hij, hjb, hI, hJ, hS, hG⟩ := hrel
          have HI := Lib.hid hI
          have HJ := Lib.hid hJ
          have HSj := Lib.hid hS
          have c0 : wr.cell? ⟨W.heap.size, 0, none⟩ = some (.func (.func g) #[] lb) := gb_cell hG (by simp) (by omega) HB0.out
          have c1 : wr.cell? ⟨W.heap.size, 1, none⟩ = some (.func (.func sf) #[] sb) := gb_cell hG (by simp) (by omega) HB1.out
          clear hI hJ hS
          by_cases hlt : i < j
          · have hl := HSj.out.less hless.out hsd m ((i + j) / 2) (by omega) (by omega)
            rw [show (((i + j) / 2 : Nat) : Int) = ((i : Int) + (j : Int)) / 2 by omega] at hl
            have hv := hV.out ((i + j) / 2) m (by omega) (by omega) (Nat.le_refl _) hmb
            cases hlv : ltz v l d[m]! d[(i + j) / 2]! with
            | true =>
              rw [hlv] at hl
              have HQ := Lib.hid (lt_true v l hlv)
              clear hlv hv
              go_wp2_with (go_at_fn g; refine hl.mono ?_; rintro e w' ⟨rfl, q, rfl⟩)
              go_roundw
              case rel => exact ⟨i, (i + j) / 2, rfl, by rw [show ((i : Int) + (j : Int)) / 2 = (((i + j) / 2 : Nat) : Int) by omega], hmi, by omega, by omega, HI.out, .inr HQ.out, HSj.out.drewN q, gb_trans hG (gb_drewN _ _ _)⟩
              case measure => simp [intOf]; omega
            | false =>
              rw [hlv] at hl
              have HQ := Lib.hid (lt_false v l hlv hv)
              clear hlv hv
              go_wp2_with (go_at_fn g; refine hl.mono ?_; rintro e w' ⟨rfl, q, rfl⟩)
              go_roundw
              case rel => exact ⟨(i + j) / 2 + 1, j, by rw [show ((i : Int) + (j : Int)) / 2 + 1 = (((i + j) / 2 + 1 : Nat) : Int) by omega], rfl, by omega, by omega, hjb, .inr (by rw [Nat.add_sub_cancel]; exact HQ.out), HJ.out, HSj.out.drewN q, gb_trans hG (gb_drewN _ _ _)⟩
              case measure => simp [intOf]; omega
          · obtain rfl : i = j := by omega
            obtain ⟨wo, rfl⟩ : ∃ x : World, x = wr := ⟨_, rfl⟩
            go_wp2
            go_loopw [15] (fun vk wr => ∃ (k : Nat) (dj : Array α), vk = .int .i64 k ∧ i ≤ k ∧ k ≤ m ∧ SW enc w0 blk 0 dj wr ∧ (W.alloc (.cells #[.func (.func g) #[] lb, .func (.func sf) #[] sb] 74)).grownBy wr (some blk) ∧ Go.Sort.PermIn a b d dj ∧ dj.size = N ∧ ∀ x, dj[x]! = d[rotI k m (m + 1) x]!) (fun vk _ => (intOf vk).toNat)
            case atStart => exact ⟨m, d, rfl, hjb, Nat.le_refl _, HSj.out, hG, Go.Sort.permIn_refl _ _ _, hsd, fun x => by rw [rot_id1 m (m + 1) x (by omega)]⟩
            case round =>
              obtain ⟨k, dj, rfl, hak, hki, hS, hG2, hP, hsj, hD⟩ := hrel
              have HD := Lib.hid hD
              have HP := Lib.hid hP
              have HSk := Lib.hid hS
              have e1 : wr.cell? ⟨W.heap.size, 1, none⟩ = some (.func (.func sf) #[] sb) := gb_cell hG2 (by simp) (by omega) HB1.out
              clear hD hP hS c0 c1
              by_cases hk : i < k
              · have hs := hswap.out wr dj (HSk.out.holds hblk hH0.out (by omega)) hsj k (k - 1) (by omega) (by omega)
                rw [show ((k - 1 : Nat) : Int) = (k : Int) - 1 by omega] at hs
                have HSS := Lib.hid hs
                clear hs
                go_wp2
                rw [HSS.out, Oper.upon_value]
                go_wp2
                go_roundw
                case rel =>
                  refine ⟨k - 1, Go.Sort.swp dj k (k - 1), by go_num, by omega, by omega, (by have h9 := HSk.out.swap hblk k (k - 1) (by omega) (by omega); simp only [Nat.zero_add] at h9; exact h9), gb_trans (gb_trans hG2 (gb_set _ _ _ _)) (gb_set _ _ _ _), Go.Sort.permIn_trans _ _ _ _ _ HP.out (Go.Sort.swp_permIn dj a b k (k - 1) (by omega) (by omega) (by omega) (by omega) (by omega)), by rw [Go.Sort.size_swp]; exact hsj, fun x => ?_⟩
                  rw [swp_at dj k (k - 1) x (by omega) (by omega) (by omega), HD.out]
                  congr 1
                  unfold rotI
                  repeat' split
                  all_goals omega
                case measure => simp [intOf]; omega
              · obtain rfl : k = i := by omega
                go_wp2
                go_end0
                refine ⟨rfl, dj, HSk.out, gb_trans (gb_alloc _ _ _) hG2, HP.out, ?_⟩
                refine seg_rot v l (d := d) (s := k) (e := b) hL.out hR.out hmi hjb (by omega) (Nat.le_refl _) (fun i' j' h1 h2 h3 h4 => ?_) (fun i' j' h1 h2 h3 h4 => ?_) (fun i' j' h1 h2 h3 h4 => by omega) (fun x => ?_)
                · obtain rfl : j' = m := by have := HM.out; omega
                  rcases HI.out with e | e
                  · omega
                  · exact hL.out.le v l h1 (show i' ≤ k - 1 by omega) (by omega) e
                · obtain rfl : j' = m := by have := HM.out; omega
                  rcases HJ.out with e | e
                  · omega
                  · exact hL.out.ge v l hmi (show k ≤ i' by omega) h2 e
                · rw [HD.out, HM.out]
      · have q2 : ((b : Int) - (m : Int) == 1) = false := by rw [beq_eq_false_iff_ne]; omega
        have q2b : ¬ (b : Int) - (m : Int) = 1 := by omega
        have hmb2 : m + 2 ≤ b := by omega
        clear hc2
        obtain ⟨c, hc⟩ : ∃ c, (a + b) / 2 = c := ⟨_, rfl⟩
        have hcZ : ((a : Int) + (b : Int)) / 2 = (c : Int) := by omega
        have hca : a + 2 ≤ c := by omega
        have hcb : c + 2 ≤ b := by omega
        have hc2 : 2 * c ≤ a + b ∧ a + b ≤ 2 * c + 1 := by omega
        obtain ⟨hc3, hc4⟩ := hc2
        clear hc
        by_cases hmc : c < m
        · have z1 : (c : Int) < (m : Int) := by omega
          go_enter Try.func71, Try.ntmps71
          go_wp2
          go_loopw [18, 19, 21] (fun vi vj _ wr => ∃ (s r : Nat), vi = .int .i64 s ∧ vj = .int .i64 r ∧ (c + m - b) ≤ s ∧ s ≤ r ∧ r ≤ c ∧ (s = (c + m - b) ∨ LTx v l d[s - 1]! d[c + m - s]!) ∧ (r = c ∨ LTx v l d[c + m - 1 - r]! d[r]!) ∧ SW enc w0 blk 0 d wr ∧ (W.alloc (.cells #[.func (.func g) #[] lb, .func (.func sf) #[] sb] 74)).grownBy wr (some blk)) (fun vi vj _ _ => (intOf vj).toNat - (intOf vi).toNat)
          case atStart => exact ⟨(c + m - b), c, by go_num, rfl, Nat.le_refl _, by omega, Nat.le_refl _, .inl rfl, .inl rfl, HS.out, gb_refl _ _⟩
          case round =>
            obtain ⟨s, r, rfl, rfl, hs0, hsr, hr0, hI, hJ, hS, hG⟩ := hrel
            have HI := Lib.hid hI
            have HJ := Lib.hid hJ
            have HSj := Lib.hid hS
            have c0 : wr.cell? ⟨W.heap.size, 0, none⟩ = some (.func (.func g) #[] lb) := gb_cell hG (by simp) (by omega) HB0.out
            have c1 : wr.cell? ⟨W.heap.size, 1, none⟩ = some (.func (.func sf) #[] sb) := gb_cell hG (by simp) (by omega) HB1.out
            clear hI hJ hS
            by_cases hlt : s < r
            · obtain ⟨k, hk⟩ : ∃ k, (s + r) / 2 = k := ⟨_, rfl⟩
              have hkZ : ((s : Int) + (r : Int)) / 2 = (k : Int) := by omega
              have hk1 : s ≤ k := by omega
              have hk2 : k < r := by omega
              have hl := HSj.out.less hless.out hsd (c + m - 1 - k) k (by omega) (by omega)
              rw [show ((c + m - 1 - k : Nat) : Int) = (c : Int) + (m : Int) - 1 - (k : Int) by omega] at hl
              have hv := hV.out k (c + m - 1 - k) (by omega) (by omega) (by omega) (by omega)
              clear hk
              cases hlv : ltz v l d[c + m - 1 - k]! d[k]! with
              | true =>
                rw [hlv] at hl
                have HQ := Lib.hid (lt_true v l hlv)
                clear hlv hv
                go_wp2_with (go_at_fn g; refine hl.mono ?_; rintro e w' ⟨rfl, q, rfl⟩)
                go_roundw
                case rel => exact ⟨s, k, rfl, rfl, hs0, by omega, by omega, HI.out, .inr HQ.out, HSj.out.drewN q, gb_trans hG (gb_drewN _ _ _)⟩
                case measure => simp [intOf]; omega
              | false =>
                rw [hlv] at hl
                have HQ := Lib.hid (lt_false v l hlv hv)
                clear hlv hv
                go_wp2_with (go_at_fn g; refine hl.mono ?_; rintro e w' ⟨rfl, q, rfl⟩)
                go_roundw
                case rel => exact ⟨k + 1, r, by go_num, rfl, by omega, by omega, hr0, .inr (by rw [Nat.add_sub_cancel, show c + m - (k + 1) = c + m - 1 - k by omega]; exact HQ.out), HJ.out, HSj.out.drewN q, gb_trans hG (gb_drewN _ _ _)⟩
                case measure => simp [intOf]; omega
            · obtain rfl : s = r := by omega
              have has : a ≤ s := by omega
              have HE1 : RowKit.Hid (s = a ∨ c + m - s = b ∨ (c + m - s < b ∧ LTx v l d[s - 1]! d[c + m - s]!)) := Lib.hid (by
                rcases HI.out with e | e
                · exact .inr (.inl (by omega))
                · by_cases e2 : c + m - s = b
                  · exact .inr (.inl e2)
                  · by_cases e3 : s = a
                    · exact .inl e3
                    · exact .inr (.inr ⟨by omega, e⟩))
              have HE2 : RowKit.Hid (s = m ∨ c + m - s = m ∨ LTx v l d[c + m - s - 1]! d[s]!) := Lib.hid (by
                rcases HJ.out with e | e
                · exact .inr (.inl (by omega))
                · exact .inr (.inr (by rw [show c + m - s - 1 = c + m - 1 - s by omega]; exact e)))
              obtain ⟨wo, hwo⟩ : ∃ x : World, x = wr := ⟨_, rfl⟩
              clear hwo wo hlt hsr
              by_cases hrot : s < m ∧ m < c + m - s
              · obtain ⟨hr1, hr2⟩ := hrot
                have HC := Lib.hid (rotate_any enc (.func (.func g) #[] lb) sf sb blk d d0 w0 wr s m (c + m - s) (by rw [hsd]; exact hswap.out) hblk hH0.out (by omega) HSj.out hr1 hr2 (by omega) (by omega))
                rw [show ((c + m - s : Nat) : Int) = (c : Int) + (m : Int) - (s : Int) by omega] at HC
                have t1 : (s : Int) < (m : Int) := by omega
                have t2 : (m : Int) < (c : Int) + (m : Int) - (s : Int) := by omega
                go_wp2_with fail
                refine HC.out.mono ?_
                rintro e w3 ⟨rfl, D, hSD, hGD, hPD, hsD, hDI⟩
                have hPD' : Go.Sort.PermIn a b d D := Go.Sort.permIn_mono _ _ _ _ _ _ (by omega) (by omega) (by omega) hPD
                have hG3 := gb_trans hG hGD
                clear hPD hGD t1 t2 HC
                have HV := Lib.hid (halves_of v l (a := a) (m := m) (b := b) (s := s) (e := c + m - s) (c := c) hL.out hR.out hV.out has (by omega) (by omega) (by omega) (by omega) HE1.out HE2.out hDI)
                have HDP := Lib.hid hPD'
                have HSD := Lib.hid hSD
                clear hDI hPD' hSD c0 c1
                have cB0 : w3.cell? ⟨W.heap.size, 0, none⟩ = some (.func (.func g) #[] lb) := gb_cell hG3 (by simp) (by omega) HB0.out
                have cB1 : w3.cell? ⟨W.heap.size, 1, none⟩ = some (.func (.func sf) #[] sb) := gb_cell hG3 (by simp) (by omega) HB1.out
                by_cases hr1 : a < s ∧ s < c
                · obtain ⟨u1, u2⟩ := hr1
                  have HC := Lib.hid (ih.out a s c D w3 (by omega) (by omega) HSD.out u1 u2 (by omega) HV.out.s1 HV.out.s2 HV.out.v1)
                  have u3 : (a : Int) < (s : Int) := by omega
                  have u4 : (s : Int) < (c : Int) := by omega
                  go_wp2_with fail
                  refine HC.out.mono ?_
                  rintro e w5 ⟨rfl, D1, hS1, hG5, hP1, hQ1⟩
                  have hG6 := gb_trans hG3 hG5
                  have hs1 : D1.size = N := by have := hP1.1; omega
                  clear hG5 HC u3 u4 cB0 cB1
                  have HP1 := Lib.hid hP1
                  have HQ1 := Lib.hid hQ1
                  have HS1 := Lib.hid hS1
                  clear hP1 hQ1 hS1
                  have cC0 : w5.cell? ⟨W.heap.size, 0, none⟩ = some (.func (.func g) #[] lb) := gb_cell hG6 (by simp) (by omega) HB0.out
                  have cC1 : w5.cell? ⟨W.heap.size, 1, none⟩ = some (.func (.func sf) #[] sb) := gb_cell hG6 (by simp) (by omega) HB1.out
                  by_cases hr2 : c < c + m - s ∧ c + m - s < b
                  · obtain ⟨x1, x2⟩ := hr2
                    have HC := Lib.hid (ih.out c (c + m - s) b D1 w5 (by omega) hs1 HS1.out x1 x2 (by omega) (seg_keep v l HV.out.s3 HP1.out (.inr (Nat.le_refl _))) (seg_keep v l HV.out.s4 HP1.out (.inr (by omega))) (vl_keep v HV.out.v2 HP1.out (.inr (Nat.le_refl _))))
                    rw [show ((c + m - s : Nat) : Int) = (c : Int) + (m : Int) - (s : Int) by omega] at HC
                    have x3 : (c : Int) < (c : Int) + (m : Int) - (s : Int) := by omega
                    have x4 : (c : Int) + (m : Int) - (s : Int) < (b : Int) := by omega
                    go_wp2_with fail
                    all_goals
                      refine HC.out.mono ?_
                      rintro e w7 ⟨rfl, D2, hS2, hG7, hP2, hQ2⟩
                      go_wp2
                      go_end0
                      exact ⟨rfl, D2, hS2, gb_trans (gb_alloc _ _ _) (gb_trans hG6 hG7), Go.Sort.permIn_trans _ _ _ _ _ (Go.Sort.permIn_trans _ _ _ _ _ HDP.out (Go.Sort.permIn_mono _ _ _ _ _ _ (Nat.le_refl _) (by omega) (by omega) HP1.out)) (Go.Sort.permIn_mono _ _ _ _ _ _ (by omega) (Nat.le_refl _) (by omega) hP2), seg_glue v l (seg_keep v l HQ1.out hP2 (.inl (Nat.le_refl _))) hQ2 (cross_perm v l (by omega) HP1.out hP2 HV.out.cross)⟩
                  · have x12 : ¬ ((c : Int) < (c : Int) + (m : Int) - (s : Int)) ∨ ((c : Int) < (c : Int) + (m : Int) - (s : Int) ∧ ¬ (c : Int) + (m : Int) - (s : Int) < (b : Int)) := by omega
                    have hQ2 : Seg v l D1 c b := by
                      by_cases e : c + m - s = c
                      · have := seg_keep v l HV.out.s4 HP1.out (.inr (by omega)); rw [e] at this; exact this
                      · have := seg_keep v l HV.out.s3 HP1.out (.inr (Nat.le_refl _)); rw [show c + m - s = b by omega] at this; exact this
                    have HQ2 := Lib.hid hQ2
                    clear hr2 hQ2
                    rcases x12 with x1 | ⟨x1, x2⟩
                    all_goals
                      go_wp2
                      all_goals
                        go_end0
                        exact ⟨rfl, D1, HS1.out, gb_trans (gb_alloc _ _ _) hG6, Go.Sort.permIn_trans _ _ _ _ _ HDP.out (Go.Sort.permIn_mono _ _ _ _ _ _ (Nat.le_refl _) (by omega) (by omega) HP1.out), seg_glue v l HQ1.out HQ2.out (cross_perm v l (by omega) HP1.out (Go.Sort.permIn_refl _ _ _) HV.out.cross)⟩
                · have u12 : ¬ ((a : Int) < (s : Int)) ∨ ((a : Int) < (s : Int) ∧ ¬ (s : Int) < (c : Int)) := by omega
                  obtain ⟨D1, hDd⟩ : ∃ D1, D1 = D := ⟨D, rfl⟩
                  have hP1 : Go.Sort.PermIn a c D D1 := by rw [hDd]; exact Go.Sort.permIn_refl _ _ _
                  have hQ1 : Seg v l D1 a c := by
                    rw [hDd]
                    by_cases e : s = a
                    · have := HV.out.s2; rw [e] at this; exact this
                    · have := HV.out.s1; rw [show s = c by omega] at this; exact this
                  have hs1 : D1.size = N := by rw [hDd]; omega
                  have hS1 : SW enc w0 blk 0 D1 w3 := by rw [hDd]; exact HSD.out
                  have hG6 := hG3
                  clear hr1 hDd cB0 cB1
                  rcases u12 with u1 | ⟨u1, u2⟩
                  all_goals
                    have HP1 := Lib.hid hP1
                    have HQ1 := Lib.hid hQ1
                    have HS1 := Lib.hid hS1
                    clear hP1 hQ1 hS1
                    have cC0 : w3.cell? ⟨W.heap.size, 0, none⟩ = some (.func (.func g) #[] lb) := gb_cell hG6 (by simp) (by omega) HB0.out
                    have cC1 : w3.cell? ⟨W.heap.size, 1, none⟩ = some (.func (.func sf) #[] sb) := gb_cell hG6 (by simp) (by omega) HB1.out
                    by_cases hr2 : c < c + m - s ∧ c + m - s < b
                    · obtain ⟨x1, x2⟩ := hr2
                      have HC := Lib.hid (ih.out c (c + m - s) b D1 w3 (by omega) hs1 HS1.out x1 x2 (by omega) (seg_keep v l HV.out.s3 HP1.out (.inr (Nat.le_refl _))) (seg_keep v l HV.out.s4 HP1.out (.inr (by omega))) (vl_keep v HV.out.v2 HP1.out (.inr (Nat.le_refl _))))
                      rw [show ((c + m - s : Nat) : Int) = (c : Int) + (m : Int) - (s : Int) by omega] at HC
                      have x3 : (c : Int) < (c : Int) + (m : Int) - (s : Int) := by omega
                      have x4 : (c : Int) + (m : Int) - (s : Int) < (b : Int) := by omega
                      go_wp2_with fail
                      all_goals
                        refine HC.out.mono ?_
                        rintro e w7 ⟨rfl, D2, hS2, hG7, hP2, hQ2⟩
                        go_wp2
                        go_end0
                        exact ⟨rfl, D2, hS2, gb_trans (gb_alloc _ _ _) (gb_trans hG6 hG7), Go.Sort.permIn_trans _ _ _ _ _ (Go.Sort.permIn_trans _ _ _ _ _ HDP.out (Go.Sort.permIn_mono _ _ _ _ _ _ (Nat.le_refl _) (by omega) (by omega) HP1.out)) (Go.Sort.permIn_mono _ _ _ _ _ _ (by omega) (Nat.le_refl _) (by omega) hP2), seg_glue v l (seg_keep v l HQ1.out hP2 (.inl (Nat.le_refl _))) hQ2 (cross_perm v l (by omega) HP1.out hP2 HV.out.cross)⟩
                    · have x12 : ¬ ((c : Int) < (c : Int) + (m : Int) - (s : Int)) ∨ ((c : Int) < (c : Int) + (m : Int) - (s : Int) ∧ ¬ (c : Int) + (m : Int) - (s : Int) < (b : Int)) := by omega
                      have hQ2 : Seg v l D1 c b := by
                        by_cases e : c + m - s = c
                        · have := seg_keep v l HV.out.s4 HP1.out (.inr (by omega)); rw [e] at this; exact this
                        · have := seg_keep v l HV.out.s3 HP1.out (.inr (Nat.le_refl _)); rw [show c + m - s = b by omega] at this; exact this
                      have HQ2 := Lib.hid hQ2
                      clear hr2 hQ2
                      rcases x12 with x1 | ⟨x1, x2⟩
                      all_goals
                        go_wp2
                        all_goals
                          go_end0
                          exact ⟨rfl, D1, HS1.out, gb_trans (gb_alloc _ _ _) hG6, Go.Sort.permIn_trans _ _ _ _ _ HDP.out (Go.Sort.permIn_mono _ _ _ _ _ _ (Nat.le_refl _) (by omega) (by omega) HP1.out), seg_glue v l HQ1.out HQ2.out (cross_perm v l (by omega) HP1.out (Go.Sort.permIn_refl _ _ _) HV.out.cross)⟩
              · have t12 : ¬ ((s : Int) < (m : Int)) ∨ ((s : Int) < (m : Int) ∧ ¬ (m : Int) < (c : Int) + (m : Int) - (s : Int)) := by omega
                obtain ⟨D, hDd⟩ : ∃ D, D = d := ⟨d, rfl⟩
                have hDI : ∀ k, D[k]! = d[rotI s m (c + m - s) k]! := fun k => by
                  rw [hDd]
                  by_cases hsm : s = m
                  · subst hsm; rw [rot_id1 _ _ _ (by omega)]
                  · rw [show c + m - s = m by omega, rot_id2]
                have hPD' : Go.Sort.PermIn a b d D := by rw [hDd]; exact Go.Sort.permIn_refl _ _ _
                have hsD : D.size = d.size := by rw [hDd]
                have hSD : SW enc w0 blk 0 D wr := by rw [hDd]; exact HSj.out
                have hG3 := hG
                clear hrot hDd
                rcases t12 with t1 | ⟨t1, t2⟩
                all_goals
                  have HV := Lib.hid (halves_of v l (a := a) (m := m) (b := b) (s := s) (e := c + m - s) (c := c) hL.out hR.out hV.out has (by omega) (by omega) (by omega) (by omega) HE1.out HE2.out hDI)
                  have HDP := Lib.hid hPD'
                  have HSD := Lib.hid hSD
                  clear hDI hPD' hSD c0 c1
                  have cB0 : wr.cell? ⟨W.heap.size, 0, none⟩ = some (.func (.func g) #[] lb) := gb_cell hG3 (by simp) (by omega) HB0.out
                  have cB1 : wr.cell? ⟨W.heap.size, 1, none⟩ = some (.func (.func sf) #[] sb) := gb_cell hG3 (by simp) (by omega) HB1.out
                  by_cases hr1 : a < s ∧ s < c
                  · obtain ⟨u1, u2⟩ := hr1
                    have HC := Lib.hid (ih.out a s c D wr (by omega) (by omega) HSD.out u1 u2 (by omega) HV.out.s1 HV.out.s2 HV.out.v1)
                    have u3 : (a : Int) < (s : Int) := by omega
                    have u4 : (s : Int) < (c : Int) := by omega
                    go_wp2_with fail
                    refine HC.out.mono ?_
                    rintro e w5 ⟨rfl, D1, hS1, hG5, hP1, hQ1⟩
                    have hG6 := gb_trans hG3 hG5
                    have hs1 : D1.size = N := by have := hP1.1; omega
                    clear hG5 HC u3 u4 cB0 cB1
                    have HP1 := Lib.hid hP1
                    have HQ1 := Lib.hid hQ1
                    have HS1 := Lib.hid hS1
                    clear hP1 hQ1 hS1
                    have cC0 : w5.cell? ⟨W.heap.size, 0, none⟩ = some (.func (.func g) #[] lb) := gb_cell hG6 (by simp) (by omega) HB0.out
                    have cC1 : w5.cell? ⟨W.heap.size, 1, none⟩ = some (.func (.func sf) #[] sb) := gb_cell hG6 (by simp) (by omega) HB1.out
                    by_cases hr2 : c < c + m - s ∧ c + m - s < b
                    · obtain ⟨x1, x2⟩ := hr2
                      have HC := Lib.hid (ih.out c (c + m - s) b D1 w5 (by omega) hs1 HS1.out x1 x2 (by omega) (seg_keep v l HV.out.s3 HP1.out (.inr (Nat.le_refl _))) (seg_keep v l HV.out.s4 HP1.out (.inr (by omega))) (vl_keep v HV.out.v2 HP1.out (.inr (Nat.le_refl _))))
                      rw [show ((c + m - s : Nat) : Int) = (c : Int) + (m : Int) - (s : Int) by omega] at HC
                      have x3 : (c : Int) < (c : Int) + (m : Int) - (s : Int) := by omega
                      have x4 : (c : Int) + (m : Int) - (s : Int) < (b : Int) := by omega
                      go_wp2_with fail
                      all_goals
                        refine HC.out.mono ?_
                        rintro e w7 ⟨rfl, D2, hS2, hG7, hP2, hQ2⟩
                        go_wp2
                        go_end0
                        exact ⟨rfl, D2, hS2, gb_trans (gb_alloc _ _ _) (gb_trans hG6 hG7), Go.Sort.permIn_trans _ _ _ _ _ (Go.Sort.permIn_trans _ _ _ _ _ HDP.out (Go.Sort.permIn_mono _ _ _ _ _ _ (Nat.le_refl _) (by omega) (by omega) HP1.out)) (Go.Sort.permIn_mono _ _ _ _ _ _ (by omega) (Nat.le_refl _) (by omega) hP2), seg_glue v l (seg_keep v l HQ1.out hP2 (.inl (Nat.le_refl _))) hQ2 (cross_perm v l (by omega) HP1.out hP2 HV.out.cross)⟩
                    · have x12 : ¬ ((c : Int) < (c : Int) + (m : Int) - (s : Int)) ∨ ((c : Int) < (c : Int) + (m : Int) - (s : Int) ∧ ¬ (c : Int) + (m : Int) - (s : Int) < (b : Int)) := by omega
                      have hQ2 : Seg v l D1 c b := by
                        by_cases e : c + m - s = c
                        · have := seg_keep v l HV.out.s4 HP1.out (.inr (by omega)); rw [e] at this; exact this
                        · have := seg_keep v l HV.out.s3 HP1.out (.inr (Nat.le_refl _)); rw [show c + m - s = b by omega] at this; exact this
                      have HQ2 := Lib.hid hQ2
                      clear hr2 hQ2
                      rcases x12 with x1 | ⟨x1, x2⟩
                      all_goals
                        go_wp2
                        all_goals
                          go_end0
                          exact ⟨rfl, D1, HS1.out, gb_trans (gb_alloc _ _ _) hG6, Go.Sort.permIn_trans _ _ _ _ _ HDP.out (Go.Sort.permIn_mono _ _ _ _ _ _ (Nat.le_refl _) (by omega) (by omega) HP1.out), seg_glue v l HQ1.out HQ2.out (cross_perm v l (by omega) HP1.out (Go.Sort.permIn_refl _ _ _) HV.out.cross)⟩
                  · have u12 : ¬ ((a : Int) < (s : Int)) ∨ ((a : Int) < (s : Int) ∧ ¬ (s : Int) < (c : Int)) := by omega
                    obtain ⟨D1, hDd⟩ : ∃ D1, D1 = D := ⟨D, rfl⟩
                    have hP1 : Go.Sort.PermIn a c D D1 := by rw [hDd]; exact Go.Sort.permIn_refl _ _ _
                    have hQ1 : Seg v l D1 a c := by
                      rw [hDd]
                      by_cases e : s = a
                      · have := HV.out.s2; rw [e] at this; exact this
                      · have := HV.out.s1; rw [show s = c by omega] at this; exact this
                    have hs1 : D1.size = N := by rw [hDd]; omega
                    have hS1 : SW enc w0 blk 0 D1 wr := by rw [hDd]; exact HSD.out
                    have hG6 := hG3
                    clear hr1 hDd cB0 cB1
                    rcases u12 with u1 | ⟨u1, u2⟩
                    all_goals
                      have HP1 := Lib.hid hP1
                      have HQ1 := Lib.hid hQ1
                      have HS1 := Lib.hid hS1
                      clear hP1 hQ1 hS1
                      have cC0 : wr.cell? ⟨W.heap.size, 0, none⟩ = some (.func (.func g) #[] lb) := gb_cell hG6 (by simp) (by omega) HB0.out
                      have cC1 : wr.cell? ⟨W.heap.size, 1, none⟩ = some (.func (.func sf) #[] sb) := gb_cell hG6 (by simp) (by omega) HB1.out
                      by_cases hr2 : c < c + m - s ∧ c + m - s < b
                      · obtain ⟨x1, x2⟩ := hr2
                        have HC := Lib.hid (ih.out c (c + m - s) b D1 wr (by omega) hs1 HS1.out x1 x2 (by omega) (seg_keep v l HV.out.s3 HP1.out (.inr (Nat.le_refl _))) (seg_keep v l HV.out.s4 HP1.out (.inr (by omega))) (vl_keep v HV.out.v2 HP1.out (.inr (Nat.le_refl _))))
                        rw [show ((c + m - s : Nat) : Int) = (c : Int) + (m : Int) - (s : Int) by omega] at HC
                        have x3 : (c : Int) < (c : Int) + (m : Int) - (s : Int) := by omega
                        have x4 : (c : Int) + (m : Int) - (s : Int) < (b : Int) := by omega
                        go_wp2_with fail
                        all_goals
                          refine HC.out.mono ?_
                          rintro e w7 ⟨rfl, D2, hS2, hG7, hP2, hQ2⟩
                          go_wp2
                          go_end0
                          exact ⟨rfl, D2, hS2, gb_trans (gb_alloc _ _ _) (gb_trans hG6 hG7), Go.Sort.permIn_trans _ _ _ _ _ (Go.Sort.permIn_trans _ _ _ _ _ HDP.out (Go.Sort.permIn_mono _ _ _ _ _ _ (Nat.le_refl _) (by omega) (by omega) HP1.out)) (Go.Sort.permIn_mono _ _ _ _ _ _ (by omega) (Nat.le_refl _) (by omega) hP2), seg_glue v l (seg_keep v l HQ1.out hP2 (.inl (Nat.le_refl _))) hQ2 (cross_perm v l (by omega) HP1.out hP2 HV.out.cross)⟩
                      · have x12 : ¬ ((c : Int) < (c : Int) + (m : Int) - (s : Int)) ∨ ((c : Int) < (c : Int) + (m : Int) - (s : Int) ∧ ¬ (c : Int) + (m : Int) - (s : Int) < (b : Int)) := by omega
                        have hQ2 : Seg v l D1 c b := by
                          by_cases e : c + m - s = c
                          · have := seg_keep v l HV.out.s4 HP1.out (.inr (by omega)); rw [e] at this; exact this
                          · have := seg_keep v l HV.out.s3 HP1.out (.inr (Nat.le_refl _)); rw [show c + m - s = b by omega] at this; exact this
                        have HQ2 := Lib.hid hQ2
                        clear hr2 hQ2
                        rcases x12 with x1 | ⟨x1, x2⟩
                        all_goals
                          go_wp2
                          all_goals
                            go_end0
                            exact ⟨rfl, D1, HS1.out, gb_trans (gb_alloc _ _ _) hG6, Go.Sort.permIn_trans _ _ _ _ _ HDP.out (Go.Sort.permIn_mono _ _ _ _ _ _ (Nat.le_refl _) (by omega) (by omega) HP1.out), seg_glue v l HQ1.out HQ2.out (cross_perm v l (by omega) HP1.out (Go.Sort.permIn_refl _ _ _) HV.out.cross)⟩
        · have z1 : ¬ (c : Int) < (m : Int) := by omega
          go_enter Try.func71, Try.ntmps71
          go_wp2
          go_loopw [18, 19, 21] (fun vi vj _ wr => ∃ (s r : Nat), vi = .int .i64 s ∧ vj = .int .i64 r ∧ a ≤ s ∧ s ≤ r ∧ r ≤ m ∧ (s = a ∨ LTx v l d[s - 1]! d[c + m - s]!) ∧ (r = m ∨ LTx v l d[c + m - 1 - r]! d[r]!) ∧ SW enc w0 blk 0 d wr ∧ (W.alloc (.cells #[.func (.func g) #[] lb, .func (.func sf) #[] sb] 74)).grownBy wr (some blk)) (fun vi vj _ _ => (intOf vj).toNat - (intOf vi).toNat)
          case atStart => exact ⟨a, m, by go_num, rfl, Nat.le_refl _, by omega, Nat.le_refl _, .inl rfl, .inl rfl, HS.out, gb_refl _ _⟩
          case round =>
            obtain ⟨s, r, rfl, rfl, hs0, hsr, hr0, hI, hJ, hS, hG⟩ := hrel
            have HI := Lib.hid hI
            have HJ := Lib.hid hJ
            have HSj := Lib.hid hS
            have c0 : wr.cell? ⟨W.heap.size, 0, none⟩ = some (.func (.func g) #[] lb) := gb_cell hG (by simp) (by omega) HB0.out
            have c1 : wr.cell? ⟨W.heap.size, 1, none⟩ = some (.func (.func sf) #[] sb) := gb_cell hG (by simp) (by omega) HB1.out
            clear hI hJ hS
            by_cases hlt : s < r
            · obtain ⟨k, hk⟩ : ∃ k, (s + r) / 2 = k := ⟨_, rfl⟩
              have hkZ : ((s : Int) + (r : Int)) / 2 = (k : Int) := by omega
              have hk1 : s ≤ k := by omega
              have hk2 : k < r := by omega
              have hl := HSj.out.less hless.out hsd (c + m - 1 - k) k (by omega) (by omega)
              rw [show ((c + m - 1 - k : Nat) : Int) = (c : Int) + (m : Int) - 1 - (k : Int) by omega] at hl
              have hv := hV.out k (c + m - 1 - k) (by omega) (by omega) (by omega) (by omega)
              clear hk
              cases hlv : ltz v l d[c + m - 1 - k]! d[k]! with
              | true =>
                rw [hlv] at hl
                have HQ := Lib.hid (lt_true v l hlv)
                clear hlv hv
                go_wp2_with (go_at_fn g; refine hl.mono ?_; rintro e w' ⟨rfl, q, rfl⟩)
                go_roundw
                case rel => exact ⟨s, k, rfl, rfl, hs0, by omega, by omega, HI.out, .inr HQ.out, HSj.out.drewN q, gb_trans hG (gb_drewN _ _ _)⟩
                case measure => simp [intOf]; omega
              | false =>
                rw [hlv] at hl
                have HQ := Lib.hid (lt_false v l hlv hv)
                clear hlv hv
                go_wp2_with (go_at_fn g; refine hl.mono ?_; rintro e w' ⟨rfl, q, rfl⟩)
                go_roundw
                case rel => exact ⟨k + 1, r, by go_num, rfl, by omega, by omega, hr0, .inr (by rw [Nat.add_sub_cancel, show c + m - (k + 1) = c + m - 1 - k by omega]; exact HQ.out), HJ.out, HSj.out.drewN q, gb_trans hG (gb_drewN _ _ _)⟩
                case measure => simp [intOf]; omega
            · obtain rfl : s = r := by omega
              have has : a ≤ s := by omega
              have HE1 : RowKit.Hid (s = a ∨ c + m - s = b ∨ (c + m - s < b ∧ LTx v l d[s - 1]! d[c + m - s]!)) := Lib.hid (by
                rcases HI.out with e | e
                · exact .inl e
                · by_cases e2 : c + m - s = b
                  · exact .inr (.inl e2)
                  · by_cases e3 : s = a
                    · exact .inl e3
                    · exact .inr (.inr ⟨by omega, e⟩))
              have HE2 : RowKit.Hid (s = m ∨ c + m - s = m ∨ LTx v l d[c + m - s - 1]! d[s]!) := Lib.hid (by
                rcases HJ.out with e | e
                · exact .inl e
                · exact .inr (.inr (by rw [show c + m - s - 1 = c + m - 1 - s by omega]; exact e)))
              obtain ⟨wo, hwo⟩ : ∃ x : World, x = wr := ⟨_, rfl⟩
              clear hwo wo hlt hsr
              by_cases hrot : s < m ∧ m < c + m - s
              · obtain ⟨hr1, hr2⟩ := hrot
                have HC := Lib.hid (rotate_any enc (.func (.func g) #[] lb) sf sb blk d d0 w0 wr s m (c + m - s) (by rw [hsd]; exact hswap.out) hblk hH0.out (by omega) HSj.out hr1 hr2 (by omega) (by omega))
                rw [show ((c + m - s : Nat) : Int) = (c : Int) + (m : Int) - (s : Int) by omega] at HC
                have t1 : (s : Int) < (m : Int) := by omega
                have t2 : (m : Int) < (c : Int) + (m : Int) - (s : Int) := by omega
                go_wp2_with fail
                refine HC.out.mono ?_
                rintro e w3 ⟨rfl, D, hSD, hGD, hPD, hsD, hDI⟩
                have hPD' : Go.Sort.PermIn a b d D := Go.Sort.permIn_mono _ _ _ _ _ _ (by omega) (by omega) (by omega) hPD
                have hG3 := gb_trans hG hGD
                clear hPD hGD t1 t2 HC
                have HV := Lib.hid (halves_of v l (a := a) (m := m) (b := b) (s := s) (e := c + m - s) (c := c) hL.out hR.out hV.out has (by omega) (by omega) (by omega) (by omega) HE1.out HE2.out hDI)
                have HDP := Lib.hid hPD'
                have HSD := Lib.hid hSD
                clear hDI hPD' hSD c0 c1
                have cB0 : w3.cell? ⟨W.heap.size, 0, none⟩ = some (.func (.func g) #[] lb) := gb_cell hG3 (by simp) (by omega) HB0.out
                have cB1 : w3.cell? ⟨W.heap.size, 1, none⟩ = some (.func (.func sf) #[] sb) := gb_cell hG3 (by simp) (by omega) HB1.out
                by_cases hr1 : a < s ∧ s < c
                · obtain ⟨u1, u2⟩ := hr1
                  have HC := Lib.hid (ih.out a s c D w3 (by omega) (by omega) HSD.out u1 u2 (by omega) HV.out.s1 HV.out.s2 HV.out.v1)
                  have u3 : (a : Int) < (s : Int) := by omega
                  have u4 : (s : Int) < (c : Int) := by omega
                  go_wp2_with fail
                  refine HC.out.mono ?_
                  rintro e w5 ⟨rfl, D1, hS1, hG5, hP1, hQ1⟩
                  have hG6 := gb_trans hG3 hG5
                  have hs1 : D1.size = N := by have := hP1.1; omega
                  clear hG5 HC u3 u4 cB0 cB1
                  have HP1 := Lib.hid hP1
                  have HQ1 := Lib.hid hQ1
                  have HS1 := Lib.hid hS1
                  clear hP1 hQ1 hS1
                  have cC0 : w5.cell? ⟨W.heap.size, 0, none⟩ = some (.func (.func g) #[] lb) := gb_cell hG6 (by simp) (by omega) HB0.out
                  have cC1 : w5.cell? ⟨W.heap.size, 1, none⟩ = some (.func (.func sf) #[] sb) := gb_cell hG6 (by simp) (by omega) HB1.out
                  by_cases hr2 : c < c + m - s ∧ c + m - s < b
                  · obtain ⟨x1, x2⟩ := hr2
                    have HC := Lib.hid (ih.out c (c + m - s) b D1 w5 (by omega) hs1 HS1.out x1 x2 (by omega) (seg_keep v l HV.out.s3 HP1.out (.inr (Nat.le_refl _))) (seg_keep v l HV.out.s4 HP1.out (.inr (by omega))) (vl_keep v HV.out.v2 HP1.out (.inr (Nat.le_refl _))))
                    rw [show ((c + m - s : Nat) : Int) = (c : Int) + (m : Int) - (s : Int) by omega] at HC
                    have x3 : (c : Int) < (c : Int) + (m : Int) - (s : Int) := by omega
                    have x4 : (c : Int) + (m : Int) - (s : Int) < (b : Int) := by omega
                    go_wp2_with fail
                    all_goals
                      refine HC.out.mono ?_
                      rintro e w7 ⟨rfl, D2, hS2, hG7, hP2, hQ2⟩
                      go_wp2
                      go_end0
                      exact ⟨rfl, D2, hS2, gb_trans (gb_alloc _ _ _) (gb_trans hG6 hG7), Go.Sort.permIn_trans _ _ _ _ _ (Go.Sort.permIn_trans _ _ _ _ _ HDP.out (Go.Sort.permIn_mono _ _ _ _ _ _ (Nat.le_refl _) (by omega) (by omega) HP1.out)) (Go.Sort.permIn_mono _ _ _ _ _ _ (by omega) (Nat.le_refl _) (by omega) hP2), seg_glue v l (seg_keep v l HQ1.out hP2 (.inl (Nat.le_refl _))) hQ2 (cross_perm v l (by omega) HP1.out hP2 HV.out.cross)⟩
                  · have x12 : ¬ ((c : Int) < (c : Int) + (m : Int) - (s : Int)) ∨ ((c : Int) < (c : Int) + (m : Int) - (s : Int) ∧ ¬ (c : Int) + (m : Int) - (s : Int) < (b : Int)) := by omega
                    have hQ2 : Seg v l D1 c b := by
                      by_cases e : c + m - s = c
                      · have := seg_keep v l HV.out.s4 HP1.out (.inr (by omega)); rw [e] at this; exact this
                      · have := seg_keep v l HV.out.s3 HP1.out (.inr (Nat.le_refl _)); rw [show c + m - s = b by omega] at this; exact this
                    have HQ2 := Lib.hid hQ2
                    clear hr2 hQ2
                    rcases x12 with x1 | ⟨x1, x2⟩
                    all_goals
                      go_wp2
                      all_goals
                        go_end0
                        exact ⟨rfl, D1, HS1.out, gb_trans (gb_alloc _ _ _) hG6, Go.Sort.permIn_trans _ _ _ _ _ HDP.out (Go.Sort.permIn_mono _ _ _ _ _ _ (Nat.le_refl _) (by omega) (by omega) HP1.out), seg_glue v l HQ1.out HQ2.out (cross_perm v l (by omega) HP1.out (Go.Sort.permIn_refl _ _ _) HV.out.cross)⟩
                · have u12 : ¬ ((a : Int) < (s : Int)) ∨ ((a : Int) < (s : Int) ∧ ¬ (s : Int) < (c : Int)) := by omega
                  obtain ⟨D1, hDd⟩ : ∃ D1, D1 = D := ⟨D, rfl⟩
                  have hP1 : Go.Sort.PermIn a c D D1 := by rw [hDd]; exact Go.Sort.permIn_refl _ _ _
                  have hQ1 : Seg v l D1 a c := by
                    rw [hDd]
                    by_cases e : s = a
                    · have := HV.out.s2; rw [e] at this; exact this
                    · have := HV.out.s1; rw [show s = c by omega] at this; exact this
                  have hs1 : D1.size = N := by rw [hDd]; omega
                  have hS1 : SW enc w0 blk 0 D1 w3 := by rw [hDd]; exact HSD.out
                  have hG6 := hG3
                  clear hr1 hDd cB0 cB1
                  rcases u12 with u1 | ⟨u1, u2⟩
                  all_goals
                    have HP1 := Lib.hid hP1
                    have HQ1 := Lib.hid hQ1
                    have HS1 := Lib.hid hS1
                    clear hP1 hQ1 hS1
                    have cC0 : w3.cell? ⟨W.heap.size, 0, none⟩ = some (.func (.func g) #[] lb) := gb_cell hG6 (by simp) (by omega) HB0.out
                    have cC1 : w3.cell? ⟨W.heap.size, 1, none⟩ = some (.func (.func sf) #[] sb) := gb_cell hG6 (by simp) (by omega) HB1.out
                    by_cases hr2 : c < c + m - s ∧ c + m - s < b
                    · obtain ⟨x1, x2⟩ := hr2
                      have HC := Lib.hid (ih.out c (c + m - s) b D1 w3 (by omega) hs1 HS1.out x1 x2 (by omega) (seg_keep v l HV.out.s3 HP1.out (.inr (Nat.le_refl _))) (seg_keep v l HV.out.s4 HP1.out (.inr (by omega))) (vl_keep v HV.out.v2 HP1.out (.inr (Nat.le_refl _))))
                      rw [show ((c + m - s : Nat) : Int) = (c : Int) + (m : Int) - (s : Int) by omega] at HC
                      have x3 : (c : Int) < (c : Int) + (m : Int) - (s : Int) := by omega
                      have x4 : (c : Int) + (m : Int) - (s : Int) < (b : Int) := by omega
                      go_wp2_with fail
                      all_goals
                        refine HC.out.mono ?_
                        rintro e w7 ⟨rfl, D2, hS2, hG7, hP2, hQ2⟩
                        go_wp2
                        go_end0
                        exact ⟨rfl, D2, hS2, gb_trans (gb_alloc _ _ _) (gb_trans hG6 hG7), Go.Sort.permIn_trans _ _ _ _ _ (Go.Sort.permIn_trans _ _ _ _ _ HDP.out (Go.Sort.permIn_mono _ _ _ _ _ _ (Nat.le_refl _) (by omega) (by omega) HP1.out)) (Go.Sort.permIn_mono _ _ _ _ _ _ (by omega) (Nat.le_refl _) (by omega) hP2), seg_glue v l (seg_keep v l HQ1.out hP2 (.inl (Nat.le_refl _))) hQ2 (cross_perm v l (by omega) HP1.out hP2 HV.out.cross)⟩
                    · have x12 : ¬ ((c : Int) < (c : Int) + (m : Int) - (s : Int)) ∨ ((c : Int) < (c : Int) + (m : Int) - (s : Int) ∧ ¬ (c : Int) + (m : Int) - (s : Int) < (b : Int)) := by omega
                      have hQ2 : Seg v l D1 c b := by
                        by_cases e : c + m - s = c
                        · have := seg_keep v l HV.out.s4 HP1.out (.inr (by omega)); rw [e] at this; exact this
                        · have := seg_keep v l HV.out.s3 HP1.out (.inr (Nat.le_refl _)); rw [show c + m - s = b by omega] at this; exact this
                      have HQ2 := Lib.hid hQ2
                      clear hr2 hQ2
                      rcases x12 with x1 | ⟨x1, x2⟩
                      all_goals
                        go_wp2
                        all_goals
                          go_end0
                          exact ⟨rfl, D1, HS1.out, gb_trans (gb_alloc _ _ _) hG6, Go.Sort.permIn_trans _ _ _ _ _ HDP.out (Go.Sort.permIn_mono _ _ _ _ _ _ (Nat.le_refl _) (by omega) (by omega) HP1.out), seg_glue v l HQ1.out HQ2.out (cross_perm v l (by omega) HP1.out (Go.Sort.permIn_refl _ _ _) HV.out.cross)⟩
              · have t12 : ¬ ((s : Int) < (m : Int)) ∨ ((s : Int) < (m : Int) ∧ ¬ (m : Int) < (c : Int) + (m : Int) - (s : Int)) := by omega
                obtain ⟨D, hDd⟩ : ∃ D, D = d := ⟨d, rfl⟩
                have hDI : ∀ k, D[k]! = d[rotI s m (c + m - s) k]! := fun k => by
                  rw [hDd]
                  by_cases hsm : s = m
                  · subst hsm; rw [rot_id1 _ _ _ (by omega)]
                  · rw [show c + m - s = m by omega, rot_id2]
                have hPD' : Go.Sort.PermIn a b d D := by rw [hDd]; exact Go.Sort.permIn_refl _ _ _
                have hsD : D.size = d.size := by rw [hDd]
                have hSD : SW enc w0 blk 0 D wr := by rw [hDd]; exact HSj.out
                have hG3 := hG
                clear hrot hDd
                rcases t12 with t1 | ⟨t1, t2⟩
                all_goals
                  have HV := Lib.hid (halves_of v l (a := a) (m := m) (b := b) (s := s) (e := c + m - s) (c := c) hL.out hR.out hV.out has (by omega) (by omega) (by omega) (by omega) HE1.out HE2.out hDI)
                  have HDP := Lib.hid hPD'
                  have HSD := Lib.hid hSD
                  clear hDI hPD' hSD c0 c1
                  have cB0 : wr.cell? ⟨W.heap.size, 0, none⟩ = some (.func (.func g) #[] lb) := gb_cell hG3 (by simp) (by omega) HB0.out
                  have cB1 : wr.cell? ⟨W.heap.size, 1, none⟩ = some (.func (.func sf) #[] sb) := gb_cell hG3 (by simp) (by omega) HB1.out
                  by_cases hr1 : a < s ∧ s < c
                  · obtain ⟨u1, u2⟩ := hr1
                    have HC := Lib.hid (ih.out a s c D wr (by omega) (by omega) HSD.out u1 u2 (by omega) HV.out.s1 HV.out.s2 HV.out.v1)
                    have u3 : (a : Int) < (s : Int) := by omega
                    have u4 : (s : Int) < (c : Int) := by omega
                    go_wp2_with fail
                    refine HC.out.mono ?_
                    rintro e w5 ⟨rfl, D1, hS1, hG5, hP1, hQ1⟩
                    have hG6 := gb_trans hG3 hG5
                    have hs1 : D1.size = N := by have := hP1.1; omega
                    clear hG5 HC u3 u4 cB0 cB1
                    have HP1 := Lib.hid hP1
                    have HQ1 := Lib.hid hQ1
                    have HS1 := Lib.hid hS1
                    clear hP1 hQ1 hS1
                    have cC0 : w5.cell? ⟨W.heap.size, 0, none⟩ = some (.func (.func g) #[] lb) := gb_cell hG6 (by simp) (by omega) HB0.out
                    have cC1 : w5.cell? ⟨W.heap.size, 1, none⟩ = some (.func (.func sf) #[] sb) := gb_cell hG6 (by simp) (by omega) HB1.out
                    by_cases hr2 : c < c + m - s ∧ c + m - s < b
                    · obtain ⟨x1, x2⟩ := hr2
                      have HC := Lib.hid (ih.out c (c + m - s) b D1 w5 (by omega) hs1 HS1.out x1 x2 (by omega) (seg_keep v l HV.out.s3 HP1.out (.inr (Nat.le_refl _))) (seg_keep v l HV.out.s4 HP1.out (.inr (by omega))) (vl_keep v HV.out.v2 HP1.out (.inr (Nat.le_refl _))))
                      rw [show ((c + m - s : Nat) : Int) = (c : Int) + (m : Int) - (s : Int) by omega] at HC
                      have x3 : (c : Int) < (c : Int) + (m : Int) - (s : Int) := by omega
                      have x4 : (c : Int) + (m : Int) - (s : Int) < (b : Int) := by omega
                      go_wp2_with fail
                      all_goals
                        refine HC.out.mono ?_
                        rintro e w7 ⟨rfl, D2, hS2, hG7, hP2, hQ2⟩
                        go_wp2
                        go_end0
                        exact ⟨rfl, D2, hS2, gb_trans (gb_alloc _ _ _) (gb_trans hG6 hG7), Go.Sort.permIn_trans _ _ _ _ _ (Go.Sort.permIn_trans _ _ _ _ _ HDP.out (Go.Sort.permIn_mono _ _ _ _ _ _ (Nat.le_refl _) (by omega) (by omega) HP1.out)) (Go.Sort.permIn_mono _ _ _ _ _ _ (by omega) (Nat.le_refl _) (by omega) hP2), seg_glue v l (seg_keep v l HQ1.out hP2 (.inl (Nat.le_refl _))) hQ2 (cross_perm v l (by omega) HP1.out hP2 HV.out.cross)⟩
                    · have x12 : ¬ ((c : Int) < (c : Int) + (m : Int) - (s : Int)) ∨ ((c : Int) < (c : Int) + (m : Int) - (s : Int) ∧ ¬ (c : Int) + (m : Int) - (s : Int) < (b : Int)) := by omega
                      have hQ2 : Seg v l D1 c b := by
                        by_cases e : c + m - s = c
                        · have := seg_keep v l HV.out.s4 HP1.out (.inr (by omega)); rw [e] at this; exact this
                        · have := seg_keep v l HV.out.s3 HP1.out (.inr (Nat.le_refl _)); rw [show c + m - s = b by omega] at this; exact this
                      have HQ2 := Lib.hid hQ2
                      clear hr2 hQ2
                      rcases x12 with x1 | ⟨x1, x2⟩
                      all_goals
                        go_wp2
                        all_goals
                          go_end0
                          exact ⟨rfl, D1, HS1.out, gb_trans (gb_alloc _ _ _) hG6, Go.Sort.permIn_trans _ _ _ _ _ HDP.out (Go.Sort.permIn_mono _ _ _ _ _ _ (Nat.le_refl _) (by omega) (by omega) HP1.out), seg_glue v l HQ1.out HQ2.out (cross_perm v l (by omega) HP1.out (Go.Sort.permIn_refl _ _ _) HV.out.cross)⟩
                  · have u12 : ¬ ((a : Int) < (s : Int)) ∨ ((a : Int) < (s : Int) ∧ ¬ (s : Int) < (c : Int)) := by omega
                    obtain ⟨D1, hDd⟩ : ∃ D1, D1 = D := ⟨D, rfl⟩
                    have hP1 : Go.Sort.PermIn a c D D1 := by rw [hDd]; exact Go.Sort.permIn_refl _ _ _
                    have hQ1 : Seg v l D1 a c := by
                      rw [hDd]
                      by_cases e : s = a
                      · have := HV.out.s2; rw [e] at this; exact this
                      · have := HV.out.s1; rw [show s = c by omega] at this; exact this
                    have hs1 : D1.size = N := by rw [hDd]; omega
                    have hS1 : SW enc w0 blk 0 D1 wr := by rw [hDd]; exact HSD.out
                    have hG6 := hG3
                    clear hr1 hDd cB0 cB1
                    rcases u12 with u1 | ⟨u1, u2⟩
                    all_goals
                      have HP1 := Lib.hid hP1
                      have HQ1 := Lib.hid hQ1
                      have HS1 := Lib.hid hS1
                      clear hP1 hQ1 hS1
                      have cC0 : wr.cell? ⟨W.heap.size, 0, none⟩ = some (.func (.func g) #[] lb) := gb_cell hG6 (by simp) (by omega) HB0.out
                      have cC1 : wr.cell? ⟨W.heap.size, 1, none⟩ = some (.func (.func sf) #[] sb) := gb_cell hG6 (by simp) (by omega) HB1.out
                      by_cases hr2 : c < c + m - s ∧ c + m - s < b
                      · obtain ⟨x1, x2⟩ := hr2
                        have HC := Lib.hid (ih.out c (c + m - s) b D1 wr (by omega) hs1 HS1.out x1 x2 (by omega) (seg_keep v l HV.out.s3 HP1.out (.inr (Nat.le_refl _))) (seg_keep v l HV.out.s4 HP1.out (.inr (by omega))) (vl_keep v HV.out.v2 HP1.out (.inr (Nat.le_refl _))))
                        rw [show ((c + m - s : Nat) : Int) = (c : Int) + (m : Int) - (s : Int) by omega] at HC
                        have x3 : (c : Int) < (c : Int) + (m : Int) - (s : Int) := by omega
                        have x4 : (c : Int) + (m : Int) - (s : Int) < (b : Int) := by omega
                        go_wp2_with fail
                        all_goals
                          refine HC.out.mono ?_
                          rintro e w7 ⟨rfl, D2, hS2, hG7, hP2, hQ2⟩
                          go_wp2
                          go_end0
                          exact ⟨rfl, D2, hS2, gb_trans (gb_alloc _ _ _) (gb_trans hG6 hG7), Go.Sort.permIn_trans _ _ _ _ _ (Go.Sort.permIn_trans _ _ _ _ _ HDP.out (Go.Sort.permIn_mono _ _ _ _ _ _ (Nat.le_refl _) (by omega) (by omega) HP1.out)) (Go.Sort.permIn_mono _ _ _ _ _ _ (by omega) (Nat.le_refl _) (by omega) hP2), seg_glue v l (seg_keep v l HQ1.out hP2 (.inl (Nat.le_refl _))) hQ2 (cross_perm v l (by omega) HP1.out hP2 HV.out.cross)⟩
                      · have x12 : ¬ ((c : Int) < (c : Int) + (m : Int) - (s : Int)) ∨ ((c : Int) < (c : Int) + (m : Int) - (s : Int) ∧ ¬ (c : Int) + (m : Int) - (s : Int) < (b : Int)) := by omega
                        have hQ2 : Seg v l D1 c b := by
                          by_cases e : c + m - s = c
                          · have := seg_keep v l HV.out.s4 HP1.out (.inr (by omega)); rw [e] at this; exact this
                          · have := seg_keep v l HV.out.s3 HP1.out (.inr (Nat.le_refl _)); rw [show c + m - s = b by omega] at this; exact this
                        have HQ2 := Lib.hid hQ2
                        clear hr2 hQ2
                        rcases x12 with x1 | ⟨x1, x2⟩
                        all_goals
                          go_wp2
                          all_goals
                            go_end0
                            exact ⟨rfl, D1, HS1.out, gb_trans (gb_alloc _ _ _) hG6, Go.Sort.permIn_trans _ _ _ _ _ HDP.out (Go.Sort.permIn_mono _ _ _ _ _ _ (Nat.le_refl _) (by omega) (by omega) HP1.out), seg_glue v l HQ1.out HQ2.out (cross_perm v l (by omega) HP1.out (Go.Sort.permIn_refl _ _ _) HV.out.cross)⟩

end
end Go.Proofs.Ytidkejmphhpjlaa.Wk
