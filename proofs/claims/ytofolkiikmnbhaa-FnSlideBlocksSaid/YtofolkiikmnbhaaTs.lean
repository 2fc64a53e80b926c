/- TakeSliding, of the program and of the reference. Conditions: none. -/
import Derived.Test.YtofolkiikmnbhaaExSl
import Derived.Test.YtofolkiikmnbhaaFirst
import Derived.Test.YtofolkiikmnbhaaBfi
namespace Go.Proofs.Ytofolkiikmnbhaa.Wk
open Go.RowKit Go.Proofs.Ytofolkiikmnbhaa.Pl

theorem isTotal_yes (n : Int) (w : World) (h : 1 ≤ n ∧ n ≤ 256) : Calls Try.prog 75 #[.int .i64 n] w fun e w' => e = .returned (.bool true) ∧ w = w' := by
  refine (isTotal_any n w).mono ?_
  rintro e w' ⟨rfl, rfl⟩
  exact ⟨by simp [h], rfl⟩
theorem isTotal_no (n : Int) (w : World) (h : n < 1 ∨ 256 < n) : Calls Try.prog 75 #[.int .i64 n] w fun e w' => e = .returned (.bool false) ∧ w = w' := by
  refine (isTotal_any n w).mono ?_
  rintro e w' ⟨rfl, rfl⟩
  exact ⟨by simp; omega, rfl⟩

/-- What a contract of TakeSliding says. -/
def TsC (f : Nat) (l : List Blk) (t z : Int) (R : List Blk) (b : Bool) : Prop :=
  ∀ (A : Option Addr) (c : Nat) (w : World), Lst w w.heap.size A l.length l → l.length ≤ c → Calls Try.prog f #[.slice A l.length c, .int .i64 t, .int .i64 z] w (PostL R (.bool b) w)

theorem iTs_inv (l : List Blk) (t z : Int) (hv : ¬ V l t) (hl : l.length ≤ 1125899906842624) : TsC 72 l t z [] false := by
  intro A c w h _
  go_enter Try.func72, Try.ntmps72
  go_wp2_with fail
  refine (iValid_no A _ c l t w h hv hl).mono ?_
  rintro e w1 ⟨rfl, hb⟩
  go_wp2
  exact bodyPost_ret (v := .tuple #[.slice none 0 0, .bool false]) (by simp [results, Try.results72, go_sem]) rfl ⟨_, _, rfl, Own.nil _ _, hb⟩
theorem sTs_inv (l : List Blk) (t z : Int) (hv : ¬ V l t) (hl : l.length ≤ 1125899906842624) : TsC 71 l t z [] false := by
  intro A c w h _
  go_enter Try.func71, Try.ntmps71
  go_wp2_with fail
  refine (sValid_no A _ c l t w h hv hl).mono ?_
  rintro e w1 ⟨rfl, hb⟩
  go_wp2
  exact bodyPost_ret (v := .tuple #[.slice (some ⟨w1.heap.size, 0, none⟩) 0 0, .bool false]) (by simp [results, Try.results71, go_sem]) rfl ⟨_, _, rfl, (own_empty w1).mono hb.size, hb.alloc hb.size _⟩

theorem iTs_no (l : List Blk) (t z : Int) (hv : V l t) (hz : (z < 1 ∨ 256 < z) ∨ fw l < z) : TsC 72 l t z l false := by
  intro A c w h _
  have hl : l.length ≤ 1048576 := by have := V_len hv; omega
  have HH := Lib.hid h
  have HV := Lib.hid hv
  clear h hv
  by_cases hz1 : z < 1 ∨ 256 < z
  · clear hz
    go_enter Try.func72, Try.ntmps72
    go_wp2_with fail
    refine (iValid_yes A _ c l t w HH.out HV.out).mono ?_
    rintro e w1 ⟨rfl, b1⟩
    go_wp2_with fail
    refine (isTotal_no z w1 hz1).mono ?_
    rintro e w' ⟨rfl, rfl⟩
    go_wp2_with fail
    refine (clone_all A _ c _ l w1 (HH.out.below b1 (Nat.le_refl _)) b1.size hl).mono ?_
    rintro e w2 ⟨A2, c2, rfl, o2, b2⟩
    go_wp2
    exact bodyPost_ret (v := .tuple #[.slice A2 l.length c2, .bool false]) (by simp [results, Try.results72, go_sem]) rfl (postL_of ⟨_, rfl, o2.mono b1.size, b1.trans (b2.mono b1.size)⟩)
  · have hz2 := hz.resolve_left hz1
    have hz3 : 1 ≤ z ∧ z ≤ 256 := by omega
    clear hz hz1
    go_enter Try.func72, Try.ntmps72
    go_wp2_with fail
    refine (iValid_yes A _ c l t w HH.out HV.out).mono ?_
    rintro e w1 ⟨rfl, b1⟩
    go_wp2_with fail
    refine (isTotal_yes z w1 hz3).mono ?_
    rintro e w' ⟨rfl, rfl⟩
    go_wp2_with fail
    refine (iFree_yes A _ c l t w1 (HH.out.up b1 (Nat.le_refl _) b1.size) HV.out).mono ?_
    rintro e w2 ⟨rfl, b2⟩
    have B2 := b1.trans (b2.mono b1.size)
    go_wp2_with fail
    refine (clone_all A _ c _ l w2 (HH.out.below B2 (Nat.le_refl _)) B2.size hl).mono ?_
    rintro e w3 ⟨A3, c3, rfl, o3, b3⟩
    go_wp2
    exact bodyPost_ret (v := .tuple #[.slice A3 l.length c3, .bool false]) (by simp [results, Try.results72, go_sem]) rfl (postL_of ⟨_, rfl, o3.mono B2.size, B2.trans (b3.mono B2.size)⟩)

theorem sTs_no (l : List Blk) (t z : Int) (hv : V l t) (h1 : ffS l z = -1) (h2 : ffS (slide l t) z = -1) : TsC 71 l t z l false := by
  intro A c w h hc
  have hl : l.length ≤ 1048576 := by have := V_len hv; omega
  have HH := Lib.hid h
  have HV := Lib.hid hv
  have HS := Lib.hid (slide_valid hv)
  have C1 := Lib.hid (fun w (hw : Lst w w.heap.size A l.length l) => sFirst_yes A _ c l t z w hw hv)
  have C2 := Lib.hid (fun A c w (hw : Lst w w.heap.size A (slide l t).length (slide l t)) => sFirst_yes A _ c (slide l t) t z w hw (slide_valid hv))
  have C3 := Lib.hid ((slide_yes l t hv).1)
  rw [h1] at C1
  rw [h2] at C2
  clear h hv h1 h2
  go_enter Try.func71, Try.ntmps71
  go_wp2_with fail
  refine (sValid_yes A _ c l t w HH.out HV.out).mono ?_
  rintro e w1 ⟨rfl, b1⟩
  go_wp2_with fail
  refine (C1.out w1 (HH.out.up b1 (Nat.le_refl _) b1.size)).mono ?_
  rintro e w2 ⟨rfl, b2⟩
  have B2 := b1.trans (b2.mono b1.size)
  go_wp2_with fail
  refine (C3.out A c w2 (HH.out.up B2 (Nat.le_refl _) B2.size) hc).mono ?_
  rintro e w3 ⟨A3, c3, rfl, o3, b3⟩
  have B3 := B2.trans (b3.mono B2.size)
  have l3 := own_lst o3
  clear o3
  go_wp2_with fail
  refine (C2.out A3 c3 w3 l3).mono ?_
  rintro e w4 ⟨rfl, b4⟩
  have B4 := B3.trans (b4.mono B3.size)
  have H4 := Lib.hid (HH.out.below (B4.alloc B4.size (.cells #[] 39)) (Nat.le_refl _))
  clear l3
  go_wp2_with (at_builtin; refine append_blk (by rfl) _ _ (by rfl) w4.heap.size w.heap.size [] l _ A _ c (by rfl) (own_empty w4) (by rfl) H4.out (by simp; omega) (by simp) l.length (by simp) ?_; intro A5 c5 w5 o5 b5 g5 t5)
  exact bodyPost_ret (v := .tuple #[.slice A5 l.length c5, .bool false]) (by simp [results, Try.results71, go_sem]) rfl (postL_of ⟨_, rfl, o5.mono B4.size, (B4.alloc B4.size _).trans (b5.mono B4.size)⟩)

theorem postL_up {R : List Blk} {x : Value} {w w1 w' : World} {A : Option Addr} {c : Nat} (ho : Own w' w1.heap.size (.slice A R.length c) R) (hb : Below w1.heap.size w1 w') (hB : Below w.heap.size w w1) : PostL R x w (.returned (.tuple #[.slice A R.length c, x])) w' :=
  ⟨A, c, rfl, ho.mono hB.size, hB.trans (hb.mono hB.size)⟩

theorem iTs_near (l R : List Blk) (t z : Int) (j : Nat) (hv : V l t) (hz : 1 ≤ z ∧ z ≤ 256) (hf : z ≤ fw l) (h1 : ffS l z = j) (CT : TakeC 49 l t j z R true) : TsC 72 l t z R true := by
  intro A c w h hc
  have HH := Lib.hid h
  have HV := Lib.hid hv
  have HT := Lib.hid CT
  have C1 := Lib.hid (fun w (hw : Lst w w.heap.size A l.length l) => iFirst_yes A _ c l t z w hw hv)
  rw [h1] at C1
  have hz1 := hz.1
  have hj0 : (0 : Int) ≤ (j : Int) := by omega
  clear h hv h1 CT
  go_enter Try.func72, Try.ntmps72
  go_wp2_with fail
  refine (iValid_yes A _ c l t w HH.out HV.out).mono ?_
  rintro e w1 ⟨rfl, b1⟩
  go_wp2_with fail
  refine (isTotal_yes z w1 hz).mono ?_
  rintro e w' ⟨rfl, rfl⟩
  go_wp2_with fail
  refine (iFree_yes A _ c l t w1 (HH.out.up b1 (Nat.le_refl _) b1.size) HV.out).mono ?_
  rintro e w2 ⟨rfl, b2⟩
  have B2 := b1.trans (b2.mono b1.size)
  go_wp2_with fail
  refine (C1.out w2 (HH.out.up B2 (Nat.le_refl _) B2.size)).mono ?_
  rintro e w3 ⟨rfl, b3⟩
  have B3 := B2.trans (b3.mono B2.size)
  go_wp2_with fail
  refine (HT.out A c w3 (HH.out.up B3 (Nat.le_refl _) B3.size) hc).mono ?_
  rintro e w4 ⟨A4, c4, rfl, o4, b4⟩
  go_wp2
  exact bodyPost_ret (v := .tuple #[.slice A4 R.length c4, .bool true]) (by simp [results, Try.results72, go_sem]) rfl (postL_up o4 b4 B3)

theorem sTs_near (l R : List Blk) (t z : Int) (j : Nat) (hv : V l t) (h1 : ffS l z = j) (CT : TakeC 54 l t j z R true) : TsC 71 l t z R true := by
  intro A c w h hc
  have HH := Lib.hid h
  have HV := Lib.hid hv
  have HT := Lib.hid CT
  have C1 := Lib.hid (fun w (hw : Lst w w.heap.size A l.length l) => sFirst_yes A _ c l t z w hw hv)
  rw [h1] at C1
  have hj0 : (0 : Int) ≤ (j : Int) := by omega
  clear h hv h1 CT
  go_enter Try.func71, Try.ntmps71
  go_wp2_with fail
  refine (sValid_yes A _ c l t w HH.out HV.out).mono ?_
  rintro e w1 ⟨rfl, b1⟩
  go_wp2_with fail
  refine (C1.out w1 (HH.out.up b1 (Nat.le_refl _) b1.size)).mono ?_
  rintro e w2 ⟨rfl, b2⟩
  have B2 := b1.trans (b2.mono b1.size)
  go_wp2_with fail
  refine (HT.out A c w2 (HH.out.up B2 (Nat.le_refl _) B2.size) hc).mono ?_
  rintro e w4 ⟨A4, c4, rfl, o4, b4⟩
  go_wp2
  exact bodyPost_ret (v := .tuple #[.slice A4 R.length c4, .bool true]) (by simp [results, Try.results71, go_sem]) rfl (postL_up o4 b4 B2)

theorem iTs_far (l R : List Blk) (t z : Int) (j : Nat) (hv : V l t) (hz : 1 ≤ z ∧ z ≤ 256) (hf : z ≤ fw l) (h1 : ffS l z = -1) (h2 : ffS (slide l t) z = j) (CT : TakeC 49 (slide l t) t j z R true) : TsC 72 l t z R true := by
  intro A c w h hc
  have HH := Lib.hid h
  have HV := Lib.hid hv
  have HT := Lib.hid CT
  have C1 := Lib.hid (fun w (hw : Lst w w.heap.size A l.length l) => iFirst_yes A _ c l t z w hw hv)
  have C2 := Lib.hid (fun A c w (hw : Lst w w.heap.size A (slide l t).length (slide l t)) => iFirst_yes A _ c (slide l t) t z w hw (slide_valid hv))
  have C3 := Lib.hid ((slide_yes l t hv).2)
  rw [h1] at C1
  rw [h2] at C2
  have hz1 := hz.1
  clear h hv h1 h2 CT
  go_enter Try.func72, Try.ntmps72
  go_wp2_with fail
  refine (iValid_yes A _ c l t w HH.out HV.out).mono ?_
  rintro e w1 ⟨rfl, b1⟩
  go_wp2_with fail
  refine (isTotal_yes z w1 hz).mono ?_
  rintro e w' ⟨rfl, rfl⟩
  go_wp2_with fail
  refine (iFree_yes A _ c l t w1 (HH.out.up b1 (Nat.le_refl _) b1.size) HV.out).mono ?_
  rintro e w2 ⟨rfl, b2⟩
  have B2 := b1.trans (b2.mono b1.size)
  go_wp2_with fail
  refine (C1.out w2 (HH.out.up B2 (Nat.le_refl _) B2.size)).mono ?_
  rintro e w3 ⟨rfl, b3⟩
  have B3 := B2.trans (b3.mono B2.size)
  go_wp2_with fail
  refine (C3.out A c w3 (HH.out.up B3 (Nat.le_refl _) B3.size) hc).mono ?_
  rintro e w4 ⟨A4, c4, rfl, o4, b4⟩
  have B4 := B3.trans (b4.mono B3.size)
  have l4 := own_lst o4
  have k4 := own_cap o4
  clear o4
  go_wp2_with fail
  refine (C2.out A4 c4 w4 l4).mono ?_
  rintro e w5 ⟨rfl, b5⟩
  have B5 := B4.trans (b5.mono B4.size)
  go_wp2_with fail
  refine (HT.out A4 c4 w5 (l4.up b5 (Nat.le_refl _) b5.size) k4).mono ?_
  rintro e w6 ⟨A6, c6, rfl, o6, b6⟩
  go_wp2
  exact bodyPost_ret (v := .tuple #[.slice A6 R.length c6, .bool true]) (by simp [results, Try.results72, go_sem]) rfl (postL_up o6 b6 B5)

theorem sTs_far (l R : List Blk) (t z : Int) (j : Nat) (hv : V l t) (h1 : ffS l z = -1) (h2 : ffS (slide l t) z = j) (CT : TakeC 54 (slide l t) t j z R true) : TsC 71 l t z R true := by
  intro A c w h hc
  have HH := Lib.hid h
  have HV := Lib.hid hv
  have HT := Lib.hid CT
  have C1 := Lib.hid (fun w (hw : Lst w w.heap.size A l.length l) => sFirst_yes A _ c l t z w hw hv)
  have C2 := Lib.hid (fun A c w (hw : Lst w w.heap.size A (slide l t).length (slide l t)) => sFirst_yes A _ c (slide l t) t z w hw (slide_valid hv))
  have C3 := Lib.hid ((slide_yes l t hv).1)
  rw [h1] at C1
  rw [h2] at C2
  have hj0 : (0 : Int) ≤ (j : Int) := by omega
  clear h hv h1 h2 CT
  go_enter Try.func71, Try.ntmps71
  go_wp2_with fail
  refine (sValid_yes A _ c l t w HH.out HV.out).mono ?_
  rintro e w1 ⟨rfl, b1⟩
  go_wp2_with fail
  refine (C1.out w1 (HH.out.up b1 (Nat.le_refl _) b1.size)).mono ?_
  rintro e w2 ⟨rfl, b2⟩
  have B2 := b1.trans (b2.mono b1.size)
  go_wp2_with fail
  refine (C3.out A c w2 (HH.out.up B2 (Nat.le_refl _) B2.size) hc).mono ?_
  rintro e w4 ⟨A4, c4, rfl, o4, b4⟩
  have B4 := B2.trans (b4.mono B2.size)
  have l4 := own_lst o4
  have k4 := own_cap o4
  clear o4
  go_wp2_with fail
  refine (C2.out A4 c4 w4 l4).mono ?_
  rintro e w5 ⟨rfl, b5⟩
  have B5 := B4.trans (b5.mono B4.size)
  go_wp2_with fail
  refine (HT.out A4 c4 w5 (l4.up b5 (Nat.le_refl _) b5.size) k4).mono ?_
  rintro e w6 ⟨A6, c6, rfl, o6, b6⟩
  go_wp2
  exact bodyPost_ret (v := .tuple #[.slice A6 R.length c6, .bool true]) (by simp [results, Try.results71, go_sem]) rfl (postL_up o6 b6 B5)

end Go.Proofs.Ytofolkiikmnbhaa.Wk
