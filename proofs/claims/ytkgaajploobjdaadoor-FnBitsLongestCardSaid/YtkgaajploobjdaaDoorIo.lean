/- The head of the translated program: its first words, read word by word. Conditions: none. -/
import Derived.Test.YtkgaajploobjdaaDoorRows
import Derived.ProofKit
namespace Go.Proofs.YtkgaajploobjdaaDoor.Io

def tailSigns : List Char := [Char.ofNat 97, Char.ofNat 116, Char.ofNat 32, Char.ofNat 108, Char.ofNat 111, Char.ofNat 111, Char.ofNat 112, Char.ofNat 46, Char.ofNat 101, Char.ofNat 120, Char.ofNat 97, Char.ofNat 109, Char.ofNat 112, Char.ofNat 108, Char.ofNat 101, Char.ofNat 47, Char.ofNat 109, Char.ofNat 101, Char.ofNat 109, Char.ofNat 111, Char.ofNat 114, Char.ofNat 121, Char.ofNat 109, Char.ofNat 97, Char.ofNat 110, Char.ofNat 97, Char.ofNat 103, Char.ofNat 101, Char.ofNat 114, Char.ofNat 115, Char.ofNat 47, Char.ofNat 108, Char.ofNat 97, Char.ofNat 119, Char.ofNat 115, Char.ofNat 46, Char.ofNat 70, Char.ofNat 110, Char.ofNat 69, Char.ofNat 120, Char.ofNat 97, Char.ofNat 99, Char.ofNat 116, Char.ofNat 66, Char.ofNat 105, Char.ofNat 116, Char.ofNat 115, Char.ofNat 76, Char.ofNat 111, Char.ofNat 110, Char.ofNat 103, Char.ofNat 101, Char.ofNat 115, Char.ofNat 116, Char.ofNat 32, Char.ofNat 108, Char.ofNat 111, Char.ofNat 111, Char.ofNat 112, Char.ofNat 46, Char.ofNat 101, Char.ofNat 120, Char.ofNat 97, Char.ofNat 109, Char.ofNat 112, Char.ofNat 108, Char.ofNat 101, Char.ofNat 47, Char.ofNat 109, Char.ofNat 101, Char.ofNat 109, Char.ofNat 111, Char.ofNat 114, Char.ofNat 121, Char.ofNat 109, Char.ofNat 97, Char.ofNat 110, Char.ofNat 97, Char.ofNat 103, Char.ofNat 101, Char.ofNat 114, Char.ofNat 115, Char.ofNat 47, Char.ofNat 108, Char.ofNat 97, Char.ofNat 119, Char.ofNat 115, Char.ofNat 46, Char.ofNat 70, Char.ofNat 110, Char.ofNat 66, Char.ofNat 105, Char.ofNat 116, Char.ofNat 115, Char.ofNat 76, Char.ofNat 111, Char.ofNat 110, Char.ofNat 103, Char.ofNat 101, Char.ofNat 115, Char.ofNat 116, Char.ofNat 32, Char.ofNat 108, Char.ofNat 111, Char.ofNat 111, Char.ofNat 112, Char.ofNat 46, Char.ofNat 101, Char.ofNat 120, Char.ofNat 97, Char.ofNat 109, Char.ofNat 112, Char.ofNat 108, Char.ofNat 101, Char.ofNat 47, Char.ofNat 109, Char.ofNat 101, Char.ofNat 109, Char.ofNat 111, Char.ofNat 114, Char.ofNat 121, Char.ofNat 109, Char.ofNat 97, Char.ofNat 110, Char.ofNat 97, Char.ofNat 103, Char.ofNat 101, Char.ofNat 114, Char.ofNat 115, Char.ofNat 47, Char.ofNat 108, Char.ofNat 97, Char.ofNat 119, Char.ofNat 115, Char.ofNat 46, Char.ofNat 70, Char.ofNat 110, Char.ofNat 66, Char.ofNat 105, Char.ofNat 116, Char.ofNat 115, Char.ofNat 70, Char.ofNat 105, Char.ofNat 110, Char.ofNat 100]
def word0 : List Char := [Char.ofNat 104, Char.ofNat 97, Char.ofNat 114, Char.ofNat 110, Char.ofNat 101, Char.ofNat 115, Char.ofNat 115]
def word1 : List Char := [Char.ofNat 57, Char.ofNat 57, Char.ofNat 55, Char.ofNat 50, Char.ofNat 99, Char.ofNat 97, Char.ofNat 56, Char.ofNat 48, Char.ofNat 99, Char.ofNat 97, Char.ofNat 99, Char.ofNat 57, Char.ofNat 99, Char.ofNat 57, Char.ofNat 49, Char.ofNat 52, Char.ofNat 100, Char.ofNat 57, Char.ofNat 54, Char.ofNat 102, Char.ofNat 48, Char.ofNat 98, Char.ofNat 102, Char.ofNat 55, Char.ofNat 48, Char.ofNat 52, Char.ofNat 100, Char.ofNat 97, Char.ofNat 97, Char.ofNat 50, Char.ofNat 50, Char.ofNat 53, Char.ofNat 56, Char.ofNat 98, Char.ofNat 99, Char.ofNat 100, Char.ofNat 49, Char.ofNat 53, Char.ofNat 54, Char.ofNat 48, Char.ofNat 100, Char.ofNat 102, Char.ofNat 57, Char.ofNat 99, Char.ofNat 57, Char.ofNat 55, Char.ofNat 100, Char.ofNat 52, Char.ofNat 55, Char.ofNat 48, Char.ofNat 101, Char.ofNat 48, Char.ofNat 57, Char.ofNat 99, Char.ofNat 50, Char.ofNat 54, Char.ofNat 49, Char.ofNat 49, Char.ofNat 53, Char.ofNat 54, Char.ofNat 101, Char.ofNat 50, Char.ofNat 56, Char.ofNat 49]
def word2 : List Char := [Char.ofNat 99, Char.ofNat 117, Char.ofNat 116]
def signs : List Char := word0 ++ Char.ofNat 32 :: (word1 ++ Char.ofNat 32 :: (word2 ++ Char.ofNat 32 :: (tailSigns)))

theorem toList_eq : Tryd.prog.initOrder.toList = signs := by
  have h : Tryd.prog.initOrder = String.ofList signs := by kernel_rfl
  rw [h]; exact String.toList_ofList

theorem words_append (a b : List Char) (h : a.all (fun c => c.toNat != 32) = true) : wordsSigns (a ++ Char.ofNat 32 :: b) = a :: wordsSigns b := by
  induction a with
  | nil => rfl
  | cons c r ih =>
    simp only [List.all_cons, Bool.and_eq_true, bne_iff_ne, ne_eq] at h
    have hr := ih h.2
    have hc : c ≠ Char.ofNat 32 := by rintro rfl; exact h.1 rfl
    show wordsSigns (c :: (r ++ Char.ofNat 32 :: b)) = _
    rw [wordsSigns.eq_3 c (r ++ Char.ofNat 32 :: b) hc, hr]

theorem words_eq : wordsSigns Tryd.prog.initOrder.toList = word0 :: word1 :: word2 :: wordsSigns tailSigns := by
  rw [toList_eq]; unfold signs
  rw [words_append _ _ (by decide), words_append _ _ (by decide), words_append _ _ (by decide)]

theorem is_gc : (word2 == "gc".toList) = false := by kernel_rfl
theorem is_spec : (word2 == "spec".toList) = false := by kernel_rfl
theorem is_cut : (word2 == "cut".toList) = true := by kernel_rfl
theorem is_carried : (word2 == "carried".toList) = false := by kernel_rfl
theorem some_cut : (some word2 == some "cut".toList) = true := by kernel_rfl
theorem some_carried : (some word2 == some "carried".toList) = false := by kernel_rfl
theorem strip (t : List (List Char)) : stripLifts liftWords (word2 :: t) = ([], word2 :: t) := by kernel_rfl
theorem make_of {P : Program} {t : List (List Char)} (h : behindMainWord (wordsSigns P.initOrder.toList) = word2 :: t) : P.make = some .cut := by
  unfold Program.make; rw [h]
  simp only [is_gc, is_spec, is_cut, Bool.or_self, Bool.true_or, if_true, Bool.false_eq_true, if_false]
theorem lifts_of {P : Program} {t : List (List Char)} (h : behindMainWord (wordsSigns P.initOrder.toList) = word2 :: t) : P.headLifts = [] := by
  unfold Program.headLifts; rw [h]
  simp only [strip, ite_self]
theorem final_of {P : Program} {t : List (List Char)} (h : behindMainWord (wordsSigns P.initOrder.toList) = word2 :: t) : P.liftsFinal = false := by
  unfold Program.liftsFinal; rw [h, lifts_of h]
  simp only [List.head?_cons, some_carried, Bool.false_and, Bool.false_or]
  rfl
theorem enter_of {P : Program} {t : List (List Char)} (h : behindMainWord (wordsSigns P.initOrder.toList) = word2 :: t) (h1 : P.laysLater = false) (h2 : P.bearsReflect = false) (h3 : P.doorFits [] = true) : P.mayEnter = true := by
  unfold Program.mayEnter; rw [h]
  simp only [strip, h1, h2, h3, List.head?_cons, some_cut, Bool.not_false, Bool.or_true, Bool.and_true, List.contains_nil]
theorem behind_eq : behindMainWord (wordsSigns Tryd.prog.initOrder.toList) = word2 :: wordsSigns tailSigns := by
  rw [words_eq]
  have h : ∀ t : List (List Char), behindMainWord (word0 :: word1 :: word2 :: t) = word2 :: t := fun t => by kernel_rfl
  exact h _
theorem lays_later : Tryd.prog.laysLater = false := by kernel_rfl
theorem bears_reflect : Tryd.prog.bearsReflect = false := by kernel_rfl
theorem door_fits : Tryd.prog.doorFits [] = true := by kernel_rfl
theorem make_eq : Tryd.prog.make = some .cut := make_of behind_eq
theorem final_eq : Tryd.prog.liftsFinal = false := final_of behind_eq
theorem enter_eq : Tryd.prog.mayEnter = true := enter_of behind_eq lays_later bears_reflect door_fits
theorem laid_out : laidOutB Tryd.prog = true := by kernel_rfl
theorem maps_rowed : mapsRowed Tryd.prog = true := by kernel_rfl
theorem plain_keys : Tryd.prog.plainKeys = true := by kernel_rfl
theorem stops_heard : Tryd.prog.stopsHeard = true := by kernel_rfl

end Go.Proofs.YtkgaajploobjdaaDoor.Io
