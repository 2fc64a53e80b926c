/- bySize walked. Conditions: 1 to 20 blocks. -/
import Derived.Test.YtidkejmphhpjlaaBsb
namespace Go.Proofs.Ytidkejmphhpjlaa.Wk
open Go.RowKit Go.Proofs.Ytidkejmphhpjlaa.Pl

theorem bk_newI (w : World) (cs : Array Value) (T : TypeId) {H : Nat} (hH : w.heap.size = H) : Bk (w.alloc (.cells cs T)) H cs T := by subst hH; exact Bk.new w cs T
theorem Idx.start (w : World) (V : Value) (l : List Blk) : Idx w (((w.alloc (.cells #[V] 25)).alloc (.cells #[] 3)).alloc (.cells #[.slice (some ⟨w.heap.size + 1, 0, none⟩) 0 0] 50)) V l 0 0 0 (some ⟨w.heap.size + 1, 0, none⟩) :=
  ⟨((Bk.new w #[V] 25).alloc _).alloc _, bk_newI ((w.alloc (.cells #[V] 25)).alloc (.cells #[] 3)) _ _ (by simp),
    rows_kept (emptyI (w.alloc (.cells #[V] 25)) (w.heap.size + 1) (by simp)) (grown_alloc _ _) (fun _ _ e => by cases e),
    fun kb e => by have e' : w.heap.size + 1 = kb := Option.some.inj e; omega, (((Below.refl _ _).alloc (Nat.le_refl _) _).alloc (by simp) _).alloc (by simp; omega) _, by simp⟩

/-- A place as an int. -/
def encF (K : Nat) (i : Fin (K + 1)) : Value := .int .i64 (i.val : Int)

theorem fi_cells {w wr : World} {V : Value} {l : List Blk} {K m cp : Nat} {A : Option Addr} (h : Idx w wr V l (K + 1) m cp A) : ∃ gr, A = some ⟨gr, 0, none⟩ ∧ gr < wr.heap.size ∧ w.heap.size < gr ∧ gr ≠ w.heap.size + 2 ∧ m = (fiD l K).size ∧ Go.Sort.Holds (encF K) wr gr 0 (fiD l K) := by
  have hrow := h.row
  have hm : m = (fiN l (K + 1)).length := by have := hrow.1; rw [fiv_len] at this; omega
  rcases hrow.2 with ⟨hv, _⟩ | ⟨gr, cap, cur, hv, hB, hg, hnc, hcm, hs, ht⟩
  · injection hv with hv; exact absurd hv h.some_
  · injection hv with h1 h2 h3
    subst h1 h3
    have hlt : gr < wr.heap.size := (Array.getElem?_eq_some_iff.1 hg).1
    refine ⟨gr, rfl, hlt, by omega, h.sep gr rfl, by rw [fiD_size]; exact hm, fun j hj => ⟨?_, World.ownsRow.frozenAt h.row _⟩⟩
    obtain ⟨A', c', e, hsh, _⟩ := row_form h.row
    injection e with e1 e2 e3
    subst e1
    rw [fiD_size] at hj
    obtain ⟨b', off', e', _, hc⟩ := hsh.2 (by omega)
    simp only [Option.some.injEq, Addr.mk.injEq, and_true] at e'
    obtain ⟨rfl, rfl⟩ := e'
    have hget : (fiv l (K + 1))[j]? = some (.int .i64 (((fiN l (K + 1))[j] : Nat) : Int)) := by
      unfold fiv
      rw [List.getElem?_map, List.getElem?_eq_getElem hj]; rfl
    have := hc j _ hget
    rw [this]
    unfold encF
    rw [fiD_at hj]

theorem fiS_small {l : List Blk} {K : Nat} (h : (fiD l K).size ≤ 1) : fiS l K = fiD l K := by
  unfold fiS Go.Sort.insertionSort Go.Sort.insOuter
  rw [if_neg (by omega)]

set_option maxHeartbeats 2000000 in
theorem stable_any (b off c K m cp : Nat) (l : List Blk) (w wr : World) (A : Option Addr) (h : Lst w w.heap.size (some ⟨b, off, none⟩) (K + 1) l) (hK : K + 1 ≤ 20) (hI : Idx w wr (.slice (some ⟨b, off, none⟩) (K + 1) c) l (K + 1) m cp A) :
    ∃ gr, A = some ⟨gr, 0, none⟩ ∧ Calls Try.prog 52 #[.iface 50 (.slice A m cp), .func (.func 53) #[] #[.pointer (some ⟨w.heap.size, 0, none⟩), .pointer (some ⟨w.heap.size + 1 + 1, 0, none⟩)]] wr fun e w' =>
      e = .returned (.tuple #[]) ∧ w'.cell? ⟨w.heap.size + 1 + 1, 0, none⟩ = some (.slice A m cp) ∧ (∀ j, j < (fiS l K).size → w'.cell? ⟨gr, j, none⟩ = some (.int .i64 ((fiS l K)[j]!.val : Int))) ∧ Below w.heap.size w w' := by
  obtain ⟨gr, rfl, hlt, hgw, hne3, rfl, hH⟩ := fi_cells hI
  refine ⟨gr, rfl, ?_⟩
  have c1 : wr.cell? ⟨w.heap.size, 0, none⟩ = some (.slice (some ⟨b, off, none⟩) (K + 1) c) := hI.box1.cell 0
  have c3 : wr.cell? ⟨w.heap.size + 1 + 1, 0, none⟩ = some (.slice (some ⟨gr, 0, none⟩) (fiD l K).size cp) := hI.box3.cell 0
  have hsz := hI.below.size
  have hl3 := hI.box3.lt
  by_cases h2 : 2 ≤ (fiD l K).size
  · have h20 : (fiD l K).size ≤ 20 := by rw [fiD_size]; have := fiN_le l (K + 1); omega
    have hless : LessReads Try.prog 53 #[.pointer (some ⟨w.heap.size, 0, none⟩), .pointer (some ⟨w.heap.size + 1 + 1, 0, none⟩)] (encF K) (ltz (fun i : Fin (K + 1) => i.val) l) gr 0 (fiD l K).size wr := by
      intro m' os dk hs i j hi hj
      have e : sortWorld (encF K) wr gr 0 m' dk os = Go.Sort.putRow (encF K) (Go.Sort.grow (Go.Sort.ahead wr m') os) gr 0 dk := by
        unfold sortWorld; rw [Go.Sort.putRow_grow _ (Go.Sort.ahead wr m') _ gr 0 _ hlt]
      have hHg : Go.Sort.Holds (encF K) (Go.Sort.grow (Go.Sort.ahead wr m') os) gr 0 (fiD l K) := Go.Sort.holds_grow _ _ _ gr 0 _ hlt (Go.Sort.holds_ahead _ _ _ _ _ _ hH)
      have far : ∀ (q o : Nat) (u : Value), q < wr.heap.size → q ≠ gr → wr.cell? ⟨q, o, none⟩ = some u → (sortWorld (encF K) wr gr 0 m' dk os).cell? ⟨q, o, none⟩ = some u := fun q o u hq hqg hu => by
        rw [e, Go.Sort.cell?_putRow_other _ _ gr 0 dk _ (Or.inl hqg), Go.Sort.cell?_grow _ _ _ (by exact hq)]
        exact hu
      have hrow : ∀ t, t < (fiD l K).size → (sortWorld (encF K) wr gr 0 m' dk os).cell? ⟨gr, 0 + t, none⟩ = some (.int .i64 (dk[t]!.val : Int)) := fun t ht => by
        rw [e]; exact Go.Sort.cell?_putRow (encF K) _ gr 0 (fiD l K) dk hHg hs t (by omega)
      have hlist : ∀ x : Fin (K + 1), (sortWorld (encF K) wr gr 0 m' dk os).cell? ⟨b, off + x.val * 3 + 1, none⟩ = some (.int .i64 (bk l x.val).z) := fun x => by
        obtain ⟨b', off', e', hbb, _, d1, _⟩ := (h.below hI.below (Nat.le_refl _)).cells x.val x.isLt
        simp only [Option.some.injEq, Addr.mk.injEq, and_true] at e'
        obtain ⟨rfl, rfl⟩ := e'
        exact far b _ _ (by omega) (by omega) d1
      exact less_by w.heap.size (w.heap.size + 1 + 1) b off (K + 1) c gr 0 (fiD l K).size cp i j dk[i]!.val dk[j]!.val _ _ _ (far _ _ _ (by omega) (by omega) c1) (far _ _ _ (by omega) (by omega) c3) (hrow i hi) (hrow j hj) (hlist _) (hlist _) hi hj dk[i]!.isLt dk[j]!.isLt
    have hS := Any.sort_SliceStable_small sst 50 3 siT siE (by kernel_rfl) (by kernel_rfl) (by kernel_rfl) (by kernel_rfl) 2 (fun _ => by kernel_rfl) (by kernel_rfl) (fun _ => by kernel_rfl) (encF K) (fun _ => rfl) (ltz (fun i : Fin (K + 1) => i.val) l) 53 _
      (enters_of Try.func53 (by kernel_rfl) rfl) gr 0 cp (fiD l K) h2 h20 65 (by rw [siK _ h2]; kernel_rfl) true
      (fun args W => run_callFunc_extern Try.func65 (by kernel_rfl) (by kernel_rfl) (by kernel_rfl) (e := Extern.ReflectliteSwapper.swap true) (by kernel_rfl) args W) wr hless hH hlt
    refine Calls.mono (show Calls Try.prog 52 _ _ _ from hS) ?_
    rintro e w' ⟨rfl, n, os, rfl⟩
    have hs' : (fiS l K).size = (fiD l K).size := by rw [(fiS_holds l K h.len.symm).1, fiD_size]
    have hHa : Go.Sort.Holds (encF K) (Go.Sort.ahead wr n) gr 0 (fiD l K) := Go.Sort.holds_ahead _ _ _ _ _ _ hH
    refine ⟨rfl, ?_, fun j hj => ?_, hI.below.grown (grown_sorted (encF K) _) hsz (fun k hk => by injection hk with hk; omega)⟩
    · rw [Go.Sort.cell?_grow _ _ _ (by rw [Go.Sort.size_putRow]; exact hl3), Go.Sort.cell?_putRow_other _ _ gr 0 _ _ (Or.inl (fun e => hne3 e.symm))]
      exact c3
    · rw [Go.Sort.cell?_grow _ _ _ (by rw [Go.Sort.size_putRow]; exact hlt)]
      have := Go.Sort.cell?_putRow (encF K) (Go.Sort.ahead wr n) gr 0 (fiD l K) (fiS l K) hHa hs' j hj
      rw [Nat.zero_add] at this
      exact this
  · have hm : (fiD l K).size = 0 ∨ (fiD l K).size = 1 := by omega
    have hf : ∃ f, Try.prog.funcs.findIdx? (·.name == "internal/reflectlite" ++ ".Swapper$" ++ toString (Lib.swapperK (fiD l K).size siE 2)) = some f := by
      rcases hm with e | e
      · rw [e]; exact ⟨61, by kernel_rfl⟩
      · rw [e]; exact ⟨62, by kernel_rfl⟩
    obtain ⟨f, hf⟩ := hf
    have hS := Any.sort_SliceStable_tiny sst 50 3 siT siE (by kernel_rfl) (by kernel_rfl) (by kernel_rfl) (by kernel_rfl) 2 (fun _ => by kernel_rfl) (some ⟨gr, 0, none⟩) (fiD l K).size cp (by omega) f hf (.func 53) #[] #[.pointer (some ⟨w.heap.size, 0, none⟩), .pointer (some ⟨w.heap.size + 1 + 1, 0, none⟩)] wr
    refine Calls.mono (show Calls Try.prog 52 _ _ _ from hS) ?_
    rintro e w' ⟨rfl, os, rfl⟩
    have hg : wr.grownBy (Go.Sort.grow wr os) none := ⟨rfl, rfl, rfl, by simp [Go.Sort.grow], fun k hk _ => Go.Sort.heap_grow_old _ _ hk⟩
    refine ⟨rfl, ?_, fun j hj => ?_, hI.below.grown hg hsz (fun k hk => by cases hk)⟩
    · rw [Go.Sort.cell?_grow _ _ _ (by exact hl3)]; exact c3
    · rw [fiS_small (by omega)] at hj ⊢
      rw [Go.Sort.cell?_grow _ _ _ (by exact hlt)]
      have := (hH j hj).1
      rw [Nat.zero_add] at this
      exact this

set_option maxRecDepth 100000 in
set_option maxHeartbeats 4000000 in
theorem bySize_any (b off c K : Nat) (l : List Blk) (w : World) (h : Lst w w.heap.size (some ⟨b, off, none⟩) (K + 1) l) (hK : K + 1 ≤ 20) :
    Calls Try.prog 45 #[.slice (some ⟨b, off, none⟩) (K + 1) c] w fun e w' => ∃ (gr cp : Nat), e = .returned (.slice (some ⟨gr, 0, none⟩) (fiS l K).size cp) ∧ (∀ j, j < (fiS l K).size → w'.cell? ⟨gr, j, none⟩ = some (.int .i64 ((fiS l K)[j]!.val : Int))) ∧ Below w.heap.size w w' := by
  have HH := Lib.hid h
  have HN := Lib.hid h.len
  have I0 := Lib.hid (Idx.start w (.slice (some ⟨b, off, none⟩) (K + 1) c) l)
  clear h
  go_enter Try.func45, Try.ntmps45
  go_wp2
  go_loopw [4, 5, 9] (fun _ _ i wr => ∃ (k m cp : Nat) (A : Option Addr), k ≤ K + 1 ∧ i = .int .i64 k ∧ Idx w wr (.slice (some ⟨b, off, none⟩) (K + 1) c) l k m cp A) (fun _ _ i _ => K + 1 - (intOf i).toNat)
  case atStart => exact ⟨0, 0, 0, _, Nat.zero_le _, rfl, I0.out⟩
  case round =>
    obtain ⟨k, m, cp, A, hk, rfl, hI⟩ := hrel
    have HI := Lib.hid hI
    have hm : m ≤ k := by have := hI.row.1; rw [fiv_len] at this; have := fiN_le l k; omega
    have hsz := hI.below.size
    have hg3 := hI.box3.lt
    by_cases hlt : k < K + 1
    · have hkl : k < l.length := by have := HN.out; omega
      obtain ⟨b', off', e', hbb, c0, c1, c2⟩ := (HH.out.below hI.below (Nat.le_refl _)).cells k hlt
      simp only [Option.some.injEq, Addr.mk.injEq, and_true] at e'
      obtain ⟨rfl, rfl⟩ := e'
      have hbw : b < wr.heap.size := by omega
      have i1 : (0 : Int) ≤ (k : Int) := by omega
      have i2 : (k : Int) < (K : Int) + 1 := by omega
      have j3 := hI.box3.cell 0
      have j3' : wr.cell? ⟨w.heap.size + 2, 0, none⟩ = some (.slice A m cp) := j3
      have j1 : wr.cell? ⟨w.heap.size, 0, none⟩ = some (.slice (some ⟨b, off, none⟩) (K + 1) c) := hI.box1.cell 0
      cases hu : (bk l k).u
      · rw [hu] at c2
        obtain ⟨X, hX⟩ : ∃ X : World, (wr.alloc (.cells #[.int .i64 (bk l k).s, .int .i64 (bk l k).z, .bool false] 39)).alloc (.cells #[.int .i64 (k : Int)] 3) = X := ⟨_, rfl⟩
        have HX := Lib.hid (show Idx w X (.slice (some ⟨b, off, none⟩) (K + 1) c) l k m cp A by rw [← hX]; exact (HI.out.alloc _).alloc _)
        have HS := Lib.hid (show Shows X X.heap.size 1 (some ⟨wr.heap.size + 1, 0, none⟩) 1 [.int .i64 (k : Int)] by rw [← hX]; exact shows_one (bk_newI (wr.alloc (.cells #[.int .i64 (bk l k).s, .int .i64 (bk l k).z, .bool false] 39)) _ _ (by simp)))
        have HU := Lib.hid hu
        have hf3 := hI.box3.free 0
        clear hI hu j3
        go_wp2_with (at_builtin; go_loud (refine append_shown elem_I (by rfl) _ _ (by rfl) (w.heap.size + 1) X.heap.size (.slice A m cp) m 1 1 (fiv l k) [.int .i64 (k : Int)] (some ⟨wr.heap.size + 1, 0, none⟩) (by rfl) HX.out.row (by rfl) HS.out (by intro u hu; simp at hu; subst hu; rfl) (by unfold maxLen; omega) (by omega) (by have := HX.out.box3.lt; omega) (m + 1) rfl ?_); intro A7 c7 w7 o7 b7 g7 t7; have k3 : w7.cell? ⟨w.heap.size + 2, 0, none⟩ = some (.slice A m cp) := (World.cell?_of_block (a := ⟨w.heap.size + 2, 0, none⟩) (g7.block (w.heap.size + 2) HX.out.box3.lt (fun e => HX.out.sep _ e.symm rfl))).trans (HX.out.box3.cell 0); have k4 : w7.frozen? ⟨w.heap.size + 2, 0, none⟩ = false := (World.frozen?_of_block (a := ⟨w.heap.size + 2, 0, none⟩) (g7.block (w.heap.size + 2) HX.out.box3.lt (fun e => HX.out.sep _ e.symm rfl))).trans (HX.out.box3.free 0))
        have H7 := Lib.hid (HX.out.add HU.out rfl o7 b7 g7 t7)
        clear o7 b7 g7 t7
        go_wp2
        go_roundw
        case rel => exact ⟨k + 1, m + 1, c7, A7, by omega, by go_num, H7.out⟩
        case measure => simp [intOf]; omega
      · rw [hu] at c2
        have HX := Lib.hid ((HI.out.alloc (.cells #[.int .i64 (bk l k).s, .int .i64 (bk l k).z, .bool true] 39)).skip hu)
        clear hI hu
        go_wp2
        go_roundw
        case rel => exact ⟨k + 1, m, cp, A, by omega, by go_num, HX.out⟩
        case measure => simp [intOf]; omega
    · obtain rfl : k = K + 1 := by omega
      have j3 : wr.cell? ⟨w.heap.size + 2, 0, none⟩ = some (.slice A m cp) := hI.box3.cell 0
      obtain ⟨gr, rfl, hC⟩ := stable_any b off c K m cp l w wr A HH.out hK hI
      have hm2 : m = (fiS l K).size := by obtain ⟨g', e, _, _, _, e2, _⟩ := fi_cells hI; rw [e2, (fiS_holds l K HN.out.symm).1, fiD_size]
      have HC := Lib.hid hC
      have HM := Lib.hid hm2
      clear hI hC hm2
      go_wp2_with fail
      refine HC.out.mono ?_
      rintro e w' ⟨rfl, d3, dr, hB⟩
      go_wp2
      go_ret
      exact ⟨gr, cp, by rw [HM.out]; rfl, dr, hB⟩

end Go.Proofs.Ytidkejmphhpjlaa.Wk
