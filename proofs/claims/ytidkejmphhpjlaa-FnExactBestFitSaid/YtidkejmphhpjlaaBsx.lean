/- bySize at up to 256 blocks. Conditions: 1 to 256 blocks. -/
import Derived.Test.YtidkejmphhpjlaaMgd
namespace Go.Proofs.Ytidkejmphhpjlaa.Wk
open Go.RowKit Go.Proofs.Ytidkejmphhpjlaa.Pl

/-- The free places in the stable order. -/
structure FiOk (l : List Blk) (K : Nat) (D : Array (Fin (K + 1))) : Prop where
  size : D.size = (fiN l (K + 1)).length
  sorted : Go.Sort.SortedIn (ltx (fun i : Fin (K + 1) => i.val) l) 0 D.size D
  mem : ∀ i : Nat, (i < l.length ∧ (bk l i).u = false) ↔ ∃ m, m < D.size ∧ D[m]!.val = i

theorem ltx_of {α : Type} (v : α → Nat) (l : List Blk) {x y : α} (h : LTx v l x y) : ltx v l y x = false := by
  unfold ltx
  rw [decide_eq_false_iff_not]
  unfold LTx at h
  omega
theorem fiok_of {l : List Blk} {K : Nat} (hl : l.length = K + 1) {D : Array (Fin (K + 1))} (hp : Go.Sort.PermIn 0 (fiD l K).size (fiD l K) D) (hS : Seg (fun i : Fin (K + 1) => i.val) l D 0 (fiD l K).size) : FiOk l K D := by
  refine ⟨hp.1.trans (fiD_size l K), fun i j h1 h2 h3 => ?_, fun i => ?_⟩
  · exact ltx_of _ l (hS i j h1 h2 (by have := hp.1; omega))
  · rw [fiD_mem l K hl i]; exact perm_mem hp i

set_option maxHeartbeats 2000000 in
theorem stable_all (b off c K m cp : Nat) (l : List Blk) (w wr : World) (A : Option Addr) (h : Lst w w.heap.size (some ⟨b, off, none⟩) (K + 1) l) (hK : K + 1 ≤ 256) (hI : Idx w wr (.slice (some ⟨b, off, none⟩) (K + 1) c) l (K + 1) m cp A) :
    ∃ gr, A = some ⟨gr, 0, none⟩ ∧ Calls Try.prog 52 #[.iface 50 (.slice A m cp), .func (.func 53) #[] #[.pointer (some ⟨w.heap.size, 0, none⟩), .pointer (some ⟨w.heap.size + 1 + 1, 0, none⟩)]] wr fun e w' =>
      e = .returned (.tuple #[]) ∧ w'.cell? ⟨w.heap.size + 1 + 1, 0, none⟩ = some (.slice A m cp) ∧ ∃ D : Array (Fin (K + 1)), FiOk l K D ∧ m = D.size ∧ (∀ j, j < D.size → w'.cell? ⟨gr, j, none⟩ = some (.int .i64 (D[j]!.val : Int))) ∧ Below w.heap.size w w' := by
  obtain ⟨gr, rfl, hlt, hgw, hne3, rfl, hH⟩ := fi_cells hI
  refine ⟨gr, rfl, ?_⟩
  have c1 : wr.cell? ⟨w.heap.size, 0, none⟩ = some (.slice (some ⟨b, off, none⟩) (K + 1) c) := hI.box1.cell 0
  have c3 : wr.cell? ⟨w.heap.size + 1 + 1, 0, none⟩ = some (.slice (some ⟨gr, 0, none⟩) (fiD l K).size cp) := hI.box3.cell 0
  have hsz := hI.below.size
  have hl3 := hI.box3.lt
  by_cases h2 : 2 ≤ (fiD l K).size
  · have h20 : (fiD l K).size ≤ 256 := by rw [fiD_size]; have := fiN_le l (K + 1); omega
    have hless : LessReads Try.prog 53 #[.pointer (some ⟨w.heap.size, 0, none⟩), .pointer (some ⟨w.heap.size + 1 + 1, 0, none⟩)] (encF K) (ltz (fun i : Fin (K + 1) => i.val) l) gr 0 (fiD l K).size wr := by
      intro m' os dk hs i j hi hj
      have e : sortWorld (encF K) wr gr 0 m' dk os = Go.Sort.putRow (encF K) (Go.Sort.grow (Go.Sort.ahead wr m') os) gr 0 dk := by
        unfold sortWorld; rw [Go.Sort.putRow_grow _ (Go.Sort.ahead wr m') _ gr 0 _ hlt]
      have hHg : Go.Sort.Holds (encF K) (Go.Sort.grow (Go.Sort.ahead wr m') os) gr 0 (fiD l K) := Go.Sort.holds_grow _ _ _ gr 0 _ hlt (Go.Sort.holds_ahead _ _ _ _ _ _ hH)
      have far : ∀ (q o : Nat) (u : Value), q < wr.heap.size → q ≠ gr → wr.cell? ⟨q, o, none⟩ = some u → (sortWorld (encF K) wr gr 0 m' dk os).cell? ⟨q, o, none⟩ = some u := fun q o u hq hqg hu => by
        rw [e, Go.Sort.cell?_putRow_other _ _ gr 0 dk _ (Or.inl hqg), Go.Sort.cell?_grow _ _ _ (by exact hq)]
        exact hu
      have hrow : ∀ t, t < (fiD l K).size → (sortWorld (encF K) wr gr 0 m' dk os).cell? ⟨gr, 0 + t, none⟩ = some (.int .i64 (dk[t]!.val : Int)) := fun t ht => by
        rw [e]; exact Go.Sort.cell?_putRow (encF K) _ gr 0 (fiD l K) dk hHg hs t (by omega)
      have hlist : ∀ x : Fin (K + 1), (sortWorld (encF K) wr gr 0 m' dk os).cell? ⟨b, off + x.val * 3 + 1, none⟩ = some (.int .i64 (bk l x.val).z) := fun x => by
        obtain ⟨b', off', e', hbb, _, d1, _⟩ := (h.below hI.below (Nat.le_refl _)).cells x.val x.isLt
        simp only [Option.some.injEq, Addr.mk.injEq, and_true] at e'
        obtain ⟨rfl, rfl⟩ := e'
        exact far b _ _ (by omega) (by omega) d1
      exact less_by w.heap.size (w.heap.size + 1 + 1) b off (K + 1) c gr 0 (fiD l K).size cp i j dk[i]!.val dk[j]!.val _ _ _ (far _ _ _ (by omega) (by omega) c1) (far _ _ _ (by omega) (by omega) c3) (hrow i hi) (hrow j hj) (hlist _) (hlist _) hi hj dk[i]!.isLt dk[j]!.isLt
    obtain ⟨os0, hW⟩ : ∃ os0 : Array Obj, stableWorld Try.prog sst_ren 50 (some ⟨gr, 0, none⟩) (fiD l K).size cp wr = Go.Sort.grow wr os0 := ⟨_, by unfold stableWorld; rw [Go.Sort.alloc_eq_grow, Go.Sort.alloc_eq_grow, Go.Sort.grow_grow]⟩
    have hB : sliceBound Try.prog 3 siE 2 (some ⟨gr, 0, none⟩) (fiD l K).size cp = #[.slice (some ⟨gr, 0, none⟩) (fiD l K).size cp, typeHandle Try.prog 3] := by
      unfold sliceBound; rw [if_neg (swapperK_gt _ _ _ h2)]
    have hg0 : wr.grownBy (Go.Sort.grow wr os0) (some gr) := ⟨rfl, rfl, rfl, by simp [Go.Sort.grow], fun k hk _ => Go.Sort.heap_grow_old _ _ hk⟩
    have hF := stableF_any (encF K) (fun i : Fin (K + 1) => i.val) l 53 #[.pointer (some ⟨w.heap.size, 0, none⟩), .pointer (some ⟨w.heap.size + 1 + 1, 0, none⟩)] 65 #[.slice (some ⟨gr, 0, none⟩) (fiD l K).size cp, typeHandle Try.prog 3] gr (fiD l K).size (fiD l K) (Go.Sort.grow wr os0)
      (enters_of Try.func53 (by kernel_rfl) rfl) (hless.grow hlt os0)
      (swapSwaps_of_literal true 65 (fun args W => run_callFunc_extern Try.func65 (by kernel_rfl) (by kernel_rfl) (by kernel_rfl) (e := Extern.ReflectliteSwapper.swap true) (by kernel_rfl) args W) 3 siE (by kernel_rfl) (by kernel_rfl) (fun _ => by kernel_rfl) (encF K) (fun _ => rfl) gr 0 (fiD l K).size cp)
      (by rw [Go.Sort.size_grow]; omega) (Go.Sort.holds_grow (encF K) wr os0 gr 0 (fiD l K) hlt hH) rfl h20 (fiD_asc l K)
    have hS := Any.sort_SliceStable_of_stable sst 50 3 siT siE (by kernel_rfl) (by kernel_rfl) (by kernel_rfl) (by kernel_rfl) 2 (fun _ => by kernel_rfl) (some ⟨gr, 0, none⟩) (fiD l K).size cp (by omega) 65 (by rw [siK _ h2]; kernel_rfl) (.func 53) #[] #[.pointer (some ⟨w.heap.size, 0, none⟩), .pointer (some ⟨w.heap.size + 1 + 1, 0, none⟩)] wr
      (fun w' => ∃ d' : Array (Fin (K + 1)), SW (encF K) (Go.Sort.grow wr os0) gr 0 d' w' ∧ (Go.Sort.grow wr os0).grownBy w' (some gr) ∧ Go.Sort.PermIn 0 (fiD l K).size (fiD l K) d' ∧ Seg (fun i : Fin (K + 1) => i.val) l d' 0 (fiD l K).size)
      (by rw [hB, hW]; exact hF)
    refine Calls.mono (show Calls Try.prog 52 _ _ _ from hS) ?_
    rintro e w' ⟨rfl, D, hSW, hGB, hP, hQ⟩
    have hG := gb_trans hg0 hGB
    have hHD : Go.Sort.Holds (encF K) w' gr 0 D := hSW.holds (by rw [Go.Sort.size_grow]; omega) (Go.Sort.holds_grow (encF K) wr os0 gr 0 (fiD l K) hlt hH) hP.1
    refine ⟨rfl, gb_cell hG hl3 (fun e => hne3 e.symm) c3, D, fiok_of h.len.symm hP hQ, hP.1.symm, fun j hj => ?_, hI.below.grown hG hsz (fun k hk => by injection hk with hk; omega)⟩
    have := (hHD j hj).1
    rw [Nat.zero_add] at this
    exact this
  · have hm : (fiD l K).size = 0 ∨ (fiD l K).size = 1 := by omega
    have hf : ∃ f, Try.prog.funcs.findIdx? (·.name == "internal/reflectlite" ++ ".Swapper$" ++ toString (Lib.swapperK (fiD l K).size siE 2)) = some f := by
      rcases hm with e | e
      · rw [e]; exact ⟨61, by kernel_rfl⟩
      · rw [e]; exact ⟨62, by kernel_rfl⟩
    obtain ⟨f, hf⟩ := hf
    have hS := Any.sort_SliceStable_tiny sst 50 3 siT siE (by kernel_rfl) (by kernel_rfl) (by kernel_rfl) (by kernel_rfl) 2 (fun _ => by kernel_rfl) (some ⟨gr, 0, none⟩) (fiD l K).size cp (by omega) f hf (.func 53) #[] #[.pointer (some ⟨w.heap.size, 0, none⟩), .pointer (some ⟨w.heap.size + 1 + 1, 0, none⟩)] wr
    refine Calls.mono (show Calls Try.prog 52 _ _ _ from hS) ?_
    rintro e w' ⟨rfl, os, rfl⟩
    have hg : wr.grownBy (Go.Sort.grow wr os) none := ⟨rfl, rfl, rfl, by simp [Go.Sort.grow], fun k hk _ => Go.Sort.heap_grow_old _ _ hk⟩
    refine ⟨rfl, ?_, fiD l K, fiok_of h.len.symm (Go.Sort.permIn_refl _ _ _) (fun i j h1 h2 h3 => by omega), rfl, fun j hj => ?_, hI.below.grown hg hsz (fun k hk => by cases hk)⟩
    · rw [Go.Sort.cell?_grow _ _ _ (by exact hl3)]; exact c3
    · rw [Go.Sort.cell?_grow _ _ _ (by exact hlt)]
      have := (hH j hj).1
      rw [Nat.zero_add] at this
      exact this

set_option maxRecDepth 100000 in
set_option maxHeartbeats 4000000 in
theorem bySize_all (b off c K : Nat) (l : List Blk) (w : World) (h : Lst w w.heap.size (some ⟨b, off, none⟩) (K + 1) l) (hK : K + 1 ≤ 256) :
    Calls Try.prog 45 #[.slice (some ⟨b, off, none⟩) (K + 1) c] w fun e w' => ∃ (gr cp : Nat) (D : Array (Fin (K + 1))), FiOk l K D ∧ e = .returned (.slice (some ⟨gr, 0, none⟩) D.size cp) ∧ (∀ j, j < D.size → w'.cell? ⟨gr, j, none⟩ = some (.int .i64 (D[j]!.val : Int))) ∧ Below w.heap.size w w' := by
  have HH := Lib.hid h
  have HN := Lib.hid h.len
  have I0 := Lib.hid (Idx.start w (.slice (some ⟨b, off, none⟩) (K + 1) c) l)
  clear h
  go_enter Try.func45, Try.ntmps45
  go_wp2
  go_loopw [4, 5, 9] (fun _ _ i wr => ∃ (k m cp : Nat) (A : Option Addr), k ≤ K + 1 ∧ i = .int .i64 k ∧ Idx w wr (.slice (some ⟨b, off, none⟩) (K + 1) c) l k m cp A) (fun _ _ i _ => K + 1 - (intOf i).toNat)
  case atStart => exact ⟨0, 0, 0, _, Nat.zero_le _, rfl, I0.out⟩
  case round =>
    obtain ⟨k, m, cp, A, hk, rfl, hI⟩ := hrel
    have HI := Lib.hid hI
    have hm : m ≤ k := by have := hI.row.1; rw [fiv_len] at this; have := fiN_le l k; omega
    have hsz := hI.below.size
    have hg3 := hI.box3.lt
    by_cases hlt : k < K + 1
    · have hkl : k < l.length := by have := HN.out; omega
      obtain ⟨b', off', e', hbb, c0, c1, c2⟩ := (HH.out.below hI.below (Nat.le_refl _)).cells k hlt
      simp only [Option.some.injEq, Addr.mk.injEq, and_true] at e'
      obtain ⟨rfl, rfl⟩ := e'
      have hbw : b < wr.heap.size := by omega
      have i1 : (0 : Int) ≤ (k : Int) := by omega
      have i2 : (k : Int) < (K : Int) + 1 := by omega
      have j3 := hI.box3.cell 0
      have j3' : wr.cell? ⟨w.heap.size + 2, 0, none⟩ = some (.slice A m cp) := j3
      have j1 : wr.cell? ⟨w.heap.size, 0, none⟩ = some (.slice (some ⟨b, off, none⟩) (K + 1) c) := hI.box1.cell 0
      cases hu : (bk l k).u
      · rw [hu] at c2
        obtain ⟨X, hX⟩ : ∃ X : World, (wr.alloc (.cells #[.int .i64 (bk l k).s, .int .i64 (bk l k).z, .bool false] 39)).alloc (.cells #[.int .i64 (k : Int)] 3) = X := ⟨_, rfl⟩
        have HX := Lib.hid (show Idx w X (.slice (some ⟨b, off, none⟩) (K + 1) c) l k m cp A by rw [← hX]; exact (HI.out.alloc _).alloc _)
        have HS := Lib.hid (show Shows X X.heap.size 1 (some ⟨wr.heap.size + 1, 0, none⟩) 1 [.int .i64 (k : Int)] by rw [← hX]; exact shows_one (bk_newI (wr.alloc (.cells #[.int .i64 (bk l k).s, .int .i64 (bk l k).z, .bool false] 39)) _ _ (by simp)))
        have HU := Lib.hid hu
        have hf3 := hI.box3.free 0
        clear hI hu j3
        go_wp2_with (at_builtin; go_loud (refine append_shown elem_I (by rfl) _ _ (by rfl) (w.heap.size + 1) X.heap.size (.slice A m cp) m 1 1 (fiv l k) [.int .i64 (k : Int)] (some ⟨wr.heap.size + 1, 0, none⟩) (by rfl) HX.out.row (by rfl) HS.out (by intro u hu; simp at hu; subst hu; rfl) (by unfold maxLen; omega) (by omega) (by have := HX.out.box3.lt; omega) (m + 1) rfl ?_); intro A7 c7 w7 o7 b7 g7 t7; have k3 : w7.cell? ⟨w.heap.size + 2, 0, none⟩ = some (.slice A m cp) := (World.cell?_of_block (a := ⟨w.heap.size + 2, 0, none⟩) (g7.block (w.heap.size + 2) HX.out.box3.lt (fun e => HX.out.sep _ e.symm rfl))).trans (HX.out.box3.cell 0); have k4 : w7.frozen? ⟨w.heap.size + 2, 0, none⟩ = false := (World.frozen?_of_block (a := ⟨w.heap.size + 2, 0, none⟩) (g7.block (w.heap.size + 2) HX.out.box3.lt (fun e => HX.out.sep _ e.symm rfl))).trans (HX.out.box3.free 0))
        have H7 := Lib.hid (HX.out.add HU.out rfl o7 b7 g7 t7)
        clear o7 b7 g7 t7
        go_wp2
        go_roundw
        case rel => exact ⟨k + 1, m + 1, c7, A7, by omega, by go_num, H7.out⟩
        case measure => simp [intOf]; omega
      · rw [hu] at c2
        have HX := Lib.hid ((HI.out.alloc (.cells #[.int .i64 (bk l k).s, .int .i64 (bk l k).z, .bool true] 39)).skip hu)
        clear hI hu
        go_wp2
        go_roundw
        case rel => exact ⟨k + 1, m, cp, A, by omega, by go_num, HX.out⟩
        case measure => simp [intOf]; omega
    · obtain rfl : k = K + 1 := by omega
      have j3 : wr.cell? ⟨w.heap.size + 2, 0, none⟩ = some (.slice A m cp) := hI.box3.cell 0
      obtain ⟨gr, rfl, hC⟩ := stable_all b off c K m cp l w wr A HH.out hK hI
      have HC := Lib.hid hC
      clear hI hC
      go_wp2_with fail
      refine HC.out.mono ?_
      rintro e w' ⟨rfl, d3, D, hD, hm, dr, hB⟩
      go_wp2
      go_ret
      exact ⟨gr, cp, D, hD, by rw [← hm]; rfl, dr, hB⟩

end Go.Proofs.Ytidkejmphhpjlaa.Wk
