/- l20Open: the reader of a code stands. Conditions: none. -/
import Derived.Test.YtidkejmphhpjlaaDraw
namespace Go.Proofs.Ytidkejmphhpjlaa.Wk
open Go.RowKit

theorem row_range {z : List Int} (h : ∀ n ∈ z, (Lit.int .u8 n).wf = true) (i : Nat) : 0 ≤ z.getD i 0 ∧ z.getD i 0 ≤ 255 := by
  by_cases hi : i < z.length
  · have := h _ (List.getElem_mem hi)
    have e : z.getD i 0 = z[i] := by simp [List.getD, hi]
    rw [e]
    simpa [Lit.wf, IntKind.min, IntKind.max, IntKind.signed, IntKind.bits] using this
  · have e : z.getD i 0 = 0 := by simp [List.getD, show z.length ≤ i by omega]
    rw [e]; omega

theorem row_at {w : World} {a : Option Addr} {len cap : Nat} {z : List Int} (h : IsRow .u8 w a len cap z) : ∀ i, i < len → ∃ b off, a = some ⟨b, off, none⟩ ∧ b < w.heap.size ∧ w.cell? ⟨b, off + i, none⟩ = some (.int .u8 (z.getD i 0)) := by
  intro i hi
  rcases h with ⟨_, h, _⟩ | ⟨x, rfl, hl, hm, hz, hc, hw⟩
  · omega
  · have hci := hc i (by omega)
    have hc0 := hc 0 (by omega)
    obtain ⟨b, off, spot⟩ := x
    have hspot : spot = none := by simpa [Addr.add] using World.cell?_spot hc0
    subst hspot
    have hadd : (⟨b, off, none⟩ : Addr).add i = ⟨b, off + i, none⟩ := by unfold Addr.add; split <;> simp_all
    rw [hadd] at hci
    exact ⟨b, off, rfl, World.block_lt_of_cell? w _ hci, hci⟩

/-- The reader as l20Open leaves it. -/
def Opened (w : World) (e : Ending) (w' : World) : Prop :=
  ∃ (A : Option Addr) (n c : Nat) (z : List Int), e = .returned (.pointer (some ⟨w.heap.size, 0, none⟩)) ∧ Rdr w' w.heap.size A n c z 0 ∧ Below w.heap.size w w' ∧ w'.heap.size = w.heap.size + 1

theorem opened_mk {w : World} {A : Option Addr} {n c : Nat} {z : List Int} (hr : ∀ i : Nat, 0 ≤ z.getD i 0 ∧ z.getD i 0 ≤ 255) (hn : n ≤ 2000)
    (h : ∀ i, i < n → ∃ b off, A = some ⟨b, off, none⟩ ∧ b < w.heap.size ∧ w.cell? ⟨b, off + i, none⟩ = some (.int .u8 (z.getD i 0))) :
    Opened w (.returned (.pointer (some ⟨w.heap.size, 0, none⟩))) (w.alloc (.cells #[.slice A n c, .int .i64 0] 64)) := by
  refine ⟨A, n, c, z, rfl, ⟨heap_alloc_new w _, fun i hi => ?_, hr, hn⟩, (Below.refl _ _).alloc (Nat.le_refl _) _, by simp⟩
  obtain ⟨b, off, rfl, hb, hc⟩ := h i hi
  exact ⟨b, off, rfl, hb, by rw [World.cell?_alloc_lt w _ _ hb]; exact hc⟩

theorem open_any {a : Option Addr} {len cap : Nat} {z : List Int} {w : World} (h : IsRow .u8 w a len cap z) : Calls Try.prog 50 #[.slice a len cap] w (Opened w) := by
  have hat := row_at h
  have hr : ∀ i : Nat, 0 ≤ z.getD i 0 ∧ z.getD i 0 ≤ 255 := by
    rcases h with ⟨_, _, _, rfl⟩ | ⟨x, _, _, _, _, _, hw⟩
    · intro i; simp
    · exact row_range hw
  have hcap : len ≤ cap ∧ cap ≤ 9223372036854775807 := by
    rcases h with ⟨_, rfl, rfl, _⟩ | ⟨x, _, hl, hm, _⟩
    · omega
    · unfold maxLen at hm; exact ⟨hl, hm⟩
  obtain ⟨hc1, hc2⟩ := hcap
  have HA := Lib.hid hat
  clear hat h
  by_cases hl : len ≤ 2000
  · go_enter Try.func50, Try.ntmps50
    go_wp2
    go_ret
    exact opened_mk hr hl HA.out
  · obtain ⟨b, off, rfl, _, _⟩ := HA.out 0 (by omega)
    have hl2 : 2000 < len := by omega
    have hl3 : 2000 ≤ cap := by omega
    clear hl
    go_enter Try.func50, Try.ntmps50
    go_wp2
    go_ret
    exact opened_mk hr (Nat.le_refl _) (fun i hi => HA.out i (by omega))

/-- After the reader stands, a pick leaves what was there. -/
theorem only_below {B g : Nat} {w w1 w2 : World} (hb : Below B w w1) (ho : Only g w1 w2) (hB : B ≤ w1.heap.size) (hg : B ≤ g) : Below B w w2 :=
  hb.grown ho.grown hB (fun k hk => by injection hk with hk; omega)

/-- Block b is just the cells cs, none frozen. -/
def Bk (w : World) (b : Nat) (cs : Array Value) (T : TypeId) : Prop := w.heap[b]? = some (.cells cs T (0, 0))
theorem Bk.lt {w : World} {b : Nat} {cs : Array Value} {T : TypeId} (h : Bk w b cs T) : b < w.heap.size := (Array.getElem?_eq_some_iff.1 h).1
theorem Bk.cell {w : World} {b : Nat} {cs : Array Value} {T : TypeId} (h : Bk w b cs T) (i : Nat) : w.cell? ⟨b, i, none⟩ = cs[i]? := cell_of_row w b i cs T (0, 0) h
theorem Bk.free {w : World} {b : Nat} {cs : Array Value} {T : TypeId} (h : Bk w b cs T) (i : Nat) : w.frozen? ⟨b, i, none⟩ = false := by unfold Bk at h; simp [World.frozen?, h]
theorem Bk.new (w : World) (cs : Array Value) (T : TypeId) : Bk (w.alloc (.cells cs T)) w.heap.size cs T := heap_alloc_new w _
theorem Bk.alloc {w : World} {b : Nat} {cs : Array Value} {T : TypeId} (h : Bk w b cs T) (o : Obj) : Bk (w.alloc o) b cs T := (Below.heap_alloc w o b h.lt).trans h
theorem Bk.only {w w' : World} {g b : Nat} {cs : Array Value} {T : TypeId} (h : Bk w b cs T) (ho : Only g w w') (hb : b ≠ g) : Bk w' b cs T := (ho.grown.block b h.lt (fun e => hb (by injection e))).trans h
theorem Bk.gr {w w' : World} {g b : Nat} {cs : Array Value} {T : TypeId} (h : Bk w b cs T) (ho : w.grownBy w' (some g)) (hb : b ≠ g) : Bk w' b cs T := (ho.block b h.lt (fun e => hb (by injection e))).trans h
theorem Bk.below {w w' : World} {B b : Nat} {cs : Array Value} {T : TypeId} (h : Bk w b cs T) (hb : Below B w w') (hB : b < B) : Bk w' b cs T := (hb.block b hB).trans h
theorem Bk.far {w : World} {b : Nat} {cs : Array Value} {T : TypeId} (h : Bk w b cs T) {q : Addr} (hq : b ≠ q.block) (u : Value) : Bk (w.setCell q u) b cs T := (Below.heap_setCell w q u b hq).trans h
theorem Bk.set_ {w : World} {b : Nat} {cs : Array Value} {T : TypeId} (h : Bk w b cs T) (i : Nat) (u : Value) : Bk (w.setCell ⟨b, i, none⟩ u) b (cs.setIfInBounds i u) T := by
  unfold Bk at h ⊢
  simp [World.setCell, Array.getElem?_modify, h]

end Go.Proofs.Ytidkejmphhpjlaa.Wk
