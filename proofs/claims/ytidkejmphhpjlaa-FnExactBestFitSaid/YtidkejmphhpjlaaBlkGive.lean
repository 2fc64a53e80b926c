/- Plain mathematics of blocks: giving and taking, the order of giving. Conditions: none. -/
import Derived.Test.YtidkejmphhpjlaaBlk
namespace Go.Proofs.Ytidkejmphhpjlaa.Pl

/-! ## Giving: free a block, join free neighbours -/

/-- One block onto what has been made so far. -/
def put1 (out : List Blk) (b : Blk) : List Blk :=
  match out.getLast? with
  | some c => if c.u = false ∧ b.u = false then out.dropLast ++ [⟨c.s, c.z + b.z, false⟩] else out ++ [b]
  | none => [b]

/-- The same from the front: p is the free block that waits. -/
def mg : Option Blk → List Blk → List Blk
  | none, [] => []
  | some f, [] => [f]
  | none, b :: r => if b.u then b :: mg none r else mg (some b) r
  | some f, b :: r => if b.u then f :: b :: mg none r else mg (some ⟨f.s, f.z + b.z, false⟩) r

def wait (f : Option Blk) : List Blk := match f with | none => [] | some f => [f]

theorem put1_used (out : List Blk) (b : Blk) (hb : b.u = true) : put1 out b = out ++ [b] := by
  unfold put1
  cases h : out.getLast? with
  | none => rw [List.getLast?_eq_none_iff] at h; subst h; rfl
  | some c => simp [hb]

theorem put1_free_used (out : List Blk) (b : Blk) (h : ∀ c, out.getLast? = some c → c.u = true) : put1 out b = out ++ [b] := by
  unfold put1
  cases hl : out.getLast? with
  | none => rw [List.getLast?_eq_none_iff] at hl; subst hl; rfl
  | some c => simp [h c hl]

theorem put1_free (out : List Blk) (f b : Blk) (hf : f.u = false) (hb : b.u = false) : put1 (out ++ [f]) b = out ++ [⟨f.s, f.z + b.z, false⟩] := by
  unfold put1
  simp [hf, hb]

theorem foldl_put1 (l : List Blk) : (∀ out : List Blk, (∀ c, out.getLast? = some c → c.u = true) → l.foldl put1 out = out ++ mg none l) ∧
    (∀ (out : List Blk) (f : Blk), f.u = false → l.foldl put1 (out ++ [f]) = out ++ mg (some f) l) := by
  induction l with
  | nil => simp [mg]
  | cons b r ih =>
    constructor
    · intro out h
      simp only [List.foldl_cons, mg]
      cases hb : b.u
      · simp only [Bool.false_eq_true, if_false]
        rw [put1_free_used out b h, ih.2 out b hb]
      · simp only [if_true]
        rw [put1_used out b hb, ih.1 _ (by simp [hb])]
        simp
    · intro out f hf
      simp only [List.foldl_cons, mg]
      cases hb : b.u
      · simp only [Bool.false_eq_true, if_false]
        rw [put1_free out f b hf hb, ih.2 out ⟨f.s, f.z + b.z, false⟩ rfl]
      · simp only [if_true]
        rw [put1_used _ b hb, ih.1 _ (by simp [hb])]
        simp

theorem foldl_put1_nil (l : List Blk) : l.foldl put1 [] = mg none l := by
  simpa using (foldl_put1 l).1 [] (by simp)

/-- The used block that begins with word s becomes free. -/
def fr1 (s : Int) (b : Blk) : Blk := if b.s = s then ⟨b.s, b.z, false⟩ else b
def fr (s : Int) (l : List Blk) : List Blk := l.map (fr1 s)

theorem fr1_free (s : Int) (b : Blk) (h : b.u = false) : fr1 s b = b := by
  unfold fr1; split
  · exact Blk.ext' rfl rfl h.symm
  · rfl
theorem fr1_comm (s t : Int) (b : Blk) : fr1 s (fr1 t b) = fr1 t (fr1 s b) := by
  have e : ∀ x : Int, (fr1 x b).s = b.s ∧ (fr1 x b).z = b.z := by
    intro x; unfold fr1; split <;> exact ⟨rfl, rfl⟩
  have u : ∀ x y : Int, fr1 x (fr1 y b) = if b.s = x ∨ b.s = y then ⟨b.s, b.z, false⟩ else b := by
    intro x y
    by_cases hx : b.s = x
    · rw [if_pos (.inl hx)]
      have := e y
      rw [fr1, if_pos (by rw [this.1]; exact hx), this.1, this.2]
    · rw [fr1, if_neg (by rw [(e y).1]; exact hx), fr1]
      by_cases hy : b.s = y
      · rw [if_pos hy, if_pos (.inr hy)]
      · rw [if_neg hy, if_neg (by rintro (h | h); exact hx h; exact hy h)]
  rw [u, u]
  by_cases h : b.s = s ∨ b.s = t
  · rw [if_pos h, if_pos h.symm]
  · rw [if_neg h, if_neg (fun g => h g.symm)]
theorem fr_comm (s t : Int) (l : List Blk) : fr s (fr t l) = fr t (fr s l) := by
  simp [fr, fr1_comm]
theorem fr1_u (s : Int) (b : Blk) : (fr1 s b).u = false ∨ fr1 s b = b := by
  unfold fr1; split
  · exact .inl rfl
  · exact .inr rfl

def joinF (p : Option Blk) (f : Blk) : Blk := match p with | none => f | some g => ⟨g.s, g.z + f.z, false⟩
def Free (p : Option Blk) : Prop := ∀ g, p = some g → g.u = false

theorem mg_free (p : Option Blk) (b : Blk) (r : List Blk) (hb : b.u = false) : mg p (b :: r) = mg (some (joinF p b)) r := by
  cases p <;> simp [mg, hb, joinF]
theorem mg_used (p : Option Blk) (b : Blk) (r : List Blk) (hb : b.u = true) : mg p (b :: r) = wait p ++ b :: mg none r := by
  cases p <;> simp [mg, hb, wait]

/-- Joining before another block is given changes nothing. -/
theorem mg_fr (s : Int) (l : List Blk) : (∀ p, mg p (fr s (mg none l)) = mg p (fr s l)) ∧
    (∀ p f, f.u = false → mg p (fr s (mg (some f) l)) = mg (some (joinF p f)) (fr s l)) := by
  induction l with
  | nil =>
    constructor
    · intro p; simp [mg, fr]
    · intro p f hf
      simp only [mg, fr, List.map_cons, List.map_nil, fr1_free s f hf]
      rw [mg_free p f [] hf]
      rfl
  | cons b r ih =>
    have key : ∀ p : Option Blk, b.u = true → mg p (fr s (b :: mg none r)) = mg p (fr s (b :: r)) := by
      intro p hb
      simp only [fr, List.map_cons] at ih ⊢
      cases hu : (fr1 s b).u
      · rw [mg_free _ _ _ hu, mg_free _ _ _ hu]; exact ih.1 _
      · rw [mg_used _ _ _ hu, mg_used _ _ _ hu, ih.1 none]
    constructor
    · intro p
      cases hb : b.u
      · rw [mg_free none b r hb]
        simp only [joinF]
        rw [ih.2 p b hb]
        simp only [fr, List.map_cons, fr1_free s b hb]
        rw [mg_free p b _ hb]
      · rw [mg_used none b r hb]
        simp only [wait, List.nil_append]
        exact key p hb
    · intro p f hf
      cases hb : b.u
      · rw [mg_free (some f) b r hb]
        have := ih.2 p (joinF (some f) b) rfl
        rw [this]
        simp only [fr, List.map_cons, fr1_free s b hb]
        rw [mg_free _ b _ hb]
        congr 2
        cases p with
        | none => rfl
        | some g => simp [joinF, Int.add_assoc]
      · rw [mg_used (some f) b r hb]
        simp only [wait, List.cons_append, List.nil_append, fr, List.map_cons, fr1_free s f hf]
        rw [mg_free p f _ hf]
        have := key (some (joinF p f)) hb
        simpa [fr] using this

/-- Joining two free neighbours ahead of time changes nothing. -/
theorem mg_pair (A C : List Blk) (f g : Blk) (hf : f.u = false) (hg : g.u = false) (p : Option Blk) :
    mg p (A ++ f :: g :: C) = mg p (A ++ ⟨f.s, f.z + g.z, false⟩ :: C) := by
  induction A generalizing p with
  | nil =>
    simp only [List.nil_append]
    rw [mg_free p f _ hf, mg_free _ g _ hg, mg_free p _ _ rfl]
    congr 2
    cases p with
    | none => rfl
    | some h => simp [joinF, Int.add_assoc]
  | cons b A ih =>
    simp only [List.cons_append]
    cases hb : b.u
    · rw [mg_free _ _ _ hb, mg_free _ _ _ hb, ih]
    · rw [mg_used _ _ _ hb, mg_used _ _ _ hb, ih]

/-- Valid blocks stay as they are. -/
theorem mg_ok {a e : Int} {l : List Blk} (pf : Bool) (h : Ok a pf l e) : (pf = false → mg none l = l) ∧ (∀ f : Blk, pf = true → mg (some f) l = f :: l) := by
  induction l generalizing a pf with
  | nil => simp [mg]
  | cons b r ih =>
    obtain ⟨h1, h2, h3, h4⟩ := h
    constructor
    · intro hp
      cases hb : b.u
      · rw [mg_free none b r hb]; simp only [joinF]
        rw [hb] at h4
        exact (ih _ h4).2 b rfl
      · rw [mg_used none b r hb]; simp only [wait, List.nil_append]
        rw [hb] at h4
        rw [(ih _ h4).1 rfl]
    · intro f hp
      have hb : b.u = true := by rcases h3 with h | h; · rw [hp] at h; cases h
                                 · exact h
      rw [mg_used (some f) b r hb]; simp only [wait, List.cons_append, List.nil_append]
      rw [hb] at h4
      rw [(ih _ h4).1 rfl]

/-- What lies between a and e, neighbours aside. -/
def Til : Int → List Blk → Int → Prop
  | a, [], e => a = e
  | a, b :: r, e => b.s = a ∧ 1 ≤ b.z ∧ Til (a + b.z) r e

theorem Til_of_Ok {a e : Int} {pf : Bool} {l : List Blk} (h : Ok a pf l e) : Til a l e := by
  induction l generalizing a pf with
  | nil => exact h
  | cons b r ih => exact ⟨h.1, h.2.1, ih h.2.2.2⟩

theorem Til_fr {a e : Int} {l : List Blk} (s : Int) (h : Til a l e) : Til a (fr s l) e := by
  induction l generalizing a with
  | nil => exact h
  | cons b r ih =>
    have e1 : (fr1 s b).s = b.s ∧ (fr1 s b).z = b.z := by unfold fr1; split <;> exact ⟨rfl, rfl⟩
    exact ⟨by rw [e1.1]; exact h.1, by rw [e1.2]; exact h.2.1, by rw [e1.2]; exact ih h.2.2⟩

theorem mg_til {a e : Int} {l : List Blk} (h : Til a l e) : (Ok a false (mg none l) e) ∧ (∀ f : Blk, f.u = false → 1 ≤ f.z → f.s + f.z = a → Ok f.s false (mg (some f) l) e) := by
  induction l generalizing a with
  | nil =>
    simp only [Til] at h; subst h
    exact ⟨rfl, fun f hf h1 h2 => ⟨rfl, h1, .inl rfl, h2⟩⟩
  | cons b r ih =>
    obtain ⟨h1, h2, h3⟩ := h
    have I := ih h3
    constructor
    · cases hb : b.u
      · rw [mg_free none b r hb]; simp only [joinF]
        have := I.2 b hb h2 (by omega)
        rw [h1] at this; exact this
      · rw [mg_used none b r hb]; simp only [wait, List.nil_append]
        exact ⟨h1, h2, .inl rfl, by rw [hb]; exact I.1⟩
    · intro f hf hz hs
      cases hb : b.u
      · rw [mg_free (some f) b r hb]; simp only [joinF]
        exact I.2 ⟨f.s, f.z + b.z, false⟩ rfl (by show 1 ≤ f.z + b.z; omega) (by show f.s + (f.z + b.z) = a + b.z; omega)
      · rw [mg_used (some f) b r hb]; simp only [wait, List.cons_append, List.nil_append]
        exact ⟨rfl, hz, .inl rfl, by rw [hf, hs]; exact ⟨h1, h2, .inr hb, by rw [hb]; exact I.1⟩⟩

theorem mg_fw (l : List Blk) : (fw (mg none l) = fw l) ∧ (∀ f : Blk, f.u = false → fw (mg (some f) l) = f.z + fw l) := by
  induction l with
  | nil => exact ⟨rfl, fun f hf => by simp [mg, fw, hf]⟩
  | cons b r ih =>
    constructor
    · cases hb : b.u
      · rw [mg_free none b r hb]; simp only [joinF]; rw [ih.2 b hb]; simp [fw, hb]
      · rw [mg_used none b r hb]; simp [wait, fw, hb, ih.1]
    · intro f hf
      cases hb : b.u
      · rw [mg_free (some f) b r hb]; simp only [joinF]; rw [ih.2 _ rfl]; simp [fw, hb]; omega
      · rw [mg_used (some f) b r hb]; simp [wait, fw, hb, hf, ih.1]

theorem mg_len (l : List Blk) : (mg none l).length ≤ l.length ∧ ∀ f : Blk, (mg (some f) l).length ≤ l.length + 1 := by
  induction l with
  | nil => simp [mg]
  | cons b r ih =>
    constructor
    · cases hb : b.u
      · rw [mg_free none b r hb]; have := ih.2 (joinF none b); simp; omega
      · rw [mg_used none b r hb]; simp [wait]; exact ih.1
    · intro f
      cases hb : b.u
      · rw [mg_free (some f) b r hb]; have := ih.2 (joinF (some f) b); simp; omega
      · rw [mg_used (some f) b r hb]; simp [wait]; exact ih.1

/-- At most as many blocks go as free neighbours meet. -/
def adj : Bool → List Blk → Nat
  | _, [] => 0
  | pf, b :: r => (if pf = true ∧ b.u = false then 1 else 0) + adj (!b.u) r

theorem mg_len_ge (l : List Blk) : (mg none l).length + adj false l = l.length ∧ ∀ f : Blk, (mg (some f) l).length + adj true l = l.length + 1 := by
  induction l with
  | nil => simp [mg, adj]
  | cons b r ih =>
    constructor
    · cases hb : b.u
      · rw [mg_free none b r hb]; have := ih.2 (joinF none b); simp [adj, hb]; omega
      · rw [mg_used none b r hb]; have := ih.1; simp [wait, adj, hb]; omega
    · intro f
      cases hb : b.u
      · rw [mg_free (some f) b r hb]; have := ih.2 (joinF (some f) b); simp [adj, hb]; omega
      · rw [mg_used (some f) b r hb]; have := ih.1; simp [wait, adj, hb]; omega

/-! ## Freeing block n -/
def set0 (l : List Blk) (n : Nat) : List Blk := l.set n ⟨(bk l n).s, (bk l n).z, false⟩
def give (l : List Blk) (n : Nat) : List Blk := mg none (set0 l n)

theorem starts {a e : Int} {l : List Blk} (h : Til a l e) : ∀ b ∈ l, a ≤ b.s := by
  induction l generalizing a with
  | nil => simp
  | cons c r ih =>
    intro b hb
    rcases List.mem_cons.1 hb with rfl | hb
    · rw [h.1]; omega
    · have := ih h.2.2 b hb; have := h.2.1; omega

theorem set0_eq_fr {a e : Int} {l : List Blk} (h : Til a l e) {n : Nat} (hn : n < l.length) : set0 l n = fr (bk l n).s l := by
  induction l generalizing a n with
  | nil => simp at hn
  | cons c r ih =>
    obtain ⟨h1, h2, h3⟩ := h
    cases n with
    | zero =>
      have hr : fr c.s r = r := by
        unfold fr
        rw [List.map_congr_left (g := id)]
        · simp
        · intro b hb
          have := starts h3 b hb
          unfold fr1; rw [if_neg (by omega)]; rfl
      simp [set0, bk, fr] at hr ⊢
      exact ⟨by simp [fr1], hr.symm⟩
    | succ m =>
      have hm : m < r.length := by simpa using hn
      have := ih h3 hm
      have e1 : bk (c :: r) (m + 1) = bk r m := by simp [bk]
      have hs : (bk r m).s ≠ c.s := by
        have := starts h3 (bk r m) (by rw [bk_eq hm]; exact List.getElem_mem hm)
        omega
      simp only [set0, e1, List.set_cons_succ, fr, List.map_cons] at this ⊢
      rw [this]
      congr 1
      unfold fr1; rw [if_neg (by omega)]

theorem give_valid {l : List Blk} {t : Int} (hv : V l t) {n : Nat} (hn : n < l.length) : V (give l n) t := by
  have ht := Til_of_Ok hv.2.2
  refine ⟨hv.1, hv.2.1, ?_⟩
  unfold give
  rw [set0_eq_fr ht hn]
  exact (mg_til (Til_fr _ ht)).1

theorem fw_set0 {l : List Blk} {n : Nat} (hn : n < l.length) (hu : (bk l n).u = true) : fw (set0 l n) = fw l + (bk l n).z := by
  induction l generalizing n with
  | nil => simp at hn
  | cons c r ih =>
    cases n with
    | zero => simp [bk] at hu; simp [set0, bk, fw, hu]; omega
    | succ m =>
      have e1 : bk (c :: r) (m + 1) = bk r m := by simp [bk]
      rw [e1] at hu ⊢
      have := ih (n := m) (by simpa using hn) hu
      simp only [set0, e1, List.set_cons_succ, fw] at this ⊢
      omega

theorem give_fw {l : List Blk} {n : Nat} (hn : n < l.length) (hu : (bk l n).u = true) : fw (give l n) = fw l + (bk l n).z := by
  unfold give; rw [(mg_fw _).1, fw_set0 hn hu]

theorem adj_set0 {a e : Int} {pf : Bool} {l : List Blk} (h : Ok a pf l e) (n : Nat) : adj pf (set0 l n) ≤ 2 ∧ (∀ c r, l = c :: r → adj pf (set0 l n) ≤ 2) := by
  have z : ∀ {a e : Int} {pf : Bool} {l : List Blk}, Ok a pf l e → adj pf l = 0 := by
    intro a e pf l h
    induction l generalizing a pf with
    | nil => rfl
    | cons c r ih =>
      obtain ⟨_, _, h3, h4⟩ := h
      simp only [adj, ih h4]
      rw [if_neg]
      rintro ⟨h5, h6⟩
      rcases h3 with h3 | h3
      · rw [h5] at h3; cases h3
      · rw [h6] at h3; cases h3
  have one : ∀ {a e : Int} {pf : Bool} {l : List Blk} (q : Bool), Ok a pf l e → adj q l ≤ 1 := by
    intro a e pf l q h
    cases l with
    | nil => simp [adj]
    | cons c r =>
      have := z h.2.2.2
      simp only [adj, this]; split <;> omega
  have main : adj pf (set0 l n) ≤ 2 := by
    induction l generalizing a pf n with
    | nil => simp [set0, adj]
    | cons c r ih =>
      cases n with
      | zero =>
        simp only [set0, List.set_cons_zero, adj]
        have := one (!false) h.2.2.2
        split <;> omega
      | succ m =>
        have e1 : bk (c :: r) (m + 1) = bk r m := by simp [bk]
        have := ih h.2.2.2 m
        have h0 := z (l := c :: r) h
        simp only [adj] at h0
        simp only [set0, e1, List.set_cons_succ, adj] at this ⊢
        omega
  exact ⟨main, fun _ _ _ => main⟩

theorem give_len {l : List Blk} {t : Int} (hv : V l t) (n : Nat) : (give l n).length ≤ l.length ∧ l.length ≤ (give l n).length + 2 := by
  have h1 := (mg_len_ge (set0 l n)).1
  have h2 := (adj_set0 hv.2.2 n).1
  have h3 : (set0 l n).length = l.length := by simp [set0]
  unfold give
  omega

/-! ## Taking -/
def take (l : List Blk) (n : Nat) (size : Int) : List Blk :=
  l.take n ++ ⟨(bk l n).s, size, true⟩ :: ((if size < (bk l n).z then [⟨(bk l n).s + size, (bk l n).z - size, false⟩] else []) ++ l.drop (n + 1))

theorem split_at {l : List Blk} {n : Nat} (hn : n < l.length) : l = l.take n ++ bk l n :: l.drop (n + 1) := by
  rw [← drop_cons' hn, List.take_append_drop]

theorem take_valid {l : List Blk} {t size : Int} (hv : V l t) {n : Nat} (hn : n < l.length) (hu : (bk l n).u = false) (h1 : 1 ≤ size) (h2 : size ≤ (bk l n).z) : V (take l n size) t := by
  refine ⟨hv.1, hv.2.1, ?_⟩
  have ho := hv.2.2
  rw [split_at hn, Ok_append] at ho
  obtain ⟨m, ho1, ho2⟩ := ho
  obtain ⟨a, b, c, d⟩ := ho2
  unfold take
  rw [Ok_append]
  refine ⟨m, ho1, a, h1, .inr rfl, ?_⟩
  rw [hu] at d
  split
  · refine ⟨by show (bk l n).s + size = m + size; omega, by show 1 ≤ (bk l n).z - size; omega, .inl rfl, ?_⟩
    have e1 : m + size + ((bk l n).z - size) = m + (bk l n).z := by omega
    show Ok (m + size + ((bk l n).z - size)) (!false) _ _
    rw [e1]; exact d
  · have e1 : size = (bk l n).z := by omega
    subst e1
    exact Ok_weaken d

theorem take_fw {l : List Blk} {size : Int} {n : Nat} (hn : n < l.length) (hu : (bk l n).u = false) (h2 : size ≤ (bk l n).z) : fw (take l n size) = fw l - size := by
  have e : fw l = fw (l.take n) + ((bk l n).z + fw (l.drop (n + 1))) := by
    conv => lhs; rw [split_at hn]
    rw [fw_append]; simp [fw, hu]
  unfold take
  rw [e, fw_append]
  simp only [fw, if_true]
  split <;> simp [fw] <;> omega

theorem take_len {l : List Blk} {size : Int} {n : Nat} (hn : n < l.length) : n < (take l n size).length ∧ (take l n size).length ≤ l.length + 1 := by
  unfold take
  split <;> simp <;> omega

theorem take_bk {l : List Blk} {size : Int} {n : Nat} (hn : n < l.length) : bk (take l n size) n = ⟨(bk l n).s, size, true⟩ := by
  have h : (l.take n).length = n := by simp; omega
  unfold bk take
  rw [List.getD_eq_getElem?_getD, List.getElem?_append_right (by omega), h]
  simp [bk]

theorem give_take {l : List Blk} {t size : Int} (hv : V l t) {n : Nat} (hn : n < l.length) (hu : (bk l n).u = false) (h2 : size ≤ (bk l n).z) : give (take l n size) n = l := by
  have h : (l.take n).length = n := by simp; omega
  have hs : set0 (take l n size) n = l.take n ++ ⟨(bk l n).s, size, false⟩ :: ((if size < (bk l n).z then [⟨(bk l n).s + size, (bk l n).z - size, false⟩] else []) ++ l.drop (n + 1)) := by
    unfold set0
    rw [take_bk hn]
    unfold take
    rw [List.set_append_right _ _ (by omega), h]
    simp
  unfold give
  rw [hs]
  have hm : mg none l = l := (mg_ok false hv.2.2).1 rfl
  split
  · simp only [List.cons_append, List.nil_append]
    rw [mg_pair _ _ _ _ rfl rfl none]
    have e1 : (⟨(bk l n).s, size + ((bk l n).z - size), false⟩ : Blk) = bk l n := Blk.ext' rfl (by show size + ((bk l n).z - size) = _; omega) hu.symm
    show mg none (l.take n ++ ⟨(bk l n).s, size + ((bk l n).z - size), false⟩ :: l.drop (n + 1)) = l
    rw [e1, ← split_at hn, hm]
  · have e1 : (⟨(bk l n).s, size, false⟩ : Blk) = bk l n := Blk.ext' rfl (by show size = _; omega) hu.symm
    simp only [List.nil_append]
    rw [e1, ← split_at hn, hm]

/-- The order of giving does not matter. -/
theorem give_fr {l : List Blk} {t : Int} (hv : V l t) {n : Nat} (hn : n < l.length) : give l n = mg none (fr (bk l n).s l) := by
  unfold give; rw [set0_eq_fr (Til_of_Ok hv.2.2) hn]

theorem give_give {l : List Blk} {t : Int} (hv : V l t) {n m : Nat} (hn : n < l.length) (hm : m < (give l n).length) :
    give (give l n) m = mg none (fr (bk (give l n) m).s (fr (bk l n).s l)) := by
  rw [give_fr (give_valid hv hn) hm, give_fr hv hn, (mg_fr _ _).1]

end Go.Proofs.Ytidkejmphhpjlaa.Pl
