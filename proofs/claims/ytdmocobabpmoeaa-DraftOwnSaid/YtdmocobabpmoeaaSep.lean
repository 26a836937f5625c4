/-
  Parts of the memory, apart from one another: what a call owns beside what was there when the law began. No program in sight.
-/
import Derived.Below
import Derived.Laws.AppendOwn
namespace Go.Sep
open Go.RowKit

abbrev Frag := Nat → Option Obj
abbrev HProp := Frag → Prop

def disj (a b : Frag) : Prop := ∀ i, a i = none ∨ b i = none
def sub (a h : Frag) : Prop := ∀ i o, a i = some o → h i = some o
def uni (a b : Frag) : Frag := fun i => match a i with | some o => some o | none => b i

def Owns (h : Frag) : List HProp → Prop
  | [] => True
  | A :: L => ∃ a b, disj a b ∧ sub a h ∧ sub b h ∧ A a ∧ Owns b L

def heapOf (w : World) : Frag := fun i => w.heap[i]?

theorem disj.symm {a b : Frag} (h : disj a b) : disj b a := fun i => (h i).symm
theorem sub.refl (a : Frag) : sub a a := fun _ _ h => h
theorem sub.trans {a b c : Frag} (h : sub a b) (k : sub b c) : sub a c := fun i o e => k i o (h i o e)
theorem disj.sub {a b a' b' : Frag} (h : disj a b) (ha : sub a' a) (hb : sub b' b) : disj a' b' := by
  intro i
  cases ea : a' i with
  | none => exact .inl rfl
  | some o =>
    cases eb : b' i with
    | none => exact .inr rfl
    | some o' =>
      have h1 := ha i o ea
      have h2 := hb i o' eb
      rcases h i with h | h <;> simp_all
theorem sub_uni_l (a b : Frag) : sub a (uni a b) := by
  intro i o h; simp [uni, h]
theorem sub_uni_r {a b : Frag} (hd : disj a b) : sub b (uni a b) := by
  intro i o h
  have : a i = none := by rcases hd i with h' | h'; exact h'; rw [h'] at h; cases h
  simp [uni, this, h]
theorem uni_sub {a b h : Frag} (ha : sub a h) (hb : sub b h) : sub (uni a b) h := by
  intro i o e
  unfold uni at e
  cases ha' : a i with
  | none => rw [ha'] at e; exact hb i o e
  | some x => rw [ha'] at e; simp only [Option.some.injEq] at e; subst e; exact ha i x ha'

theorem Owns.sub {h h' : Frag} (hs : sub h h') : ∀ {L : List HProp}, Owns h L → Owns h' L
  | [], _ => trivial
  | _ :: _, ⟨a, b, hd, ha, hb, hA, hL⟩ => ⟨a, b, hd, ha.trans hs, hb.trans hs, hA, hL⟩

theorem Owns.perm {L L' : List HProp} (p : L.Perm L') : ∀ {h : Frag}, Owns h L → Owns h L' := by
  induction p with
  | nil => intro h H; exact H
  | cons A p ih => rintro h ⟨a, b, hd, ha, hb, hA, hL⟩; exact ⟨a, b, hd, ha, hb, hA, ih hL⟩
  | swap A B L =>
    rintro h ⟨a, b, hd, ha, hb, hB, c, d, hd', hc, hdd, hA, hL⟩
    refine ⟨c, uni a d, ?_, hc.trans hb, uni_sub ha (hdd.trans hb), hA, a, d, hd.sub (sub.refl _) hdd, sub_uni_l _ _, sub_uni_r (hd.sub (sub.refl _) hdd), hB, hL⟩
    intro i
    have h1 := hd i
    have h2 := hd' i
    unfold uni
    cases ea : a i with
    | none => simp only; exact h2
    | some o =>
      simp only
      rw [ea] at h1
      rcases h1 with h1 | h1
      · cases h1
      · cases ec : c i with
        | none => exact .inl rfl
        | some o' => rw [hc i o' ec] at h1; cases h1
  | trans _ _ ih1 ih2 => intro h H; exact ih2 (ih1 H)

theorem Owns.flat : ∀ (L1 : List HProp) {h : Frag} {L : List HProp}, Owns h ((fun h => Owns h L1) :: L) → Owns h (L1 ++ L)
  | [], h, L, ⟨a, b, hd, ha, hb, hA, hL⟩ => hL.sub hb
  | A :: L1, h, L, ⟨a, b, hd, ha, hb, ⟨c, d, hd', hc, hdd, hA, hL1⟩, hL⟩ => by
    refine ⟨c, uni d b, ?_, hc.trans ha, uni_sub (hdd.trans ha) hb, hA, Owns.flat L1 ⟨d, b, hd.sub hdd (sub.refl _), sub_uni_l _ _, sub_uni_r (hd.sub hdd (sub.refl _)), hL1, hL⟩⟩
    intro i
    unfold uni
    cases ed : d i with
    | some o => simp only; rcases hd' i with h | h; exact .inl h; rw [ed] at h; cases h
    | none =>
      simp only
      rcases hd i with h | h
      · left
        cases ec : c i with
        | none => rfl
        | some o => rw [hc i o ec] at h; cases h
      · exact .inr h

theorem Owns.pack : ∀ (L1 : List HProp) {h : Frag} {L : List HProp}, Owns h (L1 ++ L) → Owns h ((fun h => Owns h L1) :: L)
  | [], h, L, H => ⟨fun _ => none, h, fun _ => .inl rfl, fun _ _ e => (by cases e), sub.refl _, trivial, H⟩
  | A :: L1, h, L, ⟨a, b, hd, ha, hb, hA, hL⟩ => by
    obtain ⟨c, d, hd', hc, hdd, hL1, hL2⟩ := Owns.pack L1 hL
    refine ⟨uni a c, d, ?_, uni_sub ha (hc.trans hb), hdd.trans hb, ⟨a, c, hd.sub (sub.refl _) hc, sub_uni_l _ _, sub_uni_r (hd.sub (sub.refl _) hc), hA, hL1⟩, hL2⟩
    intro i
    unfold uni
    cases ea : a i with
    | some o =>
      simp only
      rcases hd i with h | h
      · rw [ea] at h; cases h
      · right
        cases ed : d i with
        | none => rfl
        | some o' => rw [hdd i o' ed] at h; cases h
    | none => simp only; exact hd' i

/-- The world w, come to from W: what W had is as it was; beside it, in blocks of its own each, what L says. -/
structure St (W w : World) (L : List HProp) : Prop where
  below : Below W.heap.size W w
  own : ∃ h : Frag, (∀ i, i < W.heap.size → h i = none) ∧ sub h (heapOf w) ∧ Owns h L

theorem St.start (W : World) : St W W [] := ⟨Below.refl _ _, fun _ => none, fun _ _ => rfl, fun _ _ e => (by cases e), trivial⟩
theorem St.perm {W w : World} {L L' : List HProp} (H : St W w L) (p : L.Perm L') : St W w L' :=
  ⟨H.below, let ⟨h, h1, h2, h3⟩ := H.own; ⟨h, h1, h2, h3.perm p⟩⟩
theorem St.up1 {W w : World} {A B : HProp} {L : List HProp} (H : St W w (A :: B :: L)) : St W w (B :: A :: L) := H.perm (.swap ..)
theorem St.up2 {W w : World} {A B C : HProp} {L : List HProp} (H : St W w (A :: B :: C :: L)) : St W w (C :: A :: B :: L) :=
  H.perm (by exact (List.perm_middle (l₁ := [A, B]) (l₂ := L)))
theorem St.up3 {W w : World} {A B C D : HProp} {L : List HProp} (H : St W w (A :: B :: C :: D :: L)) : St W w (D :: A :: B :: C :: L) :=
  H.perm (List.perm_middle (l₁ := [A, B, C]) (l₂ := L))
theorem St.up4 {W w : World} {A B C D E : HProp} {L : List HProp} (H : St W w (A :: B :: C :: D :: E :: L)) : St W w (E :: A :: B :: C :: D :: L) :=
  H.perm (List.perm_middle (l₁ := [A, B, C, D]) (l₂ := L))
theorem St.up5 {W w : World} {A B C D E F : HProp} {L : List HProp} (H : St W w (A :: B :: C :: D :: E :: F :: L)) : St W w (F :: A :: B :: C :: D :: E :: L) :=
  H.perm (List.perm_middle (l₁ := [A, B, C, D, E]) (l₂ := L))
/-- back to its place -/
theorem St.dn2 {W w : World} {A B C : HProp} {L : List HProp} (H : St W w (C :: A :: B :: L)) : St W w (A :: B :: C :: L) :=
  H.perm (List.perm_middle (l₁ := [A, B]) (l₂ := L)).symm
theorem St.dn3 {W w : World} {A B C D : HProp} {L : List HProp} (H : St W w (D :: A :: B :: C :: L)) : St W w (A :: B :: C :: D :: L) :=
  H.perm (List.perm_middle (l₁ := [A, B, C]) (l₂ := L)).symm
theorem St.dn4 {W w : World} {A B C D E : HProp} {L : List HProp} (H : St W w (E :: A :: B :: C :: D :: L)) : St W w (A :: B :: C :: D :: E :: L) :=
  H.perm (List.perm_middle (l₁ := [A, B, C, D]) (l₂ := L)).symm
theorem St.dn5 {W w : World} {A B C D E F : HProp} {L : List HProp} (H : St W w (F :: A :: B :: C :: D :: E :: L)) : St W w (A :: B :: C :: D :: E :: F :: L) :=
  H.perm (List.perm_middle (l₁ := [A, B, C, D, E]) (l₂ := L)).symm

theorem fm_congr {α β : Type} {f g : α → Option β} : ∀ {l : List α}, (∀ x ∈ l, f x = g x) → l.filterMap f = l.filterMap g
  | [], _ => rfl
  | x :: r, h => by
    rw [List.filterMap_cons, List.filterMap_cons, h x (by simp), fm_congr (fun y hy => h y (by simp [hy]))]
theorem perm_range {α : Type} : ∀ (P : List α) (d : Nat), ((List.range' d P.length).filterMap fun i => if d ≤ i then P[i - d]? else none) = P
  | [], d => by simp
  | x :: r, d => by
    have ih := perm_range r (d + 1)
    simp only [List.length_cons, List.range'_succ, List.filterMap_cons]
    rw [if_pos (Nat.le_refl d), Nat.sub_self, List.getElem?_cons_zero]
    simp only
    congr 1
    conv => rhs; rw [← ih]
    refine fm_congr fun i hi => ?_
    have : d + 1 ≤ i := (List.mem_range'_1.1 hi).1
    rw [if_pos (by omega), if_pos this]
    obtain ⟨j, rfl⟩ : ∃ j, i = d + 1 + j := ⟨i - (d + 1), by omega⟩
    have e1 : d + 1 + j - d = j + 1 := by omega
    have e2 : d + 1 + j - (d + 1) = j := by omega
    rw [e1, e2, List.getElem?_cons_succ]
/-- The first ones, in another order. -/
theorem St.pm {W w : World} {L : List HProp} {P : List HProp} (is : List Nat) (H : St W w (P ++ L)) (hp : (List.range' 0 P.length).isPerm is = true) : St W w ((is.filterMap fun i => P[i]?) ++ L) := by
  refine H.perm (List.Perm.append_right _ ?_)
  have h := perm_range P 0
  simp only [Nat.zero_le, if_true, Nat.sub_zero] at h
  conv => lhs; rw [← h]
  exact List.Perm.filterMap _ (List.isPerm_iff.1 hp)
theorem St.drop {W w : World} {A : HProp} {L : List HProp} (H : St W w (A :: L)) : St W w L := by
  obtain ⟨hb, h, h1, h2, a, b, _, _, hb', _, hL⟩ := H
  exact ⟨hb, h, h1, h2, hL.sub hb'⟩
theorem St.mono {W w : World} {A B : HProp} {L : List HProp} (H : St W w (A :: L)) (hab : ∀ h, A h → B h) : St W w (B :: L) := by
  obtain ⟨hb, h, h1, h2, a, b, h3, h4, hb', hA, hL⟩ := H
  exact ⟨hb, h, h1, h2, a, b, h3, h4, hb', hab _ hA, hL⟩

/-! ### Words -/
def ex {α : Type} (A : α → HProp) : HProp := fun h => ∃ x, A x h
def pr (p : Prop) (A : HProp) : HProp := fun h => p ∧ A h
def all (L : List HProp) : HProp := fun h => Owns h L

theorem St.ex {W w : World} {α : Type} {A : α → HProp} {L : List HProp} (H : St W w (ex A :: L)) : ∃ x, St W w (A x :: L) := by
  obtain ⟨hb, h, h1, h2, a, b, h3, h4, hb', ⟨x, hA⟩, hL⟩ := H
  exact ⟨x, hb, h, h1, h2, a, b, h3, h4, hb', hA, hL⟩
theorem St.ex_mk {W w : World} {α : Type} {A : α → HProp} {L : List HProp} (x : α) (H : St W w (A x :: L)) : St W w (Sep.ex A :: L) := H.mono fun _ h => ⟨x, h⟩
theorem St.pr {W w : World} {p : Prop} {A : HProp} {L : List HProp} (H : St W w (pr p A :: L)) : p ∧ St W w (A :: L) := by
  refine ⟨?_, H.mono fun _ h => h.2⟩
  obtain ⟨hb, h, h1, h2, a, b, h3, h4, hb', hA, hL⟩ := H
  exact hA.1
theorem St.pr_mk {W w : World} {p : Prop} {A : HProp} {L : List HProp} (hp : p) (H : St W w (A :: L)) : St W w (Sep.pr p A :: L) := H.mono fun _ h => ⟨hp, h⟩
theorem St.all {W w : World} {L1 L : List HProp} (H : St W w (all L1 :: L)) : St W w (L1 ++ L) :=
  ⟨H.below, let ⟨h, h1, h2, h3⟩ := H.own; ⟨h, h1, h2, Owns.flat L1 h3⟩⟩
theorem St.all_mk {W w : World} {L1 L : List HProp} (H : St W w (L1 ++ L)) : St W w (Sep.all L1 :: L) :=
  ⟨H.below, let ⟨h, h1, h2, h3⟩ := H.own; ⟨h, h1, h2, Owns.pack L1 h3⟩⟩

/-- A head, written out. -/
theorem St.cons_iff {W w : World} {A : HProp} {L : List HProp} : St W w (A :: L) ↔ Below W.heap.size W w ∧ ∃ a b : Frag, disj a b ∧ (∀ i, i < W.heap.size → a i = none) ∧ (∀ i, i < W.heap.size → b i = none) ∧ sub a (heapOf w) ∧ sub b (heapOf w) ∧ A a ∧ Owns b L := by
  constructor
  · rintro ⟨hb, h, h1, h2, a, b, h3, h4, h5, hA, hL⟩
    refine ⟨hb, a, b, h3, ?_, ?_, h4.trans h2, h5.trans h2, hA, hL⟩
    · intro i hi
      cases e : a i with
      | none => rfl
      | some o => have := h4 i o e; rw [h1 i hi] at this; cases this
    · intro i hi
      cases e : b i with
      | none => rfl
      | some o => have := h5 i o e; rw [h1 i hi] at this; cases this
  · rintro ⟨hb, a, b, h3, ha, hb', h4, h5, hA, hL⟩
    exact ⟨hb, uni a b, fun i hi => by simp [uni, ha i hi, hb' i hi], uni_sub h4 h5, a, b, h3, sub_uni_l _ _, sub_uni_r h3, hA, hL⟩

/-- A row of cells of its own. -/
def cells (b : Nat) (ty : TypeId) (c : List Value) : HProp := fun h => h b = some (.cells c.toArray ty (0, 0))

theorem St.cells_heap {W w : World} {b : Nat} {ty : TypeId} {c : List Value} {L : List HProp} (H : St W w (cells b ty c :: L)) : w.heap[b]? = some (.cells c.toArray ty (0, 0)) ∧ W.heap.size ≤ b := by
  obtain ⟨_, a, _, _, ha, _, hs, _, hA, _⟩ := St.cons_iff.1 H
  refine ⟨hs b _ hA, ?_⟩
  rcases Nat.lt_or_ge b W.heap.size with h | h
  · have := ha b h; unfold cells at hA; rw [this] at hA; cases hA
  · exact h

theorem St.load {W w : World} {b : Nat} {ty : TypeId} {c : List Value} {L : List HProp} (H : St W w (cells b ty c :: L)) {i : Nat} {v : Value} (hc : c[i]? = some v) : w.cell? ⟨b, i, none⟩ = some v := by
  have := H.cells_heap.1
  simp [World.cell?, this, hc]
theorem St.unfrozen {W w : World} {b : Nat} {ty : TypeId} {c : List Value} {L : List HProp} (H : St W w (cells b ty c :: L)) (i : Nat) : w.frozen? ⟨b, i, none⟩ = false := by
  have := H.cells_heap.1
  simp [World.frozen?, this]

/-- What L says lives on where its blocks do. -/
theorem Owns.heap {b : Frag} {L : List HProp} (_h : Owns b L) {w w' : World} (hs : Sep.sub b (heapOf w)) (hk : ∀ i, b i ≠ none → w'.heap[i]? = w.heap[i]?) : Sep.sub b (heapOf w') := by
  intro i o e
  have := hs i o e
  unfold heapOf at *
  rw [hk i (by rw [e]; simp)]
  exact this

/-- The head's block is written anew. -/
theorem St.replace {W w w' : World} {b : Nat} {ty : TypeId} {c c' : List Value} {L : List HProp} (H : St W w (cells b ty c :: L)) (hn : w'.heap[b]? = some (.cells c'.toArray ty (0, 0))) (hk : ∀ i, i ≠ b → i < w.heap.size → w'.heap[i]? = w.heap[i]?)
    (hos : w'.os = w.os) (htape : w'.tape = w.tape) (hout : w'.output = w.output) (hsz : w.heap.size ≤ w'.heap.size) : St W w' (cells b ty c' :: L) := by
  have hb := H.cells_heap.2
  obtain ⟨hbel, a, d, hd, ha, hdn, hsa, hsd, hA, hL⟩ := St.cons_iff.1 H
  refine St.cons_iff.2 ⟨⟨hos.trans hbel.os, htape.trans hbel.tape, hout.trans hbel.output, Nat.le_trans hbel.size hsz, fun k hk' => (hk k (by omega) (Nat.lt_of_lt_of_le hk' hbel.size)).trans (hbel.block k hk')⟩,
    fun i => if i = b then some (.cells c'.toArray ty (0, 0)) else none, d, ?_, ?_, hdn, ?_, ?_, by simp [cells], hL⟩
  · intro i
    by_cases e : i = b
    · subst e
      right
      rcases hd i with h | h
      · unfold cells at hA; rw [h] at hA; cases hA
      · exact h
    · simp [e]
  · intro i hi
    have : i ≠ b := by omega
    simp [this]
  · intro i o e
    by_cases hi : i = b
    · subst hi; simp at e; subst e; exact hn
    · simp [hi] at e
  · refine Owns.heap hL hsd fun i hi => hk i ?_ ?_
    · rintro rfl
      rcases hd i with h | h
      · unfold cells at hA; rw [h] at hA; cases hA
      · exact hi h
    · cases e : d i with
      | none => exact absurd e hi
      | some o => exact (Array.getElem?_eq_some_iff.1 (hsd i o e)).1

theorem St.store {W w : World} {b : Nat} {ty : TypeId} {c : List Value} {L : List HProp} (H : St W w (cells b ty c :: L)) (i : Nat) (u : Value) : St W (w.setCell ⟨b, i, none⟩ u) (cells b ty (c.set i u) :: L) := by
  have h0 := H.cells_heap.1
  refine H.replace ?_ (fun k hk _ => Below.heap_setCell _ _ _ _ hk) rfl rfl rfl (by simp [World.setCell])
  simp only [World.setCell, Array.getElem?_modify, if_true, h0, Option.map_some]
  simp

theorem St.drew {W w : World} {L : List HProp} (H : St W w L) : St W w.drew L := ⟨H.below.drew, H.own⟩
theorem St.le {W w : World} {L : List HProp} (H : St W w L) : W.heap.size ≤ w.heap.size := H.below.size

theorem St.new {W w w' : World} {L : List HProp} {o : Obj} {A : HProp} {g : Nat} (H : St W w L) (hn : w'.heap[g]? = some o) (hg : w.heap.size ≤ g) (hk : ∀ i, i < w.heap.size → w'.heap[i]? = w.heap[i]?)
    (hos : w'.os = w.os) (htape : w'.tape = w.tape) (hout : w'.output = w.output) (hsz : w.heap.size ≤ w'.heap.size) (hA : A (fun i => if i = g then some o else none)) : St W w' (A :: L) := by
  obtain ⟨hbel, h, h1, h2, hL⟩ := H
  have hlt : ∀ i o, h i = some o → i < w.heap.size := fun i o e => (Array.getElem?_eq_some_iff.1 (h2 i o e)).1
  refine St.cons_iff.2 ⟨⟨hos.trans hbel.os, htape.trans hbel.tape, hout.trans hbel.output, Nat.le_trans hbel.size hsz, fun k hk' => (hk k (Nat.lt_of_lt_of_le hk' hbel.size)).trans (hbel.block k hk')⟩,
    _, h, ?_, ?_, h1, ?_, ?_, hA, hL⟩
  · intro i
    by_cases e : i = g
    · right
      cases hh : h i with
      | none => rfl
      | some o => have := hlt i o hh; omega
    · simp [e]
  · intro i hi
    have := hbel.size
    have : i ≠ g := by omega
    simp [this]
  · intro i o' e
    by_cases hi : i = g
    · subst hi; simp at e; subst e; exact hn
    · simp [hi] at e
  · exact Owns.heap hL h2 fun i hi => hk i (by cases e : h i with | none => exact absurd e hi | some o => exact hlt i o e)

theorem St.alloc {W w : World} {L : List HProp} (H : St W w L) (c : List Value) (ty : TypeId) : St W (w.alloc (.cells c.toArray ty)) (cells w.heap.size ty c :: L) :=
  H.new (o := .cells c.toArray ty (0, 0)) (heap_alloc_new w _) (Nat.le_refl _) (fun i hi => heap_alloc_old w _ i hi) rfl rfl rfl (by simp) (by simp [cells])

/-- A cell of what was there at the start. -/
theorem St.old {W w : World} {L : List HProp} (H : St W w L) {a : Addr} {v : Value} (h : W.cell? a = some v) : w.cell? a = some v :=
  (H.below.cell (World.block_lt_of_cell? W a h)).trans h

/-! ### A slice of its own -/
def Sl (e : TypeId) (size : Nat) (v : Value) (n : Nat) (xs : List Value) : HProp := fun h =>
  xs.length = n * size ∧
  ((v = .slice none 0 0 ∧ n = 0) ∨
   ∃ g cap cur, v = .slice (some ⟨g, 0, none⟩) n cap ∧ h g = some (.cells cur e (0, 0)) ∧ n ≤ cap ∧ cap ≤ maxLen ∧ cur.size = cap * size ∧ cur.toList.take (n * size) = xs)

theorem St.owns {W w : World} {L : List HProp} {e : TypeId} {size n : Nat} {v : Value} {xs : List Value} (H : St W w (Sl e size v n xs :: L)) : w.ownsRow W.heap.size e size v n xs := by
  obtain ⟨_, a, _, _, ha, _, hs, _, hA, _⟩ := St.cons_iff.1 H
  refine ⟨hA.1, ?_⟩
  rcases hA.2 with h | ⟨g, cap, cur, hv, hg, r⟩
  · exact .inl h
  · refine .inr ⟨g, cap, cur, hv, ?_, hs g _ hg, r⟩
    rcases Nat.lt_or_ge g W.heap.size with h | h
    · rw [ha g h] at hg; cases hg
    · exact h

theorem St.sl_nil {W w : World} {L : List HProp} (H : St W w L) (e : TypeId) (size : Nat) : St W w (Sl e size (.slice none 0 0) 0 [] :: L) := by
  obtain ⟨hb, h, h1, h2, h3⟩ := H
  exact ⟨hb, h, h1, h2, fun _ => none, h, fun _ => .inl rfl, fun _ _ e => (by cases e), sub.refl _, ⟨by simp, .inl ⟨rfl, rfl⟩⟩, h3⟩

/-- The slice lies in another world: the same row written anew, or a new one. -/
theorem St.sl_turn {W w w' : World} {L : List HProp} {e : TypeId} {size n n' : Nat} {v v' : Value} {xs xs' : List Value} (H : St W w (Sl e size v n xs :: L))
    (ho : w'.ownsRow W.heap.size e size v' n' xs') (hg : w.grownBy w' v.ownBlock) (hf : ∀ k, v'.ownBlock = some k → v.ownBlock = some k ∨ w.heap.size ≤ k) : St W w' (Sl e size v' n' xs' :: L) := by
  obtain ⟨hbel, a, d, hd, ha, hdn, hsa, hsd, hA, hL⟩ := St.cons_iff.1 H
  have hdv : ∀ k, v.ownBlock = some k → d k = none := by
    intro k hk
    rcases hA.2 with ⟨rfl, _⟩ | ⟨g, cap, cur, rfl, hg, _⟩
    · simp [Value.ownBlock] at hk
    · simp [Value.ownBlock] at hk
      subst hk
      rcases hd g with h | h
      · rw [h] at hg; cases hg
      · exact h
  have hdl : ∀ i, d i ≠ none → i < w.heap.size := by
    intro i hi
    cases e : d i with
    | none => exact absurd e hi
    | some o => exact (Array.getElem?_eq_some_iff.1 (hsd i o e)).1
  have hbase : ∀ k, v.ownBlock = some k → W.heap.size ≤ k := fun k hk => (H.owns.lt k hk).1
  have hsd' : sub d (heapOf w') := Owns.heap hL hsd fun i hi => hg.block i (hdl i hi) (fun e => hi (hdv i e.symm))
  have hbel' : Below W.heap.size W w' := hbel.grown hg hbel.size hbase
  rcases ho.2 with ⟨hv, hn⟩ | ⟨g, cap, cur, rfl, hbg, hgg, r⟩
  · exact St.cons_iff.2 ⟨hbel', fun _ => none, d, fun _ => .inl rfl, fun _ _ => rfl, hdn, fun _ _ e => (by cases e), hsd', ⟨ho.1, .inl ⟨hv, hn⟩⟩, hL⟩
  · refine St.cons_iff.2 ⟨hbel', fun i => if i = g then some (.cells cur e (0, 0)) else none, d, ?_, ?_, hdn, ?_, hsd', ⟨ho.1, .inr ⟨g, cap, cur, rfl, by simp, r⟩⟩, hL⟩
    · intro i
      by_cases e : i = g
      · subst e
        right
        rcases hf i rfl with h | h
        · exact hdv i h
        · cases hh : d i with
          | none => rfl
          | some o => have := hdl i (by rw [hh]; simp); omega
      · simp [e]
    · intro i hi
      have : i ≠ g := by omega
      simp [this]
    · intro i o e
      by_cases hi : i = g
      · subst hi; simp at e; subst e; exact hgg
      · simp [hi] at e

/-- One of L's slices, read. -/
theorem St.sl_cells {W w : World} {L : List HProp} {e : TypeId} {size n : Nat} {v : Value} {xs : List Value} (H : St W w (Sl e size v n xs :: L)) {g cap : Nat} (hv : v = .slice (some ⟨g, 0, none⟩) n cap) : ∀ j u, xs[j]? = some u → w.cell? ⟨g, j, none⟩ = some u := by
  intro j u hu
  have := H.owns.cells (g := g) (by rw [hv]; rfl) j u hu
  have hadd : (⟨g, 0, none⟩ : Addr).add j = ⟨g, j, none⟩ := by unfold Addr.add; split <;> simp_all
  rwa [hadd] at this

/-- A slice of its own: nil, or at the head of a row. -/
theorem St.sl_form {W w : World} {L : List HProp} {e : TypeId} {size n : Nat} {v : Value} {xs : List Value} (H : St W w (Sl e size v n xs :: L)) : xs.length = n * size ∧ ((v = .slice none 0 0 ∧ n = 0) ∨ ∃ g cap, v = .slice (some ⟨g, 0, none⟩) n cap ∧ n ≤ cap ∧ cap ≤ maxLen) := by
  obtain ⟨h1, h2⟩ := H.owns
  refine ⟨h1, ?_⟩
  rcases h2 with h | ⟨g, cap, cur, hv, _, _, hn, hc, _⟩
  · exact .inl h
  · exact .inr ⟨g, cap, hv, hn, hc⟩

/-- A row known whole is a slice of its own. -/
theorem St.sl_of_cells {W w : World} {L : List HProp} {e : TypeId} {size n cap : Nat} {g : Nat} {c : List Value} (H : St W w (cells g e c :: L)) (hc : c.length = cap * size) (hn : n ≤ cap) (hm : cap ≤ maxLen) : St W w (Sl e size (.slice (some ⟨g, 0, none⟩) n cap) n (c.take (n * size)) :: L) :=
  H.mono fun h hA => ⟨by rw [List.length_take, hc]; exact Nat.min_eq_left (Nat.mul_le_mul_right _ hn), .inr ⟨g, cap, c.toArray, rfl, hA, hn, hm, by simpa using hc, by simp⟩⟩

/-- A slice of its own that isn't nil is a row, known up to its length. -/
theorem St.cells_of_sl {W w : World} {L : List HProp} {e : TypeId} {size n cap : Nat} {g : Nat} {xs : List Value} (H : St W w (Sl e size (.slice (some ⟨g, 0, none⟩) n cap) n xs :: L)) : ∃ rest, (xs ++ rest).length = cap * size ∧ St W w (cells g e (xs ++ rest) :: L) := by
  obtain ⟨hb, h, h1, h2, a, b, h3, h4, hb', hA, hL⟩ := H
  rcases hA.2 with ⟨hv, _⟩ | ⟨g', cap', cur, hv, hg, hn, hm, hs, ht⟩
  · simp at hv
  · simp only [Value.slice.injEq, Option.some.injEq, Addr.mk.injEq, and_true, true_and] at hv
    obtain ⟨rfl, rfl⟩ := hv
    refine ⟨cur.toList.drop (n * size), ?_, hb, h, h1, h2, a, b, h3, h4, hb', ?_, hL⟩
    · rw [← ht, List.take_append_drop]; simpa using hs
    · show a g = _
      rw [hg, ← ht, List.take_append_drop]

/-- A slice whose row is new. -/
theorem St.sl_fresh {W w w' : World} {L : List HProp} {e : TypeId} {size n' : Nat} {v' : Value} {xs' : List Value} (H : St W w L)
    (ho : w'.ownsRow w.heap.size e size v' n' xs') (hg : w.grownBy w' none) : St W w' (Sl e size v' n' xs' :: L) := by
  refine (H.sl_nil e size).sl_turn (v := .slice none 0 0) ⟨ho.1, ?_⟩ hg ?_
  · rcases ho.2 with h | ⟨g, cap, cur, hv, hb, r⟩
    · exact .inl h
    · exact .inr ⟨g, cap, cur, hv, Nat.le_trans H.le hb, r⟩
  · intro k hk
    rcases ho.2 with ⟨rfl, _⟩ | ⟨g, cap, cur, rfl, hb, r⟩
    · cases hk
    · right
      simp only [Value.ownBlock, Option.some.injEq] at hk
      subst hk
      exact hb

/-! ### A slice that is read -/
/-- nil, or n elements whose cells are known. -/
def Rd (w : World) (v : Value) (n : Nat) (cs : List Value) : Prop :=
  (v = .slice none 0 0 ∧ n = 0 ∧ cs = []) ∨ ∃ g off cap, v = .slice (some ⟨g, off, none⟩) n cap ∧ n ≤ cap ∧ ∀ j u, cs[j]? = some u → w.cell? ⟨g, off + j, none⟩ = some u
theorem Rd.old {W w : World} {L : List HProp} (H : St W w L) {v : Value} {n : Nat} {cs : List Value} (h : Rd W v n cs) : Rd w v n cs := by
  rcases h with h | ⟨g, off, cap, hv, hn, hc⟩
  · exact .inl h
  · exact .inr ⟨g, off, cap, hv, hn, fun j u hj => H.old (hc j u hj)⟩
theorem St.rd {W w : World} {L : List HProp} {e : TypeId} {size n : Nat} {v : Value} {xs : List Value} (H : St W w (Sl e size v n xs :: L)) : Rd w v n xs := by
  obtain ⟨h1, h2⟩ := H.sl_form
  rcases h2 with ⟨hv, hn⟩ | ⟨g, cap, hv, hn, _⟩
  · exact .inl ⟨hv, hn, List.eq_nil_of_length_eq_zero (by rw [h1, hn]; simp)⟩
  · exact .inr ⟨g, 0, cap, hv, hn, fun j u hj => by rw [Nat.zero_add]; exact H.sl_cells hv j u hj⟩
theorem Rd.one {w : World} {v : Value} {n : Nat} {cs : List Value} (h : Rd w v n cs) : v.oneCell' = true := by
  rcases h with ⟨rfl, _⟩ | ⟨g, off, cap, rfl, _⟩ <;> rfl

/-- Wherever L says what it says, the slice reads so. -/
def Kn (W : World) (L : List HProp) (v : Value) (n : Nat) (cs : List Value) : Prop := ∀ w, St W w L → Rd w v n cs
theorem Kn.old {W : World} {L : List HProp} {v : Value} {n : Nat} {cs : List Value} (h : Rd W v n cs) : Kn W L v n cs := fun _ H => h.old H
theorem Kn.here {W : World} {L : List HProp} {e : TypeId} {size n : Nat} {v : Value} {cs : List Value} : Kn W (Sl e size v n cs :: L) v n cs := fun _ H => H.rd
theorem Kn.tail {W : World} {L : List HProp} {A : HProp} {v : Value} {n : Nat} {cs : List Value} (h : Kn W L v n cs) : Kn W (A :: L) v n cs := fun _ H => h _ H.drop
theorem Kn.form {W w : World} {L : List HProp} {v : Value} {n : Nat} {cs : List Value} (h : Kn W L v n cs) (H : St W w L) : v = .slice none 0 0 ∧ n = 0 ∨ ∃ g off cap, v = .slice (some ⟨g, off, none⟩) n cap ∧ n ≤ cap := by
  rcases h w H with ⟨h1, h2, _⟩ | ⟨g, off, cap, h1, h2, _⟩
  · exact .inl ⟨h1, h2⟩
  · exact .inr ⟨g, off, cap, h1, h2⟩

end Go.Sep
