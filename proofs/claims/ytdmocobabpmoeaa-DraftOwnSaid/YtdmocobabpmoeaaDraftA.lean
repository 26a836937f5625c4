/-
  Graphs as they lie in memory; numbers laid one behind the other.
-/
import Derived.Test.YtdmocobabpmoeaaWireD
namespace Go.Proofs.Ytdmocobabpmoeaa
open Go.Vc Go.Sep Go.Ops
set_option linter.unusedVariables false
set_option linter.unusedSectionVars false
set_option linter.unusedSimpArgs false

/-- A slice that is read: or it is empty, wherever it points. -/
def Rd0 (w : World) (v : Value) (n : Nat) (cs : List Value) : Prop := Rd w v n cs ∨ ∃ a c, v = .slice (some a) 0 c ∧ n = 0 ∧ cs = []
def Kn0 (W : World) (L : List HProp) (v : Value) (n : Nat) (cs : List Value) : Prop := ∀ w, St W w L → Rd0 w v n cs
section
variable {W w : World} {L : List HProp} {K : Value → World → Prop} {KU : World → Prop} {X : XPost}
theorem Rd0.old {v : Value} {n : Nat} {cs : List Value} (h : Rd0 W v n cs) (H : St W w L) : Rd0 w v n cs := h.imp (fun h => h.old H) id
theorem Kn0.old {v : Value} {n : Nat} {cs : List Value} (h : Rd0 W v n cs) : Kn0 W L v n cs := fun _ H => h.old H
theorem Kn0.tail0 {v : Value} {n : Nat} {cs : List Value} {A : HProp} (h : Kn0 W L v n cs) : Kn0 W (A :: L) v n cs := fun _ H => h _ H.drop
theorem Kn.to0 {v : Value} {n : Nat} {cs : List Value} (h : Kn W L v n cs) : Kn0 W L v n cs := fun _ H => .inl (h _ H)
theorem Rd0.one {v : Value} {n : Nat} {cs : List Value} (h : Rd0 w v n cs) : v.oneCell' = true := by
  rcases h with h | ⟨a, c, rfl, _, _⟩
  · exact h.one
  · rfl
/-- The slice's form, once. -/
theorem Kn0.form {v : Value} {n : Nat} {cs : List Value} (h : Kn0 W L v n cs) (H : St W w L) (hn : 0 < n) : ∃ g off cap, v = .slice (some ⟨g, off, none⟩) n cap ∧ ∀ w', St W w' L → ∀ j u, cs[j]? = some u → w'.cell? ⟨g, off + j, none⟩ = some u := by
  rcases h _ H with (⟨_, h0, _⟩ | ⟨g, off, cap, rfl, h1, h2⟩) | ⟨_, _, _, h0, _⟩
  · omega
  · refine ⟨g, off, cap, rfl, fun w' H' j u hj => ?_⟩
    rcases h _ H' with (⟨_, h0, _⟩ | ⟨g', off', cap', h3, h4, h5⟩) | ⟨_, _, _, h0, _⟩
    · omega
    · cases h3; exact h5 j u hj
    · omega
  · omega
theorem rv_append_rd0 {t e s b ty : Nat} {z : Value} [TSlice Try.prog t e s b z] {v x : Value} {n m : Nat} {xs news : List Value} (H : St W w (Sl e s v n xs :: L)) (R : Rd0 w x m news) (hl : news.length = m * s)
    (h1 : ∀ u ∈ news, u.oneCell' = true) (hm : n + m ≤ maxLen) (hb : (n + m) * b ≤ 140737488355328)
    (k : ∀ v' w', St W w' (Sl e s v' (n + m) (xs ++ news) :: L) → (v' = .slice none 0 0 ↔ v = .slice none 0 0 ∧ m = 0) → K v' w') : RunV Try.prog (Builtin.append_ #[t, t] ty #[v, x]) w K X := by
  rcases R with R | ⟨a, c, rfl, rfl, rfl⟩
  · exact rv_append_rd H R hl h1 hm hb k
  · exact rv_append H [] (by simp) (fun j u h => by simp at h) (by simp) hm hb k
theorem rv_len_rd0 {t e s b ty : Nat} {z : Value} [TSlice Try.prog t e s b z] {x : Value} {m : Nat} {news : List Value} (R : Rd0 w x m news) (k : K (.int .i64 m) w) : RunV Try.prog (Builtin.len_ #[t] ty #[x]) w K X := by
  rcases R with R | ⟨a, c, rfl, rfl, rfl⟩
  · exact rv_len_rd R k
  · exact rv run_len k
theorem tp_len_rd0 {t e s b ty : Nat} {z : Value} [TSlice Try.prog t e s b z] {x : Value} {m : Nat} {news : List Value} (R : Rd0 w x m news) {KT : Value → Prop} (k : KT (.int .i64 m)) : TakeP Try.prog (Builtin.len_ #[t] ty #[x]) KT := by
  rcases R with R | ⟨a, c, rfl, rfl, rfl⟩
  · exact tp_len_rd R k
  · exact tp (fun _ => run_len) k
theorem St.dropL : ∀ {A : List HProp}, St W w (A ++ L) → St W w L
  | [], H => H
  | _ :: _, H => St.dropL H.drop
theorem St.head {A : HProp} (H : St W w (A :: L)) : St W w [A] := by
  have : St W w (L ++ [A]) := H.perm (List.perm_append_comm (l₁ := [A]) (l₂ := L))
  exact St.dropL this
theorem St.two {A B : HProp} (H : St W w (A :: B :: L)) : St W w [A, B] := by
  have : St W w (L ++ [A, B]) := H.perm (List.perm_append_comm (l₁ := [A, B]) (l₂ := L))
  exact St.dropL this
theorem St.three {A B C : HProp} (H : St W w (A :: B :: C :: L)) : St W w [A, B, C] := by
  have : St W w (L ++ [A, B, C]) := H.perm (List.perm_append_comm (l₁ := [A, B, C]) (l₂ := L))
  exact St.dropL this

/-! ### Rows -/
def fl {α : Type} (f : α → List Value) (l : List α) : List Value := l.flatMap f
theorem fl_get {α : Type} {f : α → List Value} {s : Nat} (hf : ∀ x, (f x).length = s) : ∀ (l : List α) (i j : Nat) (x : α) (u : Value), l[i]? = some x → (f x)[j]? = some u → (fl f l)[i * s + j]? = some u
  | [], i, j, x, u, h, _ => by simp at h
  | y :: r, 0, j, x, u, h, hu => by
    simp only [List.getElem?_cons_zero, Option.some.injEq] at h
    subst h
    simp only [fl, List.flatMap_cons, Nat.zero_mul, Nat.zero_add]
    rw [List.getElem?_append_left]
    · exact hu
    · have := (List.getElem?_eq_some_iff.1 hu).1; exact this
  | y :: r, i + 1, j, x, u, h, hu => by
    simp only [List.getElem?_cons_succ] at h
    simp only [fl, List.flatMap_cons]
    rw [List.getElem?_append_right (by rw [hf, Nat.succ_mul]; omega), hf]
    have e : (i + 1) * s + j - s = i * s + j := by rw [Nat.succ_mul]; omega
    rw [e]
    exact fl_get hf r i j x u h hu
theorem fl_len {α : Type} {f : α → List Value} {s : Nat} (hf : ∀ x, (f x).length = s) : ∀ (l : List α), (fl f l).length = l.length * s
  | [] => by simp [fl]
  | y :: r => by
    simp only [fl, List.flatMap_cons, List.length_append, List.length_cons, hf, Nat.succ_mul]
    have := fl_len hf r
    simp only [fl] at this
    omega

/-! ### Graphs -/
structure OpD where
  kd : Int
  arg : Nat
structure ConnD where
  i : Int
  o : Int
  a : Nat
  b : Nat
  c : Nat
structure EdgeD where
  f : Int
  o : Int
  t : Int
  i : Int
  kd : Bool
structure NodeV where
  kd : Int
  ins : Int
  outs : Int
  code : List OpD
  cv : Value
  a : Nat
  b : Nat
  c : Nat
  bd : Nat
  conns : List ConnD
  kv : Value
  st : Bool
structure GraphV where
  ar : Int
  nodes : List NodeV
  nv : Value
  edges : List EdgeD
  ev : Value
def OpD.cs (o : OpD) : List Value := [.int .i64 o.kd, .int .u64 o.arg]
def ConnD.cs (o : ConnD) : List Value := [.int .i64 o.i, .int .i64 o.o, .int .u64 o.a, .int .u64 o.b, .int .u64 o.c]
def EdgeD.cs (o : EdgeD) : List Value := [.int .i64 o.f, .int .i64 o.o, .int .i64 o.t, .int .i64 o.i, .bool o.kd]
def NodeV.cs (n : NodeV) : List Value := [.int .i64 n.kd, .int .i64 n.ins, .int .i64 n.outs, n.cv, .int .u64 n.a, .int .u64 n.b, .int .u64 n.c, .int .u64 n.bd, n.kv, .bool n.st]
def GraphV.cs (g : GraphV) : List Value := [.int .i64 g.ar, g.nv, g.ev]
theorem OpD.len (o : OpD) : o.cs.length = 2 := rfl
theorem ConnD.len (o : ConnD) : o.cs.length = 5 := rfl
theorem EdgeD.len (o : EdgeD) : o.cs.length = 5 := rfl
theorem NodeV.len (n : NodeV) : n.cs.length = 10 := rfl
def i64r (n : Int) : Prop := -9223372036854775808 ≤ n ∧ n < 9223372036854775808
def OpD.ok (o : OpD) : Prop := i64r o.kd ∧ o.arg < 18446744073709551616
def ConnD.ok (o : ConnD) : Prop := i64r o.i ∧ i64r o.o ∧ o.a < 18446744073709551616 ∧ o.b < 18446744073709551616 ∧ o.c < 18446744073709551616
def EdgeD.ok (o : EdgeD) : Prop := i64r o.f ∧ i64r o.o ∧ i64r o.t ∧ i64r o.i
def NodeV.ok (n : NodeV) : Prop := i64r n.kd ∧ i64r n.ins ∧ i64r n.outs ∧ (∀ o ∈ n.code, o.ok) ∧ n.a < 18446744073709551616 ∧ n.b < 18446744073709551616 ∧ n.c < 18446744073709551616 ∧ n.bd < 18446744073709551616 ∧ (∀ o ∈ n.conns, o.ok) ∧ n.code.length ≤ 1000000000000000 ∧ n.conns.length ≤ 1000000000000000
def GraphV.ok (g : GraphV) : Prop := i64r g.ar ∧ (∀ n ∈ g.nodes, n.ok) ∧ (∀ e ∈ g.edges, e.ok) ∧ g.nodes.length ≤ 1000000000000000 ∧ g.edges.length ≤ 1000000000000000
/-- A node's lists, read. -/
def NRd (w : World) (n : NodeV) : Prop := Rd0 w n.cv n.code.length (fl OpD.cs n.code) ∧ Rd0 w n.kv n.conns.length (fl ConnD.cs n.conns)
def NKn (W : World) (L : List HProp) (n : NodeV) : Prop := ∀ w, St W w L → NRd w n
def GRd (w : World) (g : GraphV) : Prop := Rd0 w g.nv g.nodes.length (fl NodeV.cs g.nodes) ∧ Rd0 w g.ev g.edges.length (fl EdgeD.cs g.edges) ∧ ∀ n ∈ g.nodes, NRd w n
def GKn (W : World) (L : List HProp) (g : GraphV) : Prop := ∀ w, St W w L → GRd w g
theorem NKn.tail {n : NodeV} {A : HProp} (h : NKn W L n) : NKn W (A :: L) n := fun w H => h w H.drop
theorem GKn.tail {g : GraphV} {A : HProp} (h : GKn W L g) : GKn W (A :: L) g := fun w H => h w H.drop
theorem GRd.old {g : GraphV} (h : GRd W g) (H : St W w L) : GRd w g := ⟨h.1.old H, h.2.1.old H, fun n hn => ⟨(h.2.2 n hn).1.old H, (h.2.2 n hn).2.old H⟩⟩
theorem GKn.old {g : GraphV} (h : GRd W g) : GKn W L g := fun w H => h.old H
theorem GKn.node {g : GraphV} (h : GKn W L g) {n : NodeV} (hn : n ∈ g.nodes) : NKn W L n := fun w H => (h w H).2.2 n hn
theorem OpD.one (o : OpD) : ∀ u ∈ o.cs, u.oneCell' = true := by intro u hu; simp only [OpD.cs, List.mem_cons, List.not_mem_nil, or_false] at hu; rcases hu with rfl | rfl <;> rfl
theorem ConnD.one (o : ConnD) : ∀ u ∈ o.cs, u.oneCell' = true := by intro u hu; simp only [ConnD.cs, List.mem_cons, List.not_mem_nil, or_false] at hu; rcases hu with rfl | rfl | rfl | rfl | rfl <;> rfl
theorem EdgeD.one (o : EdgeD) : ∀ u ∈ o.cs, u.oneCell' = true := by intro u hu; simp only [EdgeD.cs, List.mem_cons, List.not_mem_nil, or_false] at hu; rcases hu with rfl | rfl | rfl | rfl | rfl <;> rfl
theorem NodeV.one {n : NodeV} (h : NRd w n) : ∀ u ∈ n.cs, u.oneCell' = true := by
  intro u hu
  simp only [NodeV.cs, List.mem_cons, List.not_mem_nil, or_false] at hu
  rcases hu with rfl | rfl | rfl | rfl | rfl | rfl | rfl | rfl | rfl | rfl
  case inr.inr.inr.inl => exact h.1.one
  case inr.inr.inr.inr.inr.inr.inr.inr.inl => exact h.2.one
  all_goals rfl

/-! ### Numbers laid -/
def fb (l : List Nat) : List UInt8 := l.flatMap form
theorem fb_append (a b : List Nat) : fb (a ++ b) = fb a ++ fb b := by simp [fb]
theorem fb_one (a : Nat) : fb [a] = form a := by simp [fb]
def small (l : List Nat) : Prop := ∀ x ∈ l, x < 18446744073709551616
theorem fb_len : ∀ {l : List Nat}, small l → (fb l).length ≤ 10 * l.length
  | [], _ => by simp [fb]
  | x :: r, h => by
    have h1 := form_length10 (h x (by simp))
    have h2 := fb_len (l := r) (fun y hy => h y (by simp [hy]))
    simp only [fb, List.flatMap_cons, List.length_append, List.length_cons] at h2 ⊢
    omega
def pathN (a b c : Nat) : List Nat := [a, b, c]
def opN (o : OpD) : List Nat := [o.kd.toNat, o.arg]
def connN (o : ConnD) : List Nat := [o.i.toNat, o.o.toNat, o.a, o.b, o.c]
def boolN (b : Bool) : Nat := if b then 1 else 0
def edgeN (e : EdgeD) : List Nat := [e.f.toNat, e.o.toNat, e.t.toNat, e.i.toNat, boolN e.kd]
def nodeN (n : NodeV) : List Nat :=
  n.kd.toNat ::
    (if n.kd = 2 ∨ n.kd = 3 then n.code.length :: n.code.flatMap opN
     else if n.kd = 5 then [n.bd, n.a, n.b, n.c]
     else if n.kd = 8 then boolN n.st :: n.conns.length :: (n.conns.flatMap connN ++ [n.outs.toNat, n.ins.toNat])
     else if n.kd = 4 then [n.ins.toNat] else [])
def graphN (g : GraphV) : List Nat := g.ar.toNat :: g.nodes.length :: (g.nodes.flatMap nodeN ++ (g.edges.length :: g.edges.flatMap edgeN))

/-! ### Why a graph has none -/
def portsB (n : NodeV) : Bool :=
  !(decide (n.ins < 0) || decide (n.outs < 0)) &&
    (if n.kd = 1 then decide (n.ins = 0 ∧ n.outs = 1) else if n.kd = 7 then decide (n.ins = 1 ∧ n.outs = 0) else if n.kd = 4 then decide (n.outs = 1) else if n.kd = 8 then true else decide (n.ins = 1 ∧ n.outs = 1))
def bareB (n : NodeV) : Bool :=
  (decide (n.kd = 2 ∨ n.kd = 3) || decide (n.code.length = 0)) && (decide (n.kd = 5) || (decide (n.a = 0 ∧ n.b = 0 ∧ n.c = 0) && decide (n.bd = 0))) && (decide (n.kd = 8) || (decide (n.conns.length = 0) && !n.st))
def nodeE (n : NodeV) : Nat :=
  if ¬ (1 ≤ n.kd ∧ n.kd ≤ 8) then 20 else if portsB n = false then 21 else if bareB n = false then 22 else
  if ¬ (n.code.length ≤ 16 ∧ n.conns.length ≤ 16) then 2 else if n.code.any (fun o => decide (o.kd < 0)) then 24 else if n.conns.any (fun o => decide (o.i < 0 ∨ o.o < 0)) then 23 else 0
def nodesE : List NodeV → Nat
  | [] => 0
  | n :: r => if nodeE n ≠ 0 then nodeE n else nodesE r
def edgeBad (e : EdgeD) : Bool := decide (e.f < 0 ∨ e.o < 0 ∨ e.t < 0 ∨ e.i < 0)
def graphE (g : GraphV) : Nat :=
  if ¬ (g.nodes.length ≤ 24 ∧ g.edges.length ≤ 48) then 2 else if g.ar < 0 then 10 else if nodesE g.nodes ≠ 0 then nodesE g.nodes else if g.edges.any edgeBad then 25 else 0
end
end Go.Proofs.Ytdmocobabpmoeaa
