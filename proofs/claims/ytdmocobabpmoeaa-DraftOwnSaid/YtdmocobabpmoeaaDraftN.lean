/-
  Draft's plain law: what is read may be laid; what is laid is read. No program in sight.
-/
import Derived.Test.YtdmocobabpmoeaaDraftM
namespace Go.Proofs.Ytdmocobabpmoeaa
open Go.Vc Go.Sep Go.Ops
set_option linter.unusedVariables false
set_option linter.unusedSectionVars false
set_option linter.unusedSimpArgs false

theorem vI {bs : List UInt8} {p x q : Nat} (h : pI bs p = .ok x q) : x ≤ 9223372036854775807 := (pN_ok h).1
theorem vA {bs : List UInt8} {p x q : Nat} (h : pA bs p = .ok x q) : x < 18446744073709551616 := (pN_ok h).2.1
theorem vPath {bs : List UInt8} {p q : Nat} {x : Nat × Nat × Nat} (h : pPath bs p = .ok x q) : x.1 < 18446744073709551616 ∧ x.2.1 < 18446744073709551616 ∧ x.2.2 < 18446744073709551616 := by
  obtain ⟨a, r, h1, h⟩ := bind_ok h
  obtain ⟨b, r, h2, h⟩ := bind_ok h
  obtain ⟨c, r, h3, h⟩ := bind_ok h
  obtain ⟨rfl, rfl⟩ := ok_inj h
  exact ⟨vA h1, vA h2, vA h3⟩
theorem vOp {bs : List UInt8} {p q : Nat} {o : OpD} (h : pOp bs p = .ok o q) : o.ok ∧ 0 ≤ o.kd := by
  obtain ⟨a, r, h1, h⟩ := bind_ok h
  obtain ⟨b, r, h2, h⟩ := bind_ok h
  obtain ⟨rfl, rfl⟩ := ok_inj h
  have := vI h1
  have := vA h2
  refine ⟨⟨⟨?_, ?_⟩, this⟩, ?_⟩ <;> simp only <;> omega
theorem vConn {bs : List UInt8} {p q : Nat} {o : ConnD} (h : pConn bs p = .ok o q) : o.ok ∧ 0 ≤ o.i ∧ 0 ≤ o.o := by
  obtain ⟨a, r, h1, h⟩ := bind_ok h
  obtain ⟨b, r, h2, h⟩ := bind_ok h
  obtain ⟨c, r, h3, h⟩ := bind_ok h
  obtain ⟨rfl, rfl⟩ := ok_inj h
  have := vI h1
  have := vI h2
  have := vPath h3
  refine ⟨⟨⟨?_, ?_⟩, ⟨?_, ?_⟩, ?_, ?_, ?_⟩, ?_, ?_⟩ <;> simp only <;> omega
theorem vEdge {bs : List UInt8} {p q : Nat} {e : EdgeD} (h : pEdge bs p = .ok e q) : e.ok ∧ edgeBad e = false := by
  obtain ⟨a, r, h1, h⟩ := bind_ok h
  obtain ⟨b, r, h2, h⟩ := bind_ok h
  obtain ⟨c, r, h3, h⟩ := bind_ok h
  obtain ⟨d, r, h4, h⟩ := bind_ok h
  obtain ⟨t, r, h5, h⟩ := bind_ok h
  obtain ⟨rfl, rfl⟩ := ok_inj h
  have := vI h1
  have := vI h2
  have := vI h3
  have := vI h4
  refine ⟨⟨⟨?_, ?_⟩, ⟨?_, ?_⟩, ⟨?_, ?_⟩, ⟨?_, ?_⟩⟩, ?_⟩
  all_goals first | (simp only; omega) | simp [edgeBad]
theorem vL {α : Type} {f : Nat → Rs α} {Q : α → Prop} (hf : ∀ p x q, f p = .ok x q → Q x) : ∀ {n p : Nat} {l : List α} {q : Nat}, pL f n p = .ok l q → ∀ x ∈ l, Q x
  | 0, p, l, q, h, x, hx => by simp only [pL] at h; obtain ⟨rfl, rfl⟩ := ok_inj h; cases hx
  | n + 1, p, l, q, h, x, hx => by
    rw [pL] at h
    obtain ⟨y, r, h1, h⟩ := bind_ok h
    obtain ⟨ys, r2, h2, h⟩ := bind_ok h
    obtain ⟨rfl, rfl⟩ := ok_inj h
    rcases List.mem_cons.1 hx with rfl | hx
    · exact hf _ _ _ h1
    · exact vL hf h2 x hx
theorem any_false {α : Type} {p : α → Bool} {l : List α} (h : ∀ x ∈ l, p x = false) : l.any p = false := by
  rw [List.any_eq_false]
  intro x hx
  simp [h x hx]
theorem vNode {bs : List UInt8} {p q : Nat} {n : NodeV} (h : pNode bs p = .ok n q) : n.ok ∧ nodeE n = 0 := by
  rw [pNode_eq] at h
  obtain ⟨k, r, hk, h⟩ := bind_ok h
  have hk := pK_ok hk
  unfold pNodeK at h
  split at h
  · obtain ⟨rfl, rfl⟩ := ok_inj h
    exact ⟨by simp [NodeV.ok, nd, i64r], by decide⟩
  split at h
  · obtain ⟨rfl, rfl⟩ := ok_inj h
    exact ⟨by simp [NodeV.ok, nd, i64r], by decide⟩
  rename_i h1 h7
  split at h
  · rename_i h23
    obtain ⟨c, r, hc, h⟩ := bind_ok h
    obtain ⟨l, r, hl, h⟩ := bind_ok h
    obtain ⟨rfl, rfl⟩ := ok_inj h
    have hv := vL (fun p x q => vOp) hl
    have hlen := pL_len hl
    have hc := (pN_ok hc).1
    have e23 : (k : Int) = 2 ∨ (k : Int) = 3 := by omega
    refine ⟨?_, ?_⟩
    · simp only [NodeV.ok, nd, i64r]
      refine ⟨by omega, by omega, by omega, fun o ho => (hv o ho).1, by omega, by omega, by omega, by omega, by simp, by omega, by simp⟩
    · have a1 : l.any (fun o => decide (o.kd < 0)) = false := any_false fun o ho => by have := (hv o ho).2; simp; omega
      unfold nodeE
      rw [if_neg (by simp [nd]; omega)]
      have hp : portsB { nd (k : Int) 1 1 with code := l } = true := by
        simp only [portsB, nd]
        have : ¬ (k : Int) = 1 := by omega
        have : ¬ (k : Int) = 7 := by omega
        have : ¬ (k : Int) = 4 := by omega
        have : ¬ (k : Int) = 8 := by omega
        simp [*]
      have hb : bareB { nd (k : Int) 1 1 with code := l } = true := by simp [bareB, nd, e23]
      rw [hp, hb]
      simp [nd, a1]
      omega
  rename_i h23
  split at h
  · rename_i h5
    obtain ⟨bd, r, hbd, h⟩ := bind_ok h
    obtain ⟨x, r, hx, h⟩ := bind_ok h
    obtain ⟨rfl, rfl⟩ := ok_inj h
    have := vA hbd
    have := vPath hx
    subst h5
    refine ⟨?_, ?_⟩
    · simp only [NodeV.ok, nd, i64r]
      refine ⟨by omega, by omega, by omega, by simp, by omega, by omega, by omega, by omega, by simp, by simp, by simp⟩
    · simp [nodeE, portsB, bareB, nd]
  rename_i h5
  split at h
  · rename_i h8
    obtain ⟨st, r, hst, h⟩ := bind_ok h
    obtain ⟨m, r, hm, h⟩ := bind_ok h
    obtain ⟨l, r, hl, h⟩ := bind_ok h
    obtain ⟨o, r, ho, h⟩ := bind_ok h
    obtain ⟨i, r, hi, h⟩ := bind_ok h
    obtain ⟨rfl, rfl⟩ := ok_inj h
    have hv := vL (fun p x q => vConn) hl
    have hlen := pL_len hl
    have hm := (pN_ok hm).1
    have := vI ho
    have := vI hi
    subst h8
    refine ⟨?_, ?_⟩
    · simp only [NodeV.ok, nd, i64r]
      refine ⟨by omega, by omega, by omega, by simp, by omega, by omega, by omega, by omega, fun o ho => (hv o ho).1, by simp, by omega⟩
    · have a1 : l.any (fun o => decide (o.i < 0 ∨ o.o < 0)) = false := any_false fun o ho => by have := (hv o ho).2; simp; omega
      have i0 : ¬ ((i : Nat) : Int) < 0 := by omega
      have o0 : ¬ ((o : Nat) : Int) < 0 := by omega
      have hp : portsB { nd ((8 : Nat) : Int) i o with st := st, conns := l } = true := by simp [portsB, nd, i0, o0]
      have hb : bareB { nd ((8 : Nat) : Int) i o with st := st, conns := l } = true := by simp [bareB, nd]
      unfold nodeE
      rw [if_neg (by simp [nd]), hp, hb]
      simp only [nd, a1]
      simp
      omega
  rename_i h8
  split at h
  · rename_i h4
    obtain ⟨i, r, hi, h⟩ := bind_ok h
    obtain ⟨rfl, rfl⟩ := ok_inj h
    have := vI hi
    subst h4
    refine ⟨?_, ?_⟩
    · simp only [NodeV.ok, nd, i64r]
      refine ⟨by omega, by omega, by omega, by simp, by omega, by omega, by omega, by omega, by simp, by simp, by simp⟩
    · have i0 : ¬ ((i : Nat) : Int) < 0 := by omega
      simp [nodeE, portsB, bareB, nd, i0]
  · rename_i h4
    obtain ⟨rfl, rfl⟩ := ok_inj h
    obtain rfl : k = 6 := by omega
    refine ⟨?_, ?_⟩
    · simp [NodeV.ok, nd, i64r]
    · decide
theorem nodesE_zero : ∀ {l : List NodeV}, (∀ n ∈ l, nodeE n = 0) → nodesE l = 0
  | [], _ => rfl
  | n :: r, h => by
    unfold nodesE
    rw [if_neg (by simp [h n (by simp)])]
    exact nodesE_zero fun m hm => h m (by simp [hm])
theorem graph_good {bs : List UInt8} {g : GraphV} {p : Nat} (h : pGraph bs = .ok g p) : g.ok ∧ graphE g = 0 := by
  obtain ⟨h, _⟩ := graph_ok h
  obtain ⟨ar, r, har, h⟩ := bind_ok h
  obtain ⟨nn, r, hnn, h⟩ := bind_ok h
  obtain ⟨ns, r, hns, h⟩ := bind_ok h
  obtain ⟨ne, r, hne, h⟩ := bind_ok h
  obtain ⟨es, r, hes, h⟩ := bind_ok h
  obtain ⟨rfl, rfl⟩ := ok_inj h
  have := vI har
  have h1 := (pN_ok hnn).1
  have h2 := (pN_ok hne).1
  have l1 := pL_len hns
  have l2 := pL_len hes
  have v1 := vL (fun p x q => vNode) hns
  have v2 := vL (fun p x q => vEdge) hes
  refine ⟨⟨⟨?_, ?_⟩, fun n hn => (v1 n hn).1, fun e he => (v2 e he).1, ?_, ?_⟩, ?_⟩
  · simp only [gd]; omega
  · simp only [gd]; omega
  · simp only [gd]; omega
  · simp only [gd]; omega
  · unfold graphE
    split
    · rename_i h; simp only [gd] at h; omega
    split
    · rename_i h; simp only [gd] at h; omega
    split
    · rename_i h; exact absurd (nodesE_zero fun n hn => (v1 n hn).2) h
    split
    · rename_i h; simp only [gd] at h; rw [any_false fun e he => (v2 e he).2] at h; cases h
    · rfl
theorem node_er_ok {n : NodeV} : n.er.ok ↔ n.ok := Iff.rfl
theorem er_ok {g : GraphV} : g.er.ok ↔ g.ok := by
  simp only [GraphV.ok, GraphV.er, gd, List.length_map, List.mem_map, forall_exists_index, and_imp, forall_apply_eq_imp_iff₂]
  exact Iff.rfl
theorem nodesE_er : ∀ (l : List NodeV), nodesE (l.map NodeV.er) = nodesE l
  | [] => rfl
  | n :: r => by
    simp only [List.map_cons, nodesE]
    rw [nodesE_er r]
    rfl
theorem er_E (g : GraphV) : graphE g.er = graphE g := by
  unfold graphE GraphV.er gd
  simp only [List.length_map, nodesE_er]
theorem er_N (g : GraphV) : graphN g.er = graphN g := by
  simp only [graphN, GraphV.er, gd, List.length_map, List.flatMap_map]
  rfl

/-! ### What is laid is read -/
theorem bN {bs rest : List UInt8} {p x most err : Nat} {r : List Nat} (hx : x < 18446744073709551616) (hm : x ≤ most) (h : bs.drop p = fb (x :: r) ++ rest) : ∃ q, pN bs most err p = .ok x q ∧ bs.drop q = fb r ++ rest := by
  have e : fb (x :: r) ++ rest = form x ++ (fb r ++ rest) := by simp [fb]
  rw [e] at h
  refine ⟨p + (form x).length, ?_, ?_⟩
  · unfold pN
    rw [h, num_back hx]
    simp only
    rw [if_neg (by simp), if_neg (by omega)]
  · rw [← List.drop_drop, h, List.drop_left]
theorem bT {bs rest : List UInt8} {p : Nat} {b : Bool} {r : List Nat} (h : bs.drop p = fb (boolN b :: r) ++ rest) : ∃ q, pT bs p = .ok b q ∧ bs.drop q = fb r ++ rest := by
  have e : fb (boolN b :: r) ++ rest = UInt8.ofNat (boolN b) :: (fb r ++ rest) := by
    have : form (boolN b) = [UInt8.ofNat (boolN b)] := form_lt (by unfold boolN; split <;> omega)
    simp [fb, this]
  rw [e] at h
  have hx : bs[p]? = some (UInt8.ofNat (boolN b)) := by
    have := congrArg (·[0]?) h
    simpa using this
  refine ⟨p + 1, ?_, ?_⟩
  · unfold pT
    rw [hx]
    cases b <;> rfl
  · rw [← List.drop_drop, h]; rfl
def Back {α : Type} (f : List UInt8 → Nat → Rs α) (enc : List Nat) (x : α) : Prop := ∀ bs p rest (r : List Nat), bs.drop p = fb (enc ++ r) ++ rest → ∃ q, f bs p = .ok x q ∧ bs.drop q = fb r ++ rest
theorem backL {α β : Type} {f : List UInt8 → Nat → Rs β} {enc : α → List Nat} {er : α → β} : ∀ {l : List α}, (∀ x ∈ l, Back f (enc x) (er x)) → Back (fun bs p => pL (f bs) l.length p) (l.flatMap enc) (l.map er)
  | [], _, bs, p, rest, r, h => ⟨p, rfl, by simpa using h⟩
  | x :: l, hl, bs, p, rest, r, h => by
    obtain ⟨q, h1, h2⟩ := hl x (by simp) bs p rest (l.flatMap enc ++ r) (by simpa using h)
    obtain ⟨q2, h3, h4⟩ := backL (fun y hy => hl y (by simp [hy])) bs q rest r h2
    refine ⟨q2, ?_, h4⟩
    simp only at h3
    simp only [List.length_cons, pL, h1, Rs.bind, h3, List.map_cons]
theorem bPath {bs rest : List UInt8} {p a b c : Nat} {r : List Nat} (ha : a < 18446744073709551616) (hb : b < 18446744073709551616) (hc : c < 18446744073709551616) (h : bs.drop p = fb (a :: b :: c :: r) ++ rest) : ∃ q, pPath bs p = .ok (a, b, c) q ∧ bs.drop q = fb r ++ rest := by
  obtain ⟨q1, h1, h2⟩ := bN (most := 18446744073709551615) (err := 0) ha (by omega) h
  obtain ⟨q2, h3, h4⟩ := bN (most := 18446744073709551615) (err := 0) hb (by omega) h2
  obtain ⟨q3, h5, h6⟩ := bN (most := 18446744073709551615) (err := 0) hc (by omega) h4
  exact ⟨q3, by simp only [pPath, pA, h1, h3, h5, Rs.bind], h6⟩
theorem back_op {o : OpD} (ho : o.ok) (h0 : 0 ≤ o.kd) : Back pOp (opN o) o := by
  intro bs p rest r h
  unfold OpD.ok i64r at ho
  obtain ⟨q1, h1, h2⟩ := bN (most := 9223372036854775807) (err := 12) (by omega) (by omega) h
  obtain ⟨q2, h3, h4⟩ := bN (most := 18446744073709551615) (err := 0) (by omega) (by omega) h2
  refine ⟨q2, ?_, h4⟩
  simp only [pOp, pI, pA, h1, h3, Rs.bind, Rs.ok.injEq, and_true]
  obtain ⟨k, a⟩ := o
  simp only [OpD.mk.injEq, and_true]
  simp only at h0
  omega
theorem back_conn {o : ConnD} (ho : o.ok) (h0 : 0 ≤ o.i ∧ 0 ≤ o.o) : Back pConn (connN o) o := by
  intro bs p rest r h
  unfold ConnD.ok i64r at ho
  obtain ⟨q1, h1, h2⟩ := bN (most := 9223372036854775807) (err := 12) (by omega) (by omega) h
  obtain ⟨q2, h3, h4⟩ := bN (most := 9223372036854775807) (err := 12) (by omega) (by omega) h2
  obtain ⟨q3, h5, h6⟩ := bPath (by omega) (by omega) (by omega) h4
  refine ⟨q3, ?_, h6⟩
  simp only [pConn, pI, h1, h3, h5, Rs.bind, Rs.ok.injEq, and_true]
  obtain ⟨i, o, a, b, c⟩ := o
  simp only [ConnD.mk.injEq, and_true]
  simp only at h0
  omega
theorem back_edge {e : EdgeD} (he : e.ok) (h0 : edgeBad e = false) : Back pEdge (edgeN e) e := by
  intro bs p rest r h
  obtain ⟨e1, e2, e3, e4, _⟩ := edge_len he h0
  unfold EdgeD.ok i64r at he
  obtain ⟨q1, h1, h2⟩ := bN (most := 9223372036854775807) (err := 12) (by omega) (by omega) h
  obtain ⟨q2, h3, h4⟩ := bN (most := 9223372036854775807) (err := 12) (by omega) (by omega) h2
  obtain ⟨q3, h5, h6⟩ := bN (most := 9223372036854775807) (err := 12) (by omega) (by omega) h4
  obtain ⟨q4, h7, h8⟩ := bN (most := 9223372036854775807) (err := 12) (by omega) (by omega) h6
  obtain ⟨q5, h9, h10⟩ := bT h8
  refine ⟨q5, ?_, h10⟩
  simp only [pEdge, pI, h1, h3, h5, h7, h9, Rs.bind, Rs.ok.injEq, and_true]
  obtain ⟨f, o, t, i, k⟩ := e
  simp only [EdgeD.mk.injEq, and_true]
  simp only at e1 e2 e3 e4
  omega
theorem back_node {n : NodeV} (hg : n.good) : Back pNode (nodeN n) n.er := by
  intro bs p rest r h
  obtain ⟨hk, hi, ho, hcl, hnl, hc, hn⟩ := hg.facts
  have hok := hg.1
  have hE := hg.2
  have hpb : portsB n = true ∧ bareB n = true := by
    unfold nodeE at hE
    split at hE
    · cases hE
    split at hE
    · cases hE
    rename_i h2
    split at hE
    · cases hE
    rename_i h3
    exact ⟨by simpa using h2, by simpa using h3⟩
  obtain ⟨hp, hb⟩ := hpb
  unfold NodeV.ok i64r at hok
  have hops : ∀ o ∈ n.code, Back pOp (opN o) o := fun o h => back_op (hok.2.2.2.1 o h) (hc o h)
  have hcos : ∀ o ∈ n.conns, Back pConn (connN o) o := fun o h => back_conn (hok.2.2.2.2.2.2.2.2.1 o h) (hn o h)
  obtain ⟨kd, ins, outs, code, cv, a, b, c, bd, conns, kv, st⟩ := n
  simp only [NodeV.er] at *
  obtain ⟨k, rfl⟩ := Int.eq_ofNat_of_zero_le (show 0 ≤ kd by omega)
  obtain ⟨i, rfl⟩ := Int.eq_ofNat_of_zero_le hi
  obtain ⟨o, rfl⟩ := Int.eq_ofNat_of_zero_le ho
  rw [nodeN_cons] at h
  obtain ⟨q1, h1, h2⟩ := bN (most := 8) (err := 20) (by simp only [toN]; omega) (by simp only [toN]; omega) h
  simp only [toN] at h1
  rw [pNode_eq]
  have hK : pK bs p = .ok k q1 := by unfold pK; rw [h1]; simp only [Rs.bind]; rw [if_neg (by omega)]
  rw [hK]
  simp only [Rs.bind, pNodeK]
  unfold bareB at hb
  unfold portsB at hp
  simp only [Bool.and_eq_true, Bool.or_eq_true, decide_eq_true_eq, Bool.not_eq_true'] at hb hp
  unfold tailN nodeN at h2
  simp only [List.tail_cons] at h2
  by_cases k1 : k = 1
  · subst k1
    rw [if_pos rfl]
    have e1 : code = [] := List.eq_nil_of_length_eq_zero (by rcases hb.1.1 with h | h; omega; exact h)
    have e2 : conns = [] := List.eq_nil_of_length_eq_zero (by rcases hb.2 with h | h; omega; exact h.1)
    have e3 : st = false := by rcases hb.2 with h | h; omega; exact h.2
    have e4 := hb.1.2
    have hp2 := hp.2
    simp at hp2
    refine ⟨q1, ?_, by simpa using h2⟩
    subst e1 e2 e3
    simp only [nd, Rs.ok.injEq, NodeV.mk.injEq, and_true, true_and]
    omega
  rw [if_neg k1]
  by_cases k7 : k = 7
  · subst k7
    rw [if_pos rfl]
    have e1 : code = [] := List.eq_nil_of_length_eq_zero (by rcases hb.1.1 with h | h; omega; exact h)
    have e2 : conns = [] := List.eq_nil_of_length_eq_zero (by rcases hb.2 with h | h; omega; exact h.1)
    have e3 : st = false := by rcases hb.2 with h | h; omega; exact h.2
    have e4 := hb.1.2
    have hp2 := hp.2
    simp at hp2
    refine ⟨q1, ?_, by simpa using h2⟩
    subst e1 e2 e3
    simp only [nd, Rs.ok.injEq, NodeV.mk.injEq, and_true, true_and]
    omega
  rw [if_neg k7]
  have p1 : ¬ ((k : Nat) : Int) = 1 := by omega
  have p7 : ¬ ((k : Nat) : Int) = 7 := by omega
  simp only [if_neg p1, if_neg p7] at hp
  by_cases k23 : k = 2 ∨ k = 3
  · have c23 : ((k : Nat) : Int) = 2 ∨ ((k : Nat) : Int) = 3 := by omega
    rw [if_pos c23] at h2
    rw [if_pos k23]
    have e2 : conns = [] := List.eq_nil_of_length_eq_zero (by rcases hb.2 with h | h; omega; exact h.1)
    have e3 : st = false := by rcases hb.2 with h | h; omega; exact h.2
    have e4 := hb.1.2
    have p4 : ¬ ((k : Nat) : Int) = 4 := by omega
    have p8 : ¬ ((k : Nat) : Int) = 8 := by omega
    have hp2 := hp.2
    simp only [if_neg p4, if_neg p8, decide_eq_true_eq] at hp2
    obtain ⟨q2, h3, h4⟩ := bN (most := 16) (err := 2) (by omega) (by omega) h2
    obtain ⟨q3, h5, h6⟩ := backL (er := id) hops bs q2 rest r h4
    refine ⟨q3, ?_, h6⟩
    simp only [List.map_id] at h5
    simp only [h3, h5]
    subst e2 e3
    simp only [nd, Rs.ok.injEq, NodeV.mk.injEq, and_true, true_and]
    omega
  rw [if_neg k23]
  have c23 : ¬ (((k : Nat) : Int) = 2 ∨ ((k : Nat) : Int) = 3) := by omega
  rw [if_neg c23] at h2
  have e1 : code = [] := List.eq_nil_of_length_eq_zero (by rcases hb.1.1 with h | h; exact absurd h c23; exact h)
  subst e1
  by_cases k5 : k = 5
  · subst k5
    rw [if_pos (by simp)] at h2
    rw [if_pos rfl]
    have e2 : conns = [] := List.eq_nil_of_length_eq_zero (by rcases hb.2 with h | h; omega; exact h.1)
    have e3 : st = false := by rcases hb.2 with h | h; omega; exact h.2
    have hp2 := hp.2
    simp at hp2
    obtain ⟨q2, h3, h4⟩ := bN (most := 18446744073709551615) (err := 0) (by omega) (by omega) h2
    obtain ⟨q3, h5, h6⟩ := bPath (by omega) (by omega) (by omega) h4
    refine ⟨q3, ?_, h6⟩
    simp only [pA, h3, h5]
    subst e2 e3
    simp only [nd, Rs.ok.injEq, NodeV.mk.injEq, and_true, true_and]
    omega
  rw [if_neg k5]
  have c5 : ¬ ((k : Nat) : Int) = 5 := by omega
  rw [if_neg c5] at h2
  have e4 := hb.1.2
  by_cases k8 : k = 8
  · subst k8
    rw [if_pos (by simp)] at h2
    rw [if_pos rfl]
    have h2 : bs.drop q1 = fb (boolN st :: conns.length :: (conns.flatMap connN ++ (((o : Nat) : Int).toNat :: ((i : Nat) : Int).toNat :: r))) ++ rest := by rw [h2]; simp
    obtain ⟨q2, h3, h4⟩ := bT h2
    obtain ⟨q3, h5, h6⟩ := bN (most := 16) (err := 2) (by omega) (by omega) h4
    obtain ⟨q4, h7, h8⟩ := backL (er := id) hcos bs q3 rest _ h6
    obtain ⟨q5, h9, h10⟩ := bN (most := 9223372036854775807) (err := 12) (by simp only [toN]; omega) (by simp only [toN]; omega) h8
    obtain ⟨q6, h11, h12⟩ := bN (most := 9223372036854775807) (err := 12) (by simp only [toN]; omega) (by simp only [toN]; omega) h10
    refine ⟨q6, ?_, h12⟩
    simp only [List.map_id] at h7
    simp only [pI, h3, h5, h7, h9, h11, toN]
    simp only [nd, Rs.ok.injEq, NodeV.mk.injEq, and_true, true_and]
    omega
  rw [if_neg k8]
  have c8 : ¬ ((k : Nat) : Int) = 8 := by omega
  rw [if_neg c8] at h2
  have e2 : conns = [] := List.eq_nil_of_length_eq_zero (by rcases hb.2 with h | h; exact absurd h c8; exact h.1)
  have e3 : st = false := by rcases hb.2 with h | h; exact absurd h c8; exact h.2
  subst e2 e3
  by_cases k4 : k = 4
  · subst k4
    rw [if_pos (by simp)] at h2
    rw [if_pos rfl]
    have hp2 := hp.2
    simp at hp2
    obtain ⟨q2, h3, h4⟩ := bN (most := 9223372036854775807) (err := 12) (by simp only [toN]; omega) (by simp only [toN]; omega) h2
    refine ⟨q2, ?_, h4⟩
    simp only [pI, h3, toN]
    simp only [nd, Rs.ok.injEq, NodeV.mk.injEq, and_true, true_and]
    omega
  · rw [if_neg k4]
    have c4 : ¬ ((k : Nat) : Int) = 4 := by omega
    rw [if_neg c4] at h2
    have hp2 := hp.2
    simp only [if_neg c4, if_neg c8, decide_eq_true_eq] at hp2
    refine ⟨q1, ?_, by simpa using h2⟩
    simp only [nd, Rs.ok.injEq, NodeV.mk.injEq, and_true, true_and]
    omega
theorem graph_back {g : GraphV} (hok : g.ok) (hE : graphE g = 0) : pGraph (fb (graphN g)) = .ok g.er (fb (graphN g)).length := by
  have hE0 := hE
  unfold graphE at hE
  split at hE
  · cases hE
  rename_i hl
  split at hE
  · cases hE
  rename_i ha
  split at hE
  · rename_i h; exact absurd hE h
  rename_i hns
  split at hE
  · cases hE
  rename_i hes
  have hns : nodesE g.nodes = 0 := by omega
  have hes : g.edges.any edgeBad = false := by simpa using hes
  have hn : ∀ n ∈ g.nodes, Back pNode (nodeN n) n.er := fun n hn => back_node ⟨hok.2.1 n hn, nodesE_mem hns n hn⟩
  have he : ∀ e ∈ g.edges, Back pEdge (edgeN e) e := fun e he => back_edge (hok.2.2.1 e he) (by simpa using List.any_eq_false.1 hes e he)
  have hok := hok
  unfold GraphV.ok i64r at hok
  have key : ∀ bs : List UInt8, bs = fb (graphN g) → ∃ q, pGraph bs = .ok g.er q := by
    intro bs hbs
    have h0 : bs.drop 0 = fb (g.ar.toNat :: g.nodes.length :: (g.nodes.flatMap nodeN ++ (g.edges.length :: (g.edges.flatMap edgeN ++ [])))) ++ [] := by
      rw [hbs]; simp [graphN]
    obtain ⟨q1, h1, h2⟩ := bN (most := 9223372036854775807) (err := 12) (by omega) (by omega) h0
    obtain ⟨q2, h3, h4⟩ := bN (most := 24) (err := 2) (by omega) (by omega) h2
    obtain ⟨q3, h5, h6⟩ := backL hn _ q2 [] _ h4
    obtain ⟨q4, h7, h8⟩ := bN (most := 48) (err := 2) (by omega) (by omega) h6
    obtain ⟨q5, h9, h10⟩ := backL (er := id) he _ q4 [] _ h8
    have hq : bs.length ≤ q5 := by
      have : List.drop q5 bs = [] := h10.trans (by simp [fb])
      exact List.drop_eq_nil_iff.1 this
    refine ⟨q5, ?_⟩
    simp only [List.map_id] at h9
    simp only at h5
    unfold pGraph pI
    rw [h1]
    simp only [Rs.bind]
    rw [h3]
    simp only
    rw [h5]
    simp only
    rw [h7]
    simp only
    rw [h9]
    simp only
    rw [if_neg (by omega)]
    have e : ((g.ar.toNat : Nat) : Int) = g.ar := by omega
    rw [e]
    rfl
  obtain ⟨q, hq⟩ := key _ rfl
  have := (graph_ok hq).2
  rw [hq, this]
end Go.Proofs.Ytdmocobabpmoeaa
