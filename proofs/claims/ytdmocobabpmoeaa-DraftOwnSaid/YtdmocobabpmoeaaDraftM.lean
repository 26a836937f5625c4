/-
  Draft's plain law, for graphs. No program in sight.
-/
import Derived.Test.YtdmocobabpmoeaaDraftL
namespace Go.Proofs.Ytdmocobabpmoeaa
open Go.Vc Go.Sep Go.Ops
set_option linter.unusedVariables false
set_option linter.unusedSectionVars false
set_option linter.unusedSimpArgs false

theorem bind_ok {α β : Type} {r : Rs α} {f : α → Nat → Rs β} {y : β} {q : Nat} (h : r.bind f = .ok y q) : ∃ x p, r = .ok x p ∧ f x p = .ok y q := by
  cases r with
  | ok x p => exact ⟨x, p, rfl, h⟩
  | bad e a => cases h
theorem ok_inj {α : Type} {x y : α} {p q : Nat} (h : Rs.ok x p = .ok y q) : x = y ∧ p = q := by cases h; exact ⟨rfl, rfl⟩
theorem fine_pI : Fine pI (fun x => [x]) := fine_pN _ _ (.inl (by decide))
theorem fine_pA : Fine pA (fun x => [x]) := fine_pN _ _ (.inr rfl)
theorem toN (n : Nat) : ((n : Nat) : Int).toNat = n := by omega

theorem fine_pPath : Fine pPath (fun q => [q.1, q.2.1, q.2.2]) := by
  refine fine_bind (e2 := fun _ q => [q.2.1, q.2.2]) fine_pA (fun _ _ a _ _ => ?_) (fun bs p x q y q' _ h2 => ?_)
  · refine fine_bind (e2 := fun _ q => [q.2.2]) fine_pA (fun _ _ b _ _ => ?_) (fun bs p x q y q' _ h2 => ?_)
    · refine fine_bind (e2 := fun _ _ => []) fine_pA (fun _ _ c _ _ => fine_pure _ rfl) (fun bs p x q y q' _ h2 => ?_)
      obtain ⟨rfl, rfl⟩ := ok_inj h2
      rfl
    · obtain ⟨c, r, h3, h4⟩ := bind_ok h2
      obtain ⟨rfl, rfl⟩ := ok_inj h4
      rfl
  · obtain ⟨b, r, h3, h4⟩ := bind_ok h2
    obtain ⟨c, r2, h5, h6⟩ := bind_ok h4
    obtain ⟨rfl, rfl⟩ := ok_inj h6
    rfl
theorem fine_pOp : Fine pOp opN := by
  refine fine_bind (e2 := fun _ o => [o.arg]) fine_pI (fun _ _ k _ _ => ?_) (fun bs p x q y q' _ h2 => ?_)
  · refine fine_bind (e2 := fun _ _ => []) fine_pA (fun _ _ c _ _ => fine_pure _ rfl) (fun bs p x q y q' _ h2 => ?_)
    obtain ⟨rfl, rfl⟩ := ok_inj h2
    rfl
  · obtain ⟨b, r, h3, h4⟩ := bind_ok h2
    obtain ⟨rfl, rfl⟩ := ok_inj h4
    simp [opN]
theorem fine_pConn : Fine pConn connN := by
  refine fine_bind (e2 := fun _ o => [o.o.toNat, o.a, o.b, o.c]) fine_pI (fun _ _ k _ _ => ?_) (fun bs p x q y q' _ h2 => ?_)
  · refine fine_bind (e2 := fun _ o => [o.a, o.b, o.c]) fine_pI (fun _ _ c _ _ => ?_) (fun bs p x q y q' _ h2 => ?_)
    · refine fine_bind (e2 := fun _ _ => []) fine_pPath (fun _ _ c _ _ => fine_pure _ rfl) (fun bs p x q y q' _ h2 => ?_)
      obtain ⟨rfl, rfl⟩ := ok_inj h2
      rfl
    · obtain ⟨b, r, h3, h4⟩ := bind_ok h2
      obtain ⟨rfl, rfl⟩ := ok_inj h4
      simp
  · obtain ⟨b, r, h3, h4⟩ := bind_ok h2
    obtain ⟨c, r2, h5, h6⟩ := bind_ok h4
    obtain ⟨rfl, rfl⟩ := ok_inj h6
    simp [connN]
theorem fine_pEdge : Fine pEdge edgeN := by
  refine fine_bind (e2 := fun _ e => [e.o.toNat, e.t.toNat, e.i.toNat, boolN e.kd]) fine_pI (fun _ _ f _ _ => ?_) (fun bs p x q y q' _ h2 => ?_)
  · refine fine_bind (e2 := fun _ e => [e.t.toNat, e.i.toNat, boolN e.kd]) fine_pI (fun _ _ o _ _ => ?_) (fun bs p x q y q' _ h2 => ?_)
    · refine fine_bind (e2 := fun _ e => [e.i.toNat, boolN e.kd]) fine_pI (fun _ _ t _ _ => ?_) (fun bs p x q y q' _ h2 => ?_)
      · refine fine_bind (e2 := fun _ e => [boolN e.kd]) fine_pI (fun _ _ i _ _ => ?_) (fun bs p x q y q' _ h2 => ?_)
        · refine fine_bind (e2 := fun _ _ => []) fine_pT (fun _ _ c _ _ => fine_pure _ rfl) (fun bs p x q y q' _ h2 => ?_)
          obtain ⟨rfl, rfl⟩ := ok_inj h2
          rfl
        · obtain ⟨k, r, h3, h4⟩ := bind_ok h2
          obtain ⟨rfl, rfl⟩ := ok_inj h4
          simp
      · obtain ⟨i, r, h3, h4⟩ := bind_ok h2
        obtain ⟨k, r2, h5, h6⟩ := bind_ok h4
        obtain ⟨rfl, rfl⟩ := ok_inj h6
        simp
    · obtain ⟨t, r, h3, h4⟩ := bind_ok h2
      obtain ⟨i, r2, h5, h6⟩ := bind_ok h4
      obtain ⟨k, r3, h7, h8⟩ := bind_ok h6
      obtain ⟨rfl, rfl⟩ := ok_inj h8
      simp
  · obtain ⟨o, r, h3, h4⟩ := bind_ok h2
    obtain ⟨t, r2, h5, h6⟩ := bind_ok h4
    obtain ⟨i, r3, h7, h8⟩ := bind_ok h6
    obtain ⟨k, r4, h9, h10⟩ := bind_ok h8
    obtain ⟨rfl, rfl⟩ := ok_inj h10
    simp [edgeN]
/-- the kind -/
def pK (bs : List UInt8) (p : Nat) : Rs Nat := (pN bs 8 20 p).bind fun k q => if k < 1 then .bad 20 p else .ok k q
theorem fine_pK : Fine pK (fun x => [x]) := by
  have hf := fine_pN 8 20 (.inl (by decide))
  refine ⟨fun bs p x q hp hh => ?_, fun bs p e a hp hh => ?_⟩
  · obtain ⟨k, r, h1, h2⟩ := bind_ok hh
    split at h2
    · cases h2
    · rename_i hk
      obtain ⟨rfl, rfl⟩ := ok_inj h2
      obtain ⟨a1, a2, a3, a4, a5, a6⟩ := hf.ok bs p k r hp h1
      refine ⟨a1, a2, a3, fun r' => ?_, fun i hi => ?_, fun i h2 h3 => ?_⟩
      · unfold pK; simp only [a4 r', Rs.bind, if_neg hk]
      · unfold pK; simp only [a5 i hi, Rs.bind, if_neg hk]
      · obtain ⟨a, ha, hai⟩ := a6 i h2 h3
        exact ⟨a, by unfold pK; simp only [ha, Rs.bind], hai⟩
  · unfold pK at hh
    cases h1 : pN bs 8 20 p with
    | bad e' a' => simp only [h1, Rs.bind, Rs.bad.injEq] at hh; obtain ⟨rfl, rfl⟩ := hh; exact hf.bad bs p _ _ hp h1
    | ok k r =>
      simp only [h1, Rs.bind] at hh
      split at hh
      · simp only [Rs.bad.injEq] at hh; omega
      · cases hh
def pNodeK (k : Nat) (bs : List UInt8) (p : Nat) : Rs NodeV :=
    if k = 1 then .ok (nd 1 0 1) p else if k = 7 then .ok (nd 7 1 0) p else
    if k = 2 ∨ k = 3 then (pN bs 16 2 p).bind fun c p => (pL (pOp bs) c p).bind fun l p => .ok { nd k 1 1 with code := l } p else
    if k = 5 then (pA bs p).bind fun bd p => (pPath bs p).bind fun q p => .ok { nd k 1 1 with bd := bd, a := q.1, b := q.2.1, c := q.2.2 } p else
    if k = 8 then (pT bs p).bind fun st p => (pN bs 16 2 p).bind fun m p => (pL (pConn bs) m p).bind fun l p => (pI bs p).bind fun o p => (pI bs p).bind fun i p => .ok { nd k i o with st := st, conns := l } p else
    if k = 4 then (pI bs p).bind fun i p => .ok (nd k i 1) p else .ok (nd k 1 1) p
theorem pNode_eq (bs : List UInt8) (p : Nat) : pNode bs p = (pK bs p).bind fun k q => pNodeK k bs q := by
  unfold pNode pK
  cases pN bs 8 20 p with
  | bad e a => rfl
  | ok k q =>
    simp only [Rs.bind]
    by_cases h : k < 1
    · rw [if_pos h, if_pos h]
    · rw [if_neg h, if_neg h]; rfl
theorem pK_ok {bs : List UInt8} {p k q : Nat} (h : pK bs p = .ok k q) : 1 ≤ k ∧ k ≤ 8 := by
  obtain ⟨x, r, h1, h2⟩ := bind_ok h
  split at h2
  · cases h2
  · obtain ⟨rfl, rfl⟩ := ok_inj h2
    have := (pN_ok h1).1
    omega
/-- what a node's kind has behind it -/
def tailN (n : NodeV) : List Nat := (nodeN n).tail
theorem nodeN_cons (n : NodeV) : nodeN n = n.kd.toNat :: tailN n := by unfold tailN nodeN; rfl
theorem pNodeK_kd {k : Nat} {bs : List UInt8} {p q : Nat} {n : NodeV} (h : pNodeK k bs p = .ok n q) : n.kd = k := by
  unfold pNodeK at h
  split at h
  · obtain ⟨rfl, rfl⟩ := ok_inj h; simp [nd]; omega
  split at h
  · obtain ⟨rfl, rfl⟩ := ok_inj h; simp [nd]; omega
  split at h
  · obtain ⟨c, r, h1, h⟩ := bind_ok h
    obtain ⟨l, r, h1, h⟩ := bind_ok h
    obtain ⟨rfl, rfl⟩ := ok_inj h; rfl
  split at h
  · obtain ⟨c, r, h1, h⟩ := bind_ok h
    obtain ⟨l, r, h1, h⟩ := bind_ok h
    obtain ⟨rfl, rfl⟩ := ok_inj h; rfl
  split at h
  · obtain ⟨c, r, h1, h⟩ := bind_ok h
    obtain ⟨l, r, h1, h⟩ := bind_ok h
    obtain ⟨l, r, h1, h⟩ := bind_ok h
    obtain ⟨l, r, h1, h⟩ := bind_ok h
    obtain ⟨l, r, h1, h⟩ := bind_ok h
    obtain ⟨rfl, rfl⟩ := ok_inj h; rfl
  split at h
  · obtain ⟨c, r, h1, h⟩ := bind_ok h
    obtain ⟨rfl, rfl⟩ := ok_inj h; rfl
  · obtain ⟨rfl, rfl⟩ := ok_inj h; rfl
theorem fine_pNodeK (k : Nat) : Fine (pNodeK k) tailN := by
  unfold pNodeK
  by_cases h1 : k = 1
  · simp only [if_pos h1]
    exact fine_pure _ (by simp [tailN, nodeN, nd])
  simp only [if_neg h1]
  by_cases h7 : k = 7
  · simp only [if_pos h7]
    exact fine_pure _ (by simp [tailN, nodeN, nd])
  simp only [if_neg h7]
  by_cases h23 : k = 2 ∨ k = 3
  · simp only [if_pos h23]
    have e23 : (k : Int) = 2 ∨ (k : Int) = 3 := by omega
    refine fine_bind (e2 := fun _ n => n.code.flatMap opN) (fine_pN 16 2 (.inl (by decide))) (fun _ _ c _ _ => ?_) (fun bs p x q y q' _ h2 => ?_)
    · refine fine_bind (e2 := fun _ _ => []) (fine_pL fine_pOp c) (fun _ _ l _ _ => ?_) (fun bs p x q y q' _ h2 => ?_)
      · exact fine_pure _ rfl
      · obtain ⟨rfl, rfl⟩ := ok_inj h2
        simp
    · obtain ⟨l, r, h3, h4⟩ := bind_ok h2
      obtain ⟨rfl, rfl⟩ := ok_inj h4
      have := pL_len h3
      simp [tailN, nodeN, nd, e23, this]
  simp only [if_neg h23]
  have e23 : ¬ ((k : Int) = 2 ∨ (k : Int) = 3) := by omega
  by_cases h5 : k = 5
  · simp only [if_pos h5]
    have e5 : (k : Int) = 5 := by omega
    refine fine_bind (e2 := fun _ n => [n.a, n.b, n.c]) fine_pA (fun _ _ c _ _ => ?_) (fun bs p x q y q' _ h2 => ?_)
    · refine fine_bind (e2 := fun _ _ => []) fine_pPath (fun _ _ l _ _ => ?_) (fun bs p x q y q' _ h2 => ?_)
      · exact fine_pure _ rfl
      · obtain ⟨rfl, rfl⟩ := ok_inj h2
        simp
    · obtain ⟨l, r, h3, h4⟩ := bind_ok h2
      obtain ⟨rfl, rfl⟩ := ok_inj h4
      simp [tailN, nodeN, nd, e5]
  simp only [if_neg h5]
  have e5 : ¬ (k : Int) = 5 := by omega
  by_cases h8 : k = 8
  · simp only [if_pos h8]
    have e8 : (k : Int) = 8 := by omega
    refine fine_bind (e2 := fun _ n => n.conns.length :: (n.conns.flatMap connN ++ [n.outs.toNat, n.ins.toNat])) fine_pT (fun _ _ st _ _ => ?_) (fun bs p x q y q' _ h2 => ?_)
    · refine fine_bind (e2 := fun _ n => n.conns.flatMap connN ++ [n.outs.toNat, n.ins.toNat]) (fine_pN 16 2 (.inl (by decide))) (fun _ _ m _ _ => ?_) (fun bs p x q y q' _ h2 => ?_)
      · refine fine_bind (e2 := fun _ n => [n.outs.toNat, n.ins.toNat]) (fine_pL fine_pConn m) (fun _ _ l _ _ => ?_) (fun bs p x q y q' _ h2 => ?_)
        · refine fine_bind (e2 := fun _ n => [n.ins.toNat]) fine_pI (fun _ _ o _ _ => ?_) (fun bs p x q y q' _ h2 => ?_)
          · refine fine_bind (e2 := fun _ _ => []) fine_pI (fun _ _ i _ _ => ?_) (fun bs p x q y q' _ h2 => ?_)
            · exact fine_pure _ rfl
            · obtain ⟨rfl, rfl⟩ := ok_inj h2
              simp [nd]
          · obtain ⟨i, r, h3, h4⟩ := bind_ok h2
            obtain ⟨rfl, rfl⟩ := ok_inj h4
            simp [nd]
        · obtain ⟨o, r, h3, h4⟩ := bind_ok h2
          obtain ⟨i, r2, h5, h6⟩ := bind_ok h4
          obtain ⟨rfl, rfl⟩ := ok_inj h6
          simp [nd]
      · obtain ⟨l, r0, h3', h4'⟩ := bind_ok h2
        obtain ⟨o, r, h3, h4⟩ := bind_ok h4'
        obtain ⟨i, r2, h5, h6⟩ := bind_ok h4
        obtain ⟨rfl, rfl⟩ := ok_inj h6
        have := pL_len h3'
        simp [nd, this]
    · obtain ⟨m, r00, h3'', h4''⟩ := bind_ok h2
      obtain ⟨l, r0, h3', h4'⟩ := bind_ok h4''
      obtain ⟨o, r, h3, h4⟩ := bind_ok h4'
      obtain ⟨i, r2, h5, h6⟩ := bind_ok h4
      obtain ⟨rfl, rfl⟩ := ok_inj h6
      simp [tailN, nodeN, nd, e8]
  simp only [if_neg h8]
  have e8 : ¬ (k : Int) = 8 := by omega
  by_cases h4 : k = 4
  · simp only [if_pos h4]
    have e4 : (k : Int) = 4 := by omega
    refine fine_bind (e2 := fun _ _ => []) fine_pI (fun _ _ i _ _ => ?_) (fun bs p x q y q' _ h2 => ?_)
    · exact fine_pure _ rfl
    · obtain ⟨rfl, rfl⟩ := ok_inj h2
      simp [tailN, nodeN, nd, e4]
  simp only [if_neg h4]
  have e4 : ¬ (k : Int) = 4 := by omega
  exact fine_pure _ (by simp [tailN, nodeN, nd, e23, e5, e8, e4])
theorem fine_pNode : Fine pNode nodeN := by
  have h := fine_bind (f := pK) (g := pNodeK) (e1 := fun x => [x]) (e2 := fun _ n => tailN n) (enc := nodeN) fine_pK (fun _ _ k _ _ => fine_pNodeK k) (fun bs p x q y q' _ h2 => by
    rw [nodeN_cons, pNodeK_kd h2, toN]; rfl)
  have e : pNode = fun bs p => (pK bs p).bind fun k q => pNodeK k bs q := by funext bs p; exact pNode_eq bs p
  rw [e]
  exact h
def pG (bs : List UInt8) (p : Nat) : Rs GraphV :=
  (pI bs p).bind fun ar p => (pN bs 24 2 p).bind fun nn p => (pL (pNode bs) nn p).bind fun ns p => (pN bs 48 2 p).bind fun ne p => (pL (pEdge bs) ne p).bind fun es p => .ok (gd ar ns es) p
theorem pGraph_eq (bs : List UInt8) : pGraph bs = (pG bs 0).bind fun g p => if p < bs.length then .bad 32 p else .ok g p := by
  unfold pGraph pG
  cases pI bs 0 with
  | bad e a => rfl
  | ok ar p =>
    simp only [Rs.bind]
    cases pN bs 24 2 p with
    | bad e a => rfl
    | ok nn p =>
      simp only
      cases pL (pNode bs) nn p with
      | bad e a => rfl
      | ok ns p =>
        simp only
        cases pN bs 48 2 p with
        | bad e a => rfl
        | ok ne p =>
          simp only
          cases pL (pEdge bs) ne p with
          | bad e a => rfl
          | ok es p => rfl
theorem fine_pG : Fine pG graphN := by
  refine fine_bind (e2 := fun _ g => g.nodes.length :: (g.nodes.flatMap nodeN ++ (g.edges.length :: g.edges.flatMap edgeN))) fine_pI (fun _ _ ar _ _ => ?_) (fun bs p x q y q' _ h2 => ?_)
  · refine fine_bind (e2 := fun _ g => g.nodes.flatMap nodeN ++ (g.edges.length :: g.edges.flatMap edgeN)) (fine_pN 24 2 (.inl (by decide))) (fun _ _ nn _ _ => ?_) (fun bs p x q y q' _ h2 => ?_)
    · refine fine_bind (e2 := fun _ g => g.edges.length :: g.edges.flatMap edgeN) (fine_pL fine_pNode nn) (fun _ _ ns _ _ => ?_) (fun bs p x q y q' _ h2 => ?_)
      · refine fine_bind (e2 := fun _ g => g.edges.flatMap edgeN) (fine_pN 48 2 (.inl (by decide))) (fun _ _ ne _ _ => ?_) (fun bs p x q y q' _ h2 => ?_)
        · refine fine_bind (e2 := fun _ _ => []) (fine_pL fine_pEdge ne) (fun _ _ es _ _ => fine_pure _ rfl) (fun bs p x q y q' _ h2 => ?_)
          obtain ⟨rfl, rfl⟩ := ok_inj h2
          simp [gd]
        · obtain ⟨es, r, h3, h4⟩ := bind_ok h2
          obtain ⟨rfl, rfl⟩ := ok_inj h4
          simp [gd, pL_len h3]
      · obtain ⟨ne, r, h3, h4⟩ := bind_ok h2
        obtain ⟨es, r2, h5, h6⟩ := bind_ok h4
        obtain ⟨rfl, rfl⟩ := ok_inj h6
        simp [gd]
    · obtain ⟨ns, r0, h1, h2'⟩ := bind_ok h2
      obtain ⟨ne, r, h3, h4⟩ := bind_ok h2'
      obtain ⟨es, r2, h5, h6⟩ := bind_ok h4
      obtain ⟨rfl, rfl⟩ := ok_inj h6
      simp [gd, pL_len h1]
  · obtain ⟨nn, r00, h0, h1'⟩ := bind_ok h2
    obtain ⟨ns, r0, h1, h2'⟩ := bind_ok h1'
    obtain ⟨ne, r, h3, h4⟩ := bind_ok h2'
    obtain ⟨es, r2, h5, h6⟩ := bind_ok h4
    obtain ⟨rfl, rfl⟩ := ok_inj h6
    simp [gd, graphN]
theorem graph_ok {bs : List UInt8} {g : GraphV} {p : Nat} (h : pGraph bs = .ok g p) : pG bs 0 = .ok g p ∧ p = bs.length := by
  rw [pGraph_eq] at h
  obtain ⟨g', q, h1, h2⟩ := bind_ok h
  split at h2
  · cases h2
  · rename_i hq
    obtain ⟨rfl, rfl⟩ := ok_inj h2
    have := (fine_pG.ok bs 0 _ _ (Nat.zero_le _) h1).2.1
    exact ⟨h1, by omega⟩
theorem graph_sole {bs : List UInt8} {g : GraphV} {p : Nat} (h : pGraph bs = .ok g p) : fb (graphN g) = bs := by
  obtain ⟨h1, rfl⟩ := graph_ok h
  have := (fine_pG.ok bs 0 _ _ (Nat.zero_le _) h1).2.2.1
  rw [List.take_of_length_le (Nat.le_refl _)] at this
  simpa using this.symm
theorem graph_bad {bs : List UInt8} {e a : Nat} (h : pGraph bs = .bad e a) : a ≤ bs.length ∧ e ≠ 0 := by
  rw [pGraph_eq] at h
  cases h1 : pG bs 0 with
  | bad e' a' => simp only [h1, Rs.bind, Rs.bad.injEq] at h; obtain ⟨rfl, rfl⟩ := h; exact fine_pG.bad bs 0 _ _ (Nat.zero_le _) h1
  | ok g p =>
    simp only [h1, Rs.bind] at h
    split at h
    · simp only [Rs.bad.injEq] at h; omega
    · cases h
theorem graph_short {bs : List UInt8} {g : GraphV} {p i : Nat} (h : pGraph bs = .ok g p) (hi : i < bs.length) : ∃ a, pGraph (bs.take i) = .bad 30 a ∧ a ≤ i := by
  obtain ⟨h1, rfl⟩ := graph_ok h
  obtain ⟨a, ha, hai⟩ := (fine_pG.ok bs 0 _ _ (Nat.zero_le _) h1).2.2.2.2.2 i (Nat.zero_le _) hi
  exact ⟨a, by rw [pGraph_eq, ha]; rfl, hai⟩
theorem graph_rest {bs : List UInt8} {g : GraphV} {p : Nat} (h : pGraph bs = .ok g p) (x : UInt8) : pGraph (bs ++ [x]) = .bad 32 bs.length := by
  obtain ⟨h1, rfl⟩ := graph_ok h
  have := (fine_pG.ok bs 0 _ _ (Nat.zero_le _) h1).2.2.2.1 [x]
  rw [pGraph_eq, this]
  simp [Rs.bind]
end Go.Proofs.Ytdmocobabpmoeaa
