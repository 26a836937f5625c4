
/-
  Package draft: the taker's small calls; what bytes are read as, in plain Lean.
-/
import Derived.Test.YtdmocobabpmoeaaDraftF
namespace Go.Proofs.Ytdmocobabpmoeaa
open Go.Vc Go.Sep Go.Ops
set_option linter.unusedVariables false
set_option linter.unusedSectionVars false
set_option linter.unusedSimpArgs false

/-- read: what, and the place behind it; or the error and its place -/
inductive Rs (α : Type) where
  | ok (x : α) (p : Nat)
  | bad (e a : Nat)
def Rs.bind {α β : Type} : Rs α → (α → Nat → Rs β) → Rs β
  | .ok x p, f => f x p
  | .bad e a, _ => .bad e a
def pN (bs : List UInt8) (most err p : Nat) : Rs Nat :=
  if (num (bs.drop p)).2.2 ≠ 0 then .bad (num (bs.drop p)).2.2 p else
  if most < (num (bs.drop p)).1 then .bad err p else .ok (num (bs.drop p)).1 (p + (num (bs.drop p)).2.1)
def pA (bs : List UInt8) (p : Nat) : Rs Nat := pN bs 18446744073709551615 0 p
def pI (bs : List UInt8) (p : Nat) : Rs Nat := pN bs 9223372036854775807 12 p
def pT (bs : List UInt8) (p : Nat) : Rs Bool :=
  match bs[p]? with
  | none => .bad 30 p
  | some x => if x.toNat < 2 then .ok (decide (x.toNat = 1)) (p + 1) else .bad 31 p
def pPath (bs : List UInt8) (p : Nat) : Rs (Nat × Nat × Nat) := (pA bs p).bind fun a p => (pA bs p).bind fun b p => (pA bs p).bind fun c p => .ok (a, b, c) p
def pEdge (bs : List UInt8) (p : Nat) : Rs EdgeD := (pI bs p).bind fun f p => (pI bs p).bind fun o p => (pI bs p).bind fun t p => (pI bs p).bind fun i p => (pT bs p).bind fun k p => .ok ⟨f, o, t, i, k⟩ p
def pOp (bs : List UInt8) (p : Nat) : Rs OpD := (pI bs p).bind fun k p => (pA bs p).bind fun a p => .ok ⟨k, a⟩ p
def pConn (bs : List UInt8) (p : Nat) : Rs ConnD := (pI bs p).bind fun i p => (pI bs p).bind fun o p => (pPath bs p).bind fun q p => .ok ⟨i, o, q.1, q.2.1, q.2.2⟩ p
def pL {α : Type} (f : Nat → Rs α) : Nat → Nat → Rs (List α)
  | 0, p => .ok [] p
  | n + 1, p => (f p).bind fun x p => (pL f n p).bind fun xs p => .ok (x :: xs) p
theorem pL_snoc {α : Type} (f : Nat → Rs α) : ∀ (i p : Nat), pL f (i + 1) p = (pL f i p).bind fun xs p => (f p).bind fun x q => .ok (xs ++ [x]) q
  | 0, p => by
    simp only [pL, Rs.bind]
    cases f p <;> simp [Rs.bind]
  | i + 1, p => by
    rw [pL]
    cases h : f p with
    | bad e a => simp [pL, h, Rs.bind]
    | ok x q =>
      simp only [Rs.bind]
      rw [pL_snoc f i q]
      conv => rhs; rw [pL]
      simp only [h, Rs.bind]
      cases pL f i q with
      | bad e a => simp [Rs.bind]
      | ok xs r =>
        simp only [Rs.bind]
        cases f r <;> simp [Rs.bind]
theorem pL_bad {α : Type} {f : Nat → Rs α} {i p e a : Nat} (h : pL f i p = .bad e a) : ∀ {n : Nat}, i ≤ n → pL f n p = .bad e a := by
  intro n
  induction n with
  | zero =>
    intro hn
    obtain rfl : i = 0 := by omega
    exact h
  | succ n ih =>
    intro hn
    by_cases e1 : i ≤ n
    · rw [pL_snoc, ih e1]; rfl
    · obtain rfl : i = n + 1 := by omega
      exact h
/-- a node without what it holds -/
def nd (kd ins outs : Int) : NodeV := ⟨kd, ins, outs, [], .nilIface, 0, 0, 0, 0, [], .nilIface, false⟩
def pNode (bs : List UInt8) (p0 : Nat) : Rs NodeV :=
  (pN bs 8 20 p0).bind fun k p => if k < 1 then .bad 20 p0 else
    if k = 1 then .ok (nd 1 0 1) p else if k = 7 then .ok (nd 7 1 0) p else
    if k = 2 ∨ k = 3 then (pN bs 16 2 p).bind fun c p => (pL (pOp bs) c p).bind fun l p => .ok { nd k 1 1 with code := l } p else
    if k = 5 then (pA bs p).bind fun bd p => (pPath bs p).bind fun q p => .ok { nd k 1 1 with bd := bd, a := q.1, b := q.2.1, c := q.2.2 } p else
    if k = 8 then (pT bs p).bind fun st p => (pN bs 16 2 p).bind fun m p => (pL (pConn bs) m p).bind fun l p => (pI bs p).bind fun o p => (pI bs p).bind fun i p => .ok { nd k i o with st := st, conns := l } p else
    if k = 4 then (pI bs p).bind fun i p => .ok (nd k i 1) p else .ok (nd k 1 1) p
def gd (ar : Int) (ns : List NodeV) (es : List EdgeD) : GraphV := ⟨ar, ns, .nilIface, es, .nilIface⟩
def pGraph (bs : List UInt8) : Rs GraphV :=
  (pI bs 0).bind fun ar p => (pN bs 24 2 p).bind fun nn p => (pL (pNode bs) nn p).bind fun ns p => (pN bs 48 2 p).bind fun ne p => (pL (pEdge bs) ne p).bind fun es p =>
    if p < bs.length then .bad 32 p else .ok (gd ar ns es) p

theorem pN_ok {bs : List UInt8} {most err p x q : Nat} (h : pN bs most err p = .ok x q) : x ≤ most ∧ x < 18446744073709551616 ∧ (num (bs.drop p)).2.2 = 0 ∧ x = (num (bs.drop p)).1 ∧ q = p + (num (bs.drop p)).2.1 := by
  unfold pN at h
  split at h
  · cases h
  · rename_i h1
    split at h
    · cases h
    · rename_i h2
      cases h
      exact ⟨by omega, (num_bounds _).1, by omega, rfl, rfl⟩
section
variable {W w : World} {L : List HProp} {K : Value → World → Prop} {KU : World → Prop} {X : XPost}
theorem num_spec {r p most err : Nat} {bs : List UInt8} (H : St W w (Rr r 0 bs p :: L))
    (k : ∀ x q w', pN bs most err p = .ok x q → St W w' (Rr r 0 bs q :: L) → K (.int .u64 x) w') (kx : ∀ e a w', pN bs most err p = .bad e a → St W w' L → X (wrongE e a) w') :
    FCall Try.prog Fn.draft_taker_num #[.agg #[.pointer (some ⟨r, 0, none⟩)], .int .u64 most, .int .i64 err] w K X := by
  refine draft_taker_num_call ?_
  unfold Sh.draft_taker_num
  refine rv_box (c := [.pointer (some ⟨r, 0, none⟩)]) H rfl ?_
  clear H
  intro b w1 H
  (repeat with_reducible (first | refine Red.to ?_ | (refine is_rload ?_; (first | refine rv_load H rfl ?_ | refine rv_load H.up1 rfl ?_ | refine rv_load H.up2 rfl ?_ | refine rv_load H.up3 rfl ?_ | refine rv_load H.up4 rfl ?_))))
  refine RAt_spec H.up1 ?_
  (repeat with_reducible (first | refine Red.to ?_ | (refine is_rload ?_; (first | refine rv_load H rfl ?_ | refine rv_load H.up1 rfl ?_ | refine rv_load H.up2 rfl ?_ | refine rv_load H.up3 rfl ?_ | refine rv_load H.up4 rfl ?_))))
  refine RNum_spec (e := 0) (most := 18446744073709551615) H.up1 ?_
  clear H
  intro w2 H
  replace H := H.drew
  have hb := num_bounds (bs.drop p)
  have hr : rNum 0 bs p 18446744073709551615 = (if (num (bs.drop p)).2.2 ≠ 0 then (0, (num (bs.drop p)).2.2, p) else ((num (bs.drop p)).1, 0, p + (num (bs.drop p)).2.1)) := by
    unfold rNum
    rw [if_neg (by simp)]
    split
    · rfl
    · rw [if_neg (by omega)]
  rw [hr] at H ⊢
  refine ⟨fun w => St W w [cells b 85 [.pointer (some ⟨r, 0, none⟩)]], St.head H.up1, ?_⟩
  (repeat with_reducible (first | refine Red.to ?_ | (refine is_tload ?_; (first | refine tk_load (fun _ H => H) rfl ?_ | refine tk_load (fun _ H => H.up1) rfl ?_ | refine tk_load (fun _ H => H.up2) rfl ?_ | refine tk_load (fun _ H => H.up3) rfl ?_))))
  refine RErr_spec H ?_
  first | refine keep_same (St.head H.up1) ?_ | refine ⟨St.head H.up1, ?_⟩
  refine tp_eql ?_
  refine RErr_spec H ?_
  unfold pN at k kx
  refine must_spec (fun hm => ?_) (fun hm => ?_)
  · have h0 : ¬ (num (bs.drop p)).2.2 ≠ 0 := by
      intro h0
      rw [if_pos h0] at hm
      simp at hm
      exact h0 hm
    rw [if_neg h0] at H ⊢ k kx
    (repeat with_reducible (first | refine Red.to ?_ | (refine is_rload ?_; (first | refine rv_load H rfl ?_ | refine rv_load H.up1 rfl ?_ | refine rv_load H.up2 rfl ?_ | refine rv_load H.up3 rfl ?_ | refine rv_load H.up4 rfl ?_))))
    refine must_spec (fun hm => ?_) (fun hm => ?_)
    · have hm : ¬ most < (num (bs.drop p)).1 := by have := of_decide_eq_true hm; omega
      rw [if_neg hm] at k
      exact k _ _ _ rfl H.up1.drop
    · have hm : most < (num (bs.drop p)).1 := by have := of_decide_eq_false hm; omega
      rw [if_pos hm] at kx
      exact kx _ _ _ rfl H.drop.drop
  · have h0 : (num (bs.drop p)).2.2 ≠ 0 := by
      intro h0
      rw [if_neg (by simp [h0])] at hm
      simp at hm
    rw [if_pos h0] at H ⊢ kx
    exact kx _ _ _ rfl H.drop.drop
theorem int_spec {r p : Nat} {bs : List UInt8} (H : St W w (Rr r 0 bs p :: L))
    (k : ∀ (x : Nat) q w', pI bs p = .ok x q → x < 9223372036854775808 → St W w' (Rr r 0 bs q :: L) → K (.int .i64 x) w') (kx : ∀ e a w', pI bs p = .bad e a → St W w' L → X (wrongE e a) w') :
    FCall Try.prog Fn.draft_taker_int #[.agg #[.pointer (some ⟨r, 0, none⟩)]] w K X := by
  refine draft_taker_int_call ?_
  unfold Sh.draft_taker_int
  refine rv_box (c := [.pointer (some ⟨r, 0, none⟩)]) H rfl ?_
  clear H
  intro b w1 H
  refine rv_loada H rfl rfl ?_
  refine num_spec (err := 12) (most := 9223372036854775807) H.up1 (fun x q w' h H => ?_) (fun e a w' h H => kx e a w' h H.drop)
  have hx := pN_ok h
  (repeat with_reducible (first | refine Red.to ?_ | (refine is_rload ?_; (first | refine rv_load H rfl ?_ | refine rv_load H.up1 rfl ?_ | refine rv_load H.up2 rfl ?_ | refine rv_load H.up3 rfl ?_ | refine rv_load H.up4 rfl ?_))))
  rw [i64_small (by omega) (by omega)]
  exact k x q _ h (by omega) H.up1.drop
theorem any_spec {r p : Nat} {bs : List UInt8} (H : St W w (Rr r 0 bs p :: L))
    (k : ∀ (x : Nat) q w', pA bs p = .ok x q → x < 18446744073709551616 → St W w' (Rr r 0 bs q :: L) → K (.int .u64 x) w') (kx : ∀ e a w', pA bs p = .bad e a → St W w' L → X (wrongE e a) w') :
    FCall Try.prog Fn.draft_taker_any #[.agg #[.pointer (some ⟨r, 0, none⟩)]] w K X := by
  refine draft_taker_any_call ?_
  unfold Sh.draft_taker_any
  refine rv_box (c := [.pointer (some ⟨r, 0, none⟩)]) H rfl ?_
  clear H
  intro b w1 H
  refine rv_loada H rfl rfl ?_
  refine num_spec (err := 0) (most := 18446744073709551615) H.up1 (fun x q w' h H => ?_) (fun e a w' h H => kx e a w' h H.drop)
  have hx := pN_ok h
  exact k x q _ h (by omega) H.up1.drop
theorem many_spec {r p most : Nat} (hm : most ≤ 1000) {bs : List UInt8} (H : St W w (Rr r 0 bs p :: L))
    (k : ∀ (x : Nat) q w', pN bs most 2 p = .ok x q → x ≤ most → St W w' (Rr r 0 bs q :: L) → K (.int .i64 x) w') (kx : ∀ e a w', pN bs most 2 p = .bad e a → St W w' L → X (wrongE e a) w') :
    FCall Try.prog Fn.draft_taker_many #[.agg #[.pointer (some ⟨r, 0, none⟩)], .int .u64 most] w K X := by
  refine draft_taker_many_call ?_
  unfold Sh.draft_taker_many
  refine rv_box (c := [.pointer (some ⟨r, 0, none⟩)]) H rfl ?_
  clear H
  intro b w1 H
  refine rv_loada H rfl rfl ?_
  refine num_spec (err := 2) (most := most) H.up1 (fun x q w' h H => ?_) (fun e a w' h H => kx e a w' h H.drop)
  have hx := pN_ok h
  (repeat with_reducible (first | refine Red.to ?_ | (refine is_rload ?_; (first | refine rv_load H rfl ?_ | refine rv_load H.up1 rfl ?_ | refine rv_load H.up2 rfl ?_ | refine rv_load H.up3 rfl ?_ | refine rv_load H.up4 rfl ?_))))
  rw [i64_small (by omega) (by omega)]
  exact k x q _ h (by omega) H.up1.drop
theorem ttruth_spec {r p : Nat} {bs : List UInt8} (H : St W w (Rr r 0 bs p :: L))
    (k : ∀ (x : Bool) q w', pT bs p = .ok x q → St W w' (Rr r 0 bs q :: L) → K (.bool x) w') (kx : ∀ e a w', pT bs p = .bad e a → St W w' L → X (wrongE e a) w') :
    FCall Try.prog Fn.draft_taker_truth #[.agg #[.pointer (some ⟨r, 0, none⟩)]] w K X := by
  refine draft_taker_truth_call ?_
  unfold Sh.draft_taker_truth
  refine rv_box (c := [.pointer (some ⟨r, 0, none⟩)]) H rfl ?_
  clear H
  intro b w1 H
  (repeat with_reducible (first | refine Red.to ?_ | (refine is_rload ?_; (first | refine rv_load H rfl ?_ | refine rv_load H.up1 rfl ?_ | refine rv_load H.up2 rfl ?_ | refine rv_load H.up3 rfl ?_ | refine rv_load H.up4 rfl ?_))))
  refine RAt_spec H.up1 ?_
  (repeat with_reducible (first | refine Red.to ?_ | (refine is_rload ?_; (first | refine rv_load H rfl ?_ | refine rv_load H.up1 rfl ?_ | refine rv_load H.up2 rfl ?_ | refine rv_load H.up3 rfl ?_ | refine rv_load H.up4 rfl ?_))))
  refine RByte_spec (e := 0) H.up1 ?_
  clear H
  intro w2 H
  replace H := H.drew
  unfold pT at k kx
  cases hx : bs[p]? with
  | none =>
    have hr : rByte 0 bs p = (0, 30, p) := by unfold rByte; rw [if_neg (by simp), hx]
    rw [hr] at H ⊢
    rw [hx] at kx
    refine ⟨fun w => St W w [cells b 85 [.pointer (some ⟨r, 0, none⟩)]], St.head H.up1, ?_⟩
    (repeat with_reducible (first | refine Red.to ?_ | (refine is_tload ?_; (first | refine tk_load (fun _ H => H) rfl ?_ | refine tk_load (fun _ H => H.up1) rfl ?_ | refine tk_load (fun _ H => H.up2) rfl ?_ | refine tk_load (fun _ H => H.up3) rfl ?_))))
    refine RErr_spec H ?_
    first | refine keep_same (St.head H.up1) ?_ | refine ⟨St.head H.up1, ?_⟩
    refine tp_eql ?_
    refine RErr_spec H ?_
    exact must_spec (fun hm => by simp at hm) (fun hm => kx _ _ _ rfl H.drop.drop)
  | some x =>
    have hr : rByte 0 bs p = (x, 0, p + 1) := by unfold rByte; rw [if_neg (by simp), hx]
    rw [hr] at H ⊢
    rw [hx] at k kx
    refine ⟨fun w => St W w [cells b 85 [.pointer (some ⟨r, 0, none⟩)]], St.head H.up1, ?_⟩
    (repeat with_reducible (first | refine Red.to ?_ | (refine is_tload ?_; (first | refine tk_load (fun _ H => H) rfl ?_ | refine tk_load (fun _ H => H.up1) rfl ?_ | refine tk_load (fun _ H => H.up2) rfl ?_ | refine tk_load (fun _ H => H.up3) rfl ?_))))
    refine RErr_spec H ?_
    first | refine keep_same (St.head H.up1) ?_ | refine ⟨St.head H.up1, ?_⟩
    refine tp_eql ?_
    refine RErr_spec H ?_
    refine must_spec (fun hm => ?_) (fun hm => by simp at hm)
    (repeat with_reducible (first | refine Red.to ?_ | (refine is_rload ?_; (first | refine rv_load H rfl ?_ | refine rv_load H.up1 rfl ?_ | refine rv_load H.up2 rfl ?_ | refine rv_load H.up3 rfl ?_ | refine rv_load H.up4 rfl ?_))))
    simp only at k kx
    refine must_spec (fun hm => ?_) (fun hm => ?_)
    · have hm : x.toNat < 2 := by have := of_decide_eq_true hm; simp only at this; omega
      rw [if_pos hm] at k
      (repeat with_reducible (first | refine Red.to ?_ | (refine is_rload ?_; (first | refine rv_load H rfl ?_ | refine rv_load H.up1 rfl ?_ | refine rv_load H.up2 rfl ?_ | refine rv_load H.up3 rfl ?_ | refine rv_load H.up4 rfl ?_))))
      refine bc (k _ _ _ rfl H.up1.drop) ?_
      rw [eq_dec, decide_eq_decide]
      simp only
      omega
    · have hm : ¬ x.toNat < 2 := by have := of_decide_eq_false hm; simp only at this; omega
      rw [if_neg hm] at kx
      exact kx _ _ _ rfl H.drop.drop
theorem tpath_spec {r p : Nat} {bs : List UInt8} (H : St W w (Rr r 0 bs p :: L))
    (k : ∀ (a b c : Nat) q w', pPath bs p = .ok (a, b, c) q → a < 18446744073709551616 ∧ b < 18446744073709551616 ∧ c < 18446744073709551616 → St W w' (Rr r 0 bs q :: L) → K (.agg #[.int .u64 a, .int .u64 b, .int .u64 c]) w') (kx : ∀ e a w', pPath bs p = .bad e a → St W w' L → X (wrongE e a) w') :
    FCall Try.prog Fn.draft_taker_path #[.agg #[.pointer (some ⟨r, 0, none⟩)]] w K X := by
  refine draft_taker_path_call ?_
  unfold Sh.draft_taker_path
  refine rv_box (c := [.pointer (some ⟨r, 0, none⟩)]) H rfl ?_
  clear H
  intro b w1 H
  refine rv_allocz H ?_
  clear H
  intro b2 w2 H
  replace H : St W w2 (Rr r 0 bs p :: cells b2 56 [.int .u64 0, .int .u64 0, .int .u64 0] :: cells b 85 [.pointer (some ⟨r, 0, none⟩)] :: L) := H.up2
  unfold pPath at k kx
  refine rv_loada H.up2 rfl rfl ?_
  refine any_spec H (fun a q w' h ha H => ?_) (fun e a w' h H => kx e a w' (by simp [h, Rs.bind]) H.drop.drop)
  simp only [h, Rs.bind] at k kx
  refine rv_loada H.up2 rfl rfl ?_
  refine any_spec H (fun a2 q w' h ha2 H => ?_) (fun e a w' h H => kx e a w' (by simp [h]) H.drop.drop)
  simp only [h] at k kx
  refine rv_loada H.up2 rfl rfl ?_
  refine any_spec H (fun a3 q w' h ha3 H => ?_) (fun e a w' h H => kx e a w' (by simp [h]) H.drop.drop)
  simp only [h] at k kx
  refine rv (v := .agg #[.int .u64 a, .int .u64 a2, .int .u64 a3]) (w' := w') (by kernel_rfl) ?_
  refine ru_store_whole (c' := [.int .u64 a, .int .u64 a2, .int .u64 a3]) (show _ = some 3 by kernel_rfl) H.up1 rfl (by intro u hu; simp at hu; rcases hu with rfl | rfl | rfl <;> rfl) ?_
  clear H
  intro w3 H
  refine ld_agg H rfl rfl ?_
  exact k _ _ _ _ _ rfl ⟨ha, ha2, ha3⟩ H.drop.up1.drop
theorem tedge_spec {r p : Nat} {bs : List UInt8} (H : St W w (Rr r 0 bs p :: L))
    (k : ∀ (e : EdgeD) q w', pEdge bs p = .ok e q → e.ok → edgeBad e = false → St W w' (Rr r 0 bs q :: L) → K (.agg e.cs.toArray) w') (kx : ∀ e a w', pEdge bs p = .bad e a → St W w' L → X (wrongE e a) w') :
    FCall Try.prog Fn.draft_taker_edge #[.agg #[.pointer (some ⟨r, 0, none⟩)]] w K X := by
  refine draft_taker_edge_call ?_
  unfold Sh.draft_taker_edge
  refine rv_box (c := [.pointer (some ⟨r, 0, none⟩)]) H rfl ?_
  clear H
  intro b w1 H
  refine rv_allocz H ?_
  clear H
  intro b2 w2 H
  replace H : St W w2 (Rr r 0 bs p :: cells b2 65 [.int .i64 0, .int .i64 0, .int .i64 0, .int .i64 0, .bool false] :: cells b 85 [.pointer (some ⟨r, 0, none⟩)] :: L) := H.up2
  unfold pEdge at k kx
  refine rv_loada H.up2 rfl rfl ?_
  refine int_spec H (fun a q w' h ha H => ?_) (fun e a w' h H => kx e a w' (by simp [h, Rs.bind]) H.drop.drop)
  simp only [h, Rs.bind] at k kx
  refine rv_loada H.up2 rfl rfl ?_
  refine int_spec H (fun a2 q w' h ha2 H => ?_) (fun e a w' h H => kx e a w' (by simp [h]) H.drop.drop)
  simp only [h] at k kx
  refine rv_loada H.up2 rfl rfl ?_
  refine int_spec H (fun a3 q w' h ha3 H => ?_) (fun e a w' h H => kx e a w' (by simp [h]) H.drop.drop)
  simp only [h] at k kx
  refine rv_loada H.up2 rfl rfl ?_
  refine int_spec H (fun a4 q w' h ha4 H => ?_) (fun e a w' h H => kx e a w' (by simp [h]) H.drop.drop)
  simp only [h] at k kx
  refine rv_loada H.up2 rfl rfl ?_
  refine ttruth_spec H (fun t q w' h H => ?_) (fun e a w' h H => kx e a w' (by simp [h]) H.drop.drop)
  simp only [h] at k kx
  refine rv (v := .agg (EdgeD.cs ⟨a, a2, a3, a4, t⟩).toArray) (w' := w') (by kernel_rfl) ?_
  refine ru_store_whole (c' := (EdgeD.cs ⟨a, a2, a3, a4, t⟩)) (show _ = some 5 by kernel_rfl) H.up1 rfl (EdgeD.one _) ?_
  clear H
  intro w3 H
  refine ld_agg H (cs := (EdgeD.cs ⟨a, a2, a3, a4, t⟩)) rfl rfl ?_
  refine k _ _ _ rfl ?_ ?_ H.drop.up1.drop
  · unfold EdgeD.ok i64r; simp only; omega
  · unfold edgeBad; simp
end
end Go.Proofs.Ytdmocobabpmoeaa
