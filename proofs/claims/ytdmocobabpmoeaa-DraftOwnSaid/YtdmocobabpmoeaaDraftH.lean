
/-
  Package draft: a node read.
-/
import Derived.Test.YtdmocobabpmoeaaDraftG
namespace Go.Proofs.Ytdmocobabpmoeaa
open Go.Vc Go.Sep Go.Ops
set_option linter.unusedVariables false
set_option linter.unusedSectionVars false
set_option linter.unusedSimpArgs false

def NodeV.er (n : NodeV) : NodeV := { n with cv := .nilIface, kv := .nilIface }
def OpsH (v : Value) (l : List OpD) : HProp := Sl 61 2 v l.length (fl OpD.cs l)
def ConnsH (v : Value) (l : List ConnD) : HProp := Sl 63 5 v l.length (fl ConnD.cs l)
theorem fl_snoc {α : Type} (f : α → List Value) (l : List α) (x : α) : fl f (l ++ [x]) = fl f l ++ f x := by simp [fl]
section
variable {W w : World} {L : List HProp} {K : Value → World → Prop} {KU : World → Prop} {X : XPost}
def Z10 : List Value := [.int .i64 0, .int .i64 0, .int .i64 0, .slice none 0 0, .int .u64 0, .int .u64 0, .int .u64 0, .int .u64 0, .slice none 0 0, .bool false]
theorem pL_len {α : Type} {f : Nat → Rs α} : ∀ {i p : Nat} {l : List α} {q : Nat}, pL f i p = .ok l q → l.length = i
  | 0, p, l, q, h => by simp only [pL] at h; cases h; rfl
  | i + 1, p, l, q, h => by
    rw [pL] at h
    cases h1 : f p with
    | bad e a => rw [h1] at h; cases h
    | ok x r =>
      rw [h1] at h
      simp only [Rs.bind] at h
      cases h2 : pL f i r with
      | bad e a => rw [h2] at h; cases h
      | ok xs s =>
        rw [h2] at h
        simp only at h
        cases h
        have := pL_len h2
        simp [this]
theorem tnode_spec {r p : Nat} {bs : List UInt8} (H : St W w (Rr r 0 bs p :: L))
    (k : ∀ (n : NodeV) q w', pNode bs p = .ok n.er q → St W w' (OpsH n.cv n.code :: ConnsH n.kv n.conns :: Rr r 0 bs q :: L) → K (.agg n.cs.toArray) w') (kx : ∀ e a w', pNode bs p = .bad e a → St W w' L → X (wrongE e a) w') :
    FCall Try.prog Fn.draft_taker_node #[.agg #[.pointer (some ⟨r, 0, none⟩)]] w K X := by
  refine draft_taker_node_call ?_
  unfold Sh.draft_taker_node
  refine rv_box (c := [.pointer (some ⟨r, 0, none⟩)]) H rfl ?_
  clear H
  intro b1 w1 H
  refine rv_allocz H ?_
  clear H
  intro b2 w2 H
  replace H : St W w2 (Rr r 0 bs p :: cells b2 59 Z10 :: cells b1 85 [.pointer (some ⟨r, 0, none⟩)] :: L) := H.up2
  (repeat with_reducible (first | refine Red.to ?_ | (refine is_rload ?_; (first | refine rv_load H rfl ?_ | refine rv_load H.up1 rfl ?_ | refine rv_load H.up2 rfl ?_ | refine rv_load H.up3 rfl ?_ | refine rv_load H.up4 rfl ?_))))
  refine RAt_spec H ?_
  refine rv_loada H.up2 rfl rfl ?_
  refine Go.Proofs.Ytdmocobabpmoeaa.num_spec (most := 8) (err := 20) H (fun x p1 w' h1 H => ?_) (fun e a w' h H => kx e a w' (by unfold pNode; rw [show pN bs 8 20 p = _ from h]; rfl) H.drop.drop)
  have hx8 := (pN_ok h1).1
  have hN : pNode bs p = if x < 1 then .bad 20 p else
    if x = 1 then .ok (nd 1 0 1) p1 else if x = 7 then .ok (nd 7 1 0) p1 else
    if x = 2 ∨ x = 3 then (pN bs 16 2 p1).bind fun c p => (pL (pOp bs) c p).bind fun l p => .ok { nd x 1 1 with code := l } p else
    if x = 5 then (pA bs p1).bind fun bd p => (pPath bs p).bind fun q p => .ok { nd x 1 1 with bd := bd, a := q.1, b := q.2.1, c := q.2.2 } p else
    if x = 8 then (pT bs p1).bind fun st p => (pN bs 16 2 p).bind fun m p => (pL (pConn bs) m p).bind fun l p => (pI bs p).bind fun o p => (pI bs p).bind fun i p => .ok { nd x i o with st := st, conns := l } p else
    if x = 4 then (pI bs p1).bind fun i p => .ok (nd x i 1) p else .ok (nd x 1 1) p1 := by
    unfold pNode; rw [h1]; rfl
  (repeat with_reducible (first | refine Red.to ?_ | (refine is_rload ?_; (first | refine rv_load H rfl ?_ | refine rv_load H.up1 rfl ?_ | refine rv_load H.up2 rfl ?_ | refine rv_load H.up3 rfl ?_ | refine rv_load H.up4 rfl ?_))))
  rw [i64_small (by omega) (by omega)]
  refine rv (v := .agg #[.int .i64 x, .int .i64 1, .int .i64 1, .slice none 0 0, .int .u64 0, .int .u64 0, .int .u64 0, .int .u64 0, .slice none 0 0, .bool false]) (w' := w') (by kernel_rfl) ?_
  refine rv_new (c' := [.int .i64 x, .int .i64 1, .int .i64 1, .slice none 0 0, .int .u64 0, .int .u64 0, .int .u64 0, .int .u64 0, .slice none 0 0, .bool false]) H (by rfl) (by rfl) (by intro u hu; simp at hu; rcases hu with rfl | rfl | rfl | rfl | rfl | rfl | rfl <;> rfl) ?_
  clear H
  intro b4 w4 H
  (repeat with_reducible (first | refine Red.to ?_ | (refine is_rload ?_; (first | refine rv_load H rfl ?_ | refine rv_load H.up1 rfl ?_ | refine rv_load H.up2 rfl ?_ | refine rv_load H.up3 rfl ?_ | refine rv_load H.up4 rfl ?_))))
  refine must_spec (fun hm => ?_) (fun hm => ?_)
  rotate_left
  · have hm := of_decide_eq_false hm
    exact kx 20 p _ (by rw [hN, if_pos (by omega)]) H.drop.drop.drop.drop
  have hm := of_decide_eq_true hm
  rw [if_neg (by omega)] at hN
  replace H : St W w4 (Rr r 0 bs p1 :: cells b4 59 (NodeV.cs ⟨x, 1, 1, [], .slice none 0 0, 0, 0, 0, 0, [], .slice none 0 0, false⟩) :: OpsH (.slice none 0 0) [] :: ConnsH (.slice none 0 0) [] :: cells b2 59 Z10 :: cells b1 85 [.pointer (some ⟨r, 0, none⟩)] :: L) :=
    St.pm (P := [_, _, _, _, _, _]) [3, 2, 0, 1, 4, 5] ((H.sl_nil 63 5).sl_nil 61 2) rfl
  have kx' : ∀ {e a w'} {A B C D E : HProp}, pNode bs p = .bad e a → St W w' (A :: B :: C :: D :: E :: L) → X (wrongE e a) w' := fun h H => kx _ _ _ h H.drop.drop.drop.drop.drop
  -- the end: the node is handed out
  refine share_of (fun vs w => vs = [] ∧ ∃ (n : NodeV) (q : Nat), pNode bs p = .ok n.er q ∧ St W w (Rr r 0 bs q :: cells b4 59 n.cs :: OpsH n.cv n.code :: ConnsH n.kv n.conns :: cells b2 59 Z10 :: cells b1 85 [.pointer (some ⟨r, 0, none⟩)] :: L)) ?_ ?_
  · clear H
    rintro vs w ⟨rfl, n, q, hn, H⟩ σ
    refine rv_loada H.up1 (cs := n.cs) rfl rfl ?_
    have h1 : ∀ u ∈ n.cs, u.oneCell' = true := by
      have o1 := sl_one H.up2
      have o2 := sl_one H.up3
      intro u hu
      simp only [NodeV.cs, List.mem_cons, List.not_mem_nil, or_false] at hu
      rcases hu with rfl | rfl | rfl | rfl | rfl | rfl | rfl | rfl | rfl | rfl
      case inr.inr.inr.inl => exact o1
      case inr.inr.inr.inr.inr.inr.inr.inr.inl => exact o2
      all_goals rfl
    refine ru_store_whole (c' := n.cs) (show _ = some 10 by kernel_rfl) H.up4 rfl h1 ?_
    clear H
    intro w5 H
    refine ld_agg H (cs := n.cs) rfl rfl ?_
    refine k n q _ hn ?_
    have H : St W w5 (OpsH n.cv n.code :: ConnsH n.kv n.conns :: Rr r 0 bs q :: cells b2 59 n.cs :: cells b4 59 n.cs :: cells b1 85 [.pointer (some ⟨r, 0, none⟩)] :: L) := St.pm (P := [_, _, _, _, _, _]) [3, 4, 1, 0, 2, 5] H rfl
    exact St.dropL (A := [_, _, _]) (St.pm (P := [_, _, _, _, _, _]) [3, 4, 5, 0, 1, 2] H rfl)
  intro J hJ
  simp only [NodeV.cs] at H
  (repeat with_reducible (first | refine Red.to ?_ | (refine is_rload ?_; (first | refine rv_load H rfl ?_ | refine rv_load H.up1 rfl ?_ | refine rv_load H.up2 rfl ?_ | refine rv_load H.up3 rfl ?_ | refine rv_load H.up4 rfl ?_))))
  -- the in-ports, read
  refine share_of (fun vs w => vs = [] ∧ ∃ (n : NodeV) (q : Nat), (∀ i q', pI bs q = .ok i q' → pNode bs p = .ok { n with ins := i }.er q') ∧ (∀ e a, pI bs q = .bad e a → pNode bs p = .bad e a) ∧ St W w (Rr r 0 bs q :: cells b4 59 n.cs :: OpsH n.cv n.code :: ConnsH n.kv n.conns :: cells b2 59 Z10 :: cells b1 85 [.pointer (some ⟨r, 0, none⟩)] :: L)) ?_ ?_
  · clear H
    rintro vs w ⟨rfl, n, q, hn, hbad, H⟩ σ
    refine rv_loada H.up5 rfl rfl ?_
    refine int_spec H (fun i q' w' h hi H => ?_) (fun e a w' h H => kx' (hbad e a h) H)
    simp only [NodeV.cs] at H
    (repeat with_reducible (first | refine Red.to ?_ | (refine is_rload ?_; (first | refine rv_load H rfl ?_ | refine rv_load H.up1 rfl ?_ | refine rv_load H.up2 rfl ?_ | refine rv_load H.up3 rfl ?_ | refine rv_load H.up4 rfl ?_))))
    refine ru_store H.up1 (by simp) rfl ?_
    clear H
    intro w5 H
    exact hJ _ _ ⟨rfl, { n with ins := i }, q', hn i q' h, H.up1⟩
  intro J2 hJ2
  -- the code
  refine share_of (fun vs w => vs = [] ∧ (x = 2 ∨ x = 3) ∧ St W w (Rr r 0 bs p1 :: cells b4 59 (NodeV.cs ⟨x, 1, 1, [], .slice none 0 0, 0, 0, 0, 0, [], .slice none 0 0, false⟩) :: OpsH (.slice none 0 0) [] :: ConnsH (.slice none 0 0) [] :: cells b2 59 Z10 :: cells b1 85 [.pointer (some ⟨r, 0, none⟩)] :: L)) ?_ ?_
  · clear H
    rintro vs w ⟨rfl, hx23, H⟩ σ
    rw [if_neg (by omega), if_neg (by omega), if_pos hx23] at hN
    refine rv_loada H.up5 rfl rfl ?_
    refine many_spec (most := 16) (by omega) H (fun c p2 w' h2 hc H => ?_) (fun e a w' h H => kx' (by rw [hN, h]; rfl) H)
    simp only [h2, Rs.bind] at hN
    refine loop_of (fun vs w => ∃ (i : Nat) (l : List OpD) (cv : Value) (q : Nat), vs = [.int .i64 i] ∧ i ≤ c ∧ pL (pOp bs) i p2 = .ok l q ∧ St W w (Rr r 0 bs q :: cells b4 59 (NodeV.cs ⟨x, 1, 1, l, cv, 0, 0, 0, 0, [], .slice none 0 0, false⟩) :: OpsH cv l :: ConnsH (.slice none 0 0) [] :: cells b2 59 Z10 :: cells b1 85 [.pointer (some ⟨r, 0, none⟩)] :: L))
      (fun vs _ => match vs with | [.int _ i] => c - i.toNat | _ => 0) ⟨0, [], _, p2, rfl, by omega, rfl, H⟩ ?_
    clear H
    rintro vs w kk ⟨i, l, cv, q, rfl, hi, hl, H⟩ hkk σ
    simp only [List.getD_cons_zero, List.getD_cons_succ]
    (repeat with_reducible (first | refine Red.to ?_ | (refine is_rload ?_; (first | refine rv_load H rfl ?_ | refine rv_load H.up1 rfl ?_ | refine rv_load H.up2 rfl ?_ | refine rv_load H.up3 rfl ?_ | refine rv_load H.up4 rfl ?_))))
    refine cond_split (fun h => ?_) (fun h => ?_)
    · have h : i < c := by have := of_decide_eq_true h; omega
      have hbad : ∀ {e a}, pL (pOp bs) (i + 1) p2 = .bad e a → pNode bs p = .bad e a := fun hh => by rw [hN, pL_bad hh (by omega)]
      rw [pL_snoc, hl] at hbad
      have hs := pL_snoc (pOp bs) i p2
      rw [hl] at hs
      simp only [Rs.bind, pOp] at hs hbad
      refine rv_loada H.up5 rfl rfl ?_
      refine int_spec H (fun kd q1 w' h3 hkd H => ?_) (fun e a w' h H => kx' (hbad (by simp [h])) H)
      simp only [h3] at hs hbad
      replace H := H.drew
      have H0 := H.up1
      simp only [NodeV.cs] at H0
      refine ⟨fun w => St W w [cells b4 59 (NodeV.cs ⟨x, 1, 1, l, cv, 0, 0, 0, 0, [], .slice none 0 0, false⟩)], St.head H.up1, ?_⟩
      simp only [NodeV.cs]
      (repeat with_reducible (first | refine Red.to ?_ | (refine is_tload ?_; (first | refine tk_load (fun _ H => H) rfl ?_ | refine tk_load (fun _ H => H.up1) rfl ?_ | refine tk_load (fun _ H => H.up2) rfl ?_ | refine tk_load (fun _ H => H.up3) rfl ?_))))
      refine rv_loada H.up5 rfl rfl ?_
      first | refine keep_same (St.head H0) ?_ | refine ⟨St.head H0, ?_⟩
      refine any_spec H (fun ar q2 w' h4 har H => ?_) (fun e a w' h H => kx' (hbad (by simp [h])) H)
      simp only [h4] at hs hbad
      first | refine keep_same (St.head H.up1) ?_ | refine ⟨St.head H.up1, ?_⟩
      refine tp (v := .agg #[.int .i64 kd, .int .u64 ar]) (fun _ => by kernel_rfl) ?_
      clear H0
      refine rv_build1 H rfl (by simp [Value.cells]) ?_
      clear H
      intro g w5 H
      first | refine keep_same (St.head H.up2) ?_ | refine ⟨St.head H.up2, ?_⟩
      have hll := pL_len hl
      refine rv_append_cells (n := l.length) (m := 1) (xs := fl OpD.cs l) (news := [.int .i64 kd, .int .u64 ar]) (St.pm (P := [_, _, _, _]) [0, 3, 1, 2] H rfl) rfl (by intro u hu; simp at hu; rcases hu with rfl | rfl <;> rfl) (by unfold maxLen; omega) (by omega) ?_
      clear H
      intro cv' w6 H _
      have hone := sl_one H
      (repeat with_reducible (first | refine Red.to ?_ | (refine is_tload ?_; (first | refine tk_load (fun _ H => H) rfl ?_ | refine tk_load (fun _ H => H.up1) rfl ?_ | refine tk_load (fun _ H => H.up2) rfl ?_ | refine tk_load (fun _ H => H.up3) rfl ?_))))
      refine ru_store H.up2 (by simp [NodeV.cs]) hone ?_
      clear H
      intro w7 H
      (repeat with_reducible (first | refine Red.to ?_ | (refine is_rload ?_; (first | refine rv_load H rfl ?_ | refine rv_load H.up1 rfl ?_ | refine rv_load H.up2 rfl ?_ | refine rv_load H.up3 rfl ?_ | refine rv_load H.up4 rfl ?_))))
      rw [i64_small (by omega) (by omega)]
      refine hkk _ _ ⟨i + 1, l ++ [⟨kd, ar⟩], cv', q2, rfl, by omega, hs, ?_⟩ (by simp; omega)
      have e : fl OpD.cs l ++ [.int .i64 kd, .int .u64 ar] = fl OpD.cs (l ++ [⟨kd, ar⟩]) := by rw [fl_snoc]; rfl
      rw [e] at H
      have H : St W w7 (Rr r 0 bs q2 :: cells b4 59 (NodeV.cs ⟨x, 1, 1, l ++ [⟨kd, ar⟩], cv', 0, 0, 0, 0, [], .slice none 0 0, false⟩) :: Sl 61 2 cv' (l.length + 1) (fl OpD.cs (l ++ [⟨kd, ar⟩])) :: _) := St.pm (P := [_, _, _]) [2, 0, 1] H rfl
      simpa [OpsH] using H
    · have h : i = c := by have := of_decide_eq_false h; omega
      subst h
      rw [hl] at hN
      exact hJ _ _ ⟨rfl, ⟨x, 1, 1, l, cv, 0, 0, 0, 0, [], .slice none 0 0, false⟩, q, hN, H⟩
  intro J3 hJ3
  (repeat with_reducible (first | refine Red.to ?_ | (refine is_rload ?_; (first | refine rv_load H rfl ?_ | refine rv_load H.up1 rfl ?_ | refine rv_load H.up2 rfl ?_ | refine rv_load H.up3 rfl ?_ | refine rv_load H.up4 rfl ?_))))
  refine cond_split (fun h => ?_) (fun h => ?_)
  · have h : x = 1 := by have := eq_of_beq h; omega
    subst h
    rw [if_pos rfl] at hN
    (repeat with_reducible (first | refine Red.to ?_ | (refine is_rload ?_; (first | refine rv_load H rfl ?_ | refine rv_load H.up1 rfl ?_ | refine rv_load H.up2 rfl ?_ | refine rv_load H.up3 rfl ?_ | refine rv_load H.up4 rfl ?_))))
    refine ru_store H.up1 (by simp) rfl ?_
    clear H
    intro w5 H
    exact hJ _ _ ⟨rfl, ⟨1, 0, 1, [], .slice none 0 0, 0, 0, 0, 0, [], .slice none 0 0, false⟩, p1, hN, H.up1⟩
  have hx1 : x ≠ 1 := by rintro rfl; simp at h
  rw [if_neg hx1] at hN
  (repeat with_reducible (first | refine Red.to ?_ | (refine is_rload ?_; (first | refine rv_load H rfl ?_ | refine rv_load H.up1 rfl ?_ | refine rv_load H.up2 rfl ?_ | refine rv_load H.up3 rfl ?_ | refine rv_load H.up4 rfl ?_))))
  refine cond_split (fun h => ?_) (fun h => ?_)
  · have h : x = 7 := by have := eq_of_beq h; omega
    subst h
    rw [if_pos rfl] at hN
    (repeat with_reducible (first | refine Red.to ?_ | (refine is_rload ?_; (first | refine rv_load H rfl ?_ | refine rv_load H.up1 rfl ?_ | refine rv_load H.up2 rfl ?_ | refine rv_load H.up3 rfl ?_ | refine rv_load H.up4 rfl ?_))))
    refine ru_store H.up1 (by simp) rfl ?_
    clear H
    intro w5 H
    exact hJ _ _ ⟨rfl, ⟨7, 1, 0, [], .slice none 0 0, 0, 0, 0, 0, [], .slice none 0 0, false⟩, p1, hN, H.up1⟩
  have hx7 : x ≠ 7 := by rintro rfl; simp at h
  rw [if_neg hx7] at hN
  refine share_of (fun vs w => vs = [] ∧ ¬ (x = 2 ∨ x = 3) ∧ St W w (Rr r 0 bs p1 :: cells b4 59 (NodeV.cs ⟨x, 1, 1, [], .slice none 0 0, 0, 0, 0, 0, [], .slice none 0 0, false⟩) :: OpsH (.slice none 0 0) [] :: ConnsH (.slice none 0 0) [] :: cells b2 59 Z10 :: cells b1 85 [.pointer (some ⟨r, 0, none⟩)] :: L)) ?_ ?_
  · clear H
    rintro vs w ⟨rfl, hx23, H⟩ σ
    rw [if_neg hx23] at hN
    (repeat with_reducible (first | refine Red.to ?_ | (refine is_rload ?_; (first | refine rv_load H rfl ?_ | refine rv_load H.up1 rfl ?_ | refine rv_load H.up2 rfl ?_ | refine rv_load H.up3 rfl ?_ | refine rv_load H.up4 rfl ?_))))
    refine cond_split (fun h => ?_) (fun h => ?_)
    · have h : x = 5 := by have := eq_of_beq h; omega
      rw [if_pos h] at hN
      refine rv_loada H.up5 rfl rfl ?_
      refine any_spec H (fun bd q1 w' h3 hbd H => ?_) (fun e a w' h H => kx' (by rw [hN, h]; rfl) H)
      simp only [h3, Rs.bind] at hN
      simp only [NodeV.cs] at H
      (repeat with_reducible (first | refine Red.to ?_ | (refine is_rload ?_; (first | refine rv_load H rfl ?_ | refine rv_load H.up1 rfl ?_ | refine rv_load H.up2 rfl ?_ | refine rv_load H.up3 rfl ?_ | refine rv_load H.up4 rfl ?_))))
      refine ru_store H.up1 (by simp) rfl ?_
      clear H
      intro w5 H
      replace H := H.up1
      refine rv_loada H.up5 rfl rfl ?_
      refine tpath_spec H (fun a b c q2 w' h4 habc H => ?_) (fun e a w' h H => kx' (by rw [hN, h]) H)
      simp only [h4] at hN
      (repeat with_reducible (first | refine Red.to ?_ | (refine is_rload ?_; (first | refine rv_load H rfl ?_ | refine rv_load H.up1 rfl ?_ | refine rv_load H.up2 rfl ?_ | refine rv_load H.up3 rfl ?_ | refine rv_load H.up4 rfl ?_))))
      refine ru_store_agg (c' := [.int .u64 a, .int .u64 b, .int .u64 c]) (show _ = some 3 by kernel_rfl) H.up1 (by simp) (by intro u hu; simp at hu; rcases hu with rfl | rfl | rfl <;> rfl) ?_
      clear H
      intro w6 H
      exact hJ _ _ ⟨rfl, ⟨x, 1, 1, [], .slice none 0 0, a, b, c, bd, [], .slice none 0 0, false⟩, q2, hN, H.up1⟩
    have hx5 : x ≠ 5 := by rintro rfl; simp at h
    rw [if_neg hx5] at hN
    (repeat with_reducible (first | refine Red.to ?_ | (refine is_rload ?_; (first | refine rv_load H rfl ?_ | refine rv_load H.up1 rfl ?_ | refine rv_load H.up2 rfl ?_ | refine rv_load H.up3 rfl ?_ | refine rv_load H.up4 rfl ?_))))
    refine cond_split (fun h => ?_) (fun h => ?_)
    · have h : x = 8 := by have := eq_of_beq h; omega
      rw [if_pos h] at hN
      refine rv_loada H.up5 rfl rfl ?_
      refine ttruth_spec H (fun st q1 w' h3 H => ?_) (fun e a w' h H => kx' (by rw [hN, h]; rfl) H)
      simp only [h3, Rs.bind] at hN
      simp only [NodeV.cs] at H
      (repeat with_reducible (first | refine Red.to ?_ | (refine is_rload ?_; (first | refine rv_load H rfl ?_ | refine rv_load H.up1 rfl ?_ | refine rv_load H.up2 rfl ?_ | refine rv_load H.up3 rfl ?_ | refine rv_load H.up4 rfl ?_))))
      refine ru_store H.up1 (by simp) rfl ?_
      clear H
      intro w5 H
      replace H : St W w5 (Rr r 0 bs q1 :: cells b4 59 (NodeV.cs ⟨x, 1, 1, [], .slice none 0 0, 0, 0, 0, 0, [], .slice none 0 0, st⟩) :: OpsH (.slice none 0 0) [] :: ConnsH (.slice none 0 0) [] :: cells b2 59 Z10 :: cells b1 85 [.pointer (some ⟨r, 0, none⟩)] :: L) := H.up1
      -- the out-ports, read
      refine share_of (fun vs w => vs = [] ∧ ∃ (l : List ConnD) (kv : Value) (q : Nat), pNode bs p = ((pI bs q).bind fun o p => (pI bs p).bind fun i p => .ok { nd x i o with st := st, conns := l } p) ∧ St W w (Rr r 0 bs q :: cells b4 59 (NodeV.cs ⟨x, 1, 1, [], .slice none 0 0, 0, 0, 0, 0, l, kv, st⟩) :: OpsH (.slice none 0 0) [] :: ConnsH kv l :: cells b2 59 Z10 :: cells b1 85 [.pointer (some ⟨r, 0, none⟩)] :: L)) ?_ ?_
      · clear H
        rintro vs w ⟨rfl, l, kv, q, hN, H⟩ σ
        refine rv_loada H.up5 rfl rfl ?_
        refine int_spec H (fun o q2 w' h4 ho H => ?_) (fun e a w' h H => kx' (by rw [hN, h]; rfl) H)
        simp only [h4, Rs.bind] at hN
        simp only [NodeV.cs] at H
        (repeat with_reducible (first | refine Red.to ?_ | (refine is_rload ?_; (first | refine rv_load H rfl ?_ | refine rv_load H.up1 rfl ?_ | refine rv_load H.up2 rfl ?_ | refine rv_load H.up3 rfl ?_ | refine rv_load H.up4 rfl ?_))))
        refine ru_store H.up1 (by simp) rfl ?_
        clear H
        intro w6 H
        refine hJ2 _ _ ⟨rfl, ⟨x, 1, o, [], .slice none 0 0, 0, 0, 0, 0, l, kv, st⟩, q2, ?_, ?_, H.up1⟩
        · intro i q' h
          rw [hN, h]
          rfl
        · intro e a h
          rw [hN, h]
      intro J4 hJ4
      refine rv_loada H.up5 rfl rfl ?_
      refine many_spec (most := 16) (by omega) H (fun c p2 w' h2 hc H => ?_) (fun e a w' h H => kx' (by rw [hN, h]) H)
      simp only [h2] at hN
      refine loop_of (fun vs w => ∃ (i : Nat) (l : List ConnD) (kv : Value) (q : Nat), vs = [.int .i64 i] ∧ i ≤ c ∧ pL (pConn bs) i p2 = .ok l q ∧ St W w (Rr r 0 bs q :: cells b4 59 (NodeV.cs ⟨x, 1, 1, [], .slice none 0 0, 0, 0, 0, 0, l, kv, st⟩) :: OpsH (.slice none 0 0) [] :: ConnsH kv l :: cells b2 59 Z10 :: cells b1 85 [.pointer (some ⟨r, 0, none⟩)] :: L))
        (fun vs _ => match vs with | [.int _ i] => c - i.toNat | _ => 0) ⟨0, [], _, p2, rfl, by omega, rfl, H⟩ ?_
      clear H
      rintro vs w kk ⟨i, l, kv, q, rfl, hi, hl, H⟩ hkk σ
      simp only [List.getD_cons_zero, List.getD_cons_succ]
      (repeat with_reducible (first | refine Red.to ?_ | (refine is_rload ?_; (first | refine rv_load H rfl ?_ | refine rv_load H.up1 rfl ?_ | refine rv_load H.up2 rfl ?_ | refine rv_load H.up3 rfl ?_ | refine rv_load H.up4 rfl ?_))))
      refine cond_split (fun h => ?_) (fun h => ?_)
      · have h : i < c := by have := of_decide_eq_true h; omega
        have hbad : ∀ {e a}, pL (pConn bs) (i + 1) p2 = .bad e a → pNode bs p = .bad e a := fun hh => by rw [hN, pL_bad hh (by omega)]
        rw [pL_snoc, hl] at hbad
        have hs := pL_snoc (pConn bs) i p2
        rw [hl] at hs
        simp only [Rs.bind, pConn] at hs hbad
        refine rv_loada H.up5 rfl rfl ?_
        refine int_spec H (fun ci q1 w' h3 hkd H => ?_) (fun e a w' h H => kx' (hbad (by simp [h])) H)
        simp only [h3] at hs hbad
        refine rv_loada H.up5 rfl rfl ?_
        refine int_spec H (fun co q2 w' h4 hkd2 H => ?_) (fun e a w' h H => kx' (hbad (by simp [h])) H)
        simp only [h4] at hs hbad
        replace H := H.drew
        have H0 := H.up1
        simp only [NodeV.cs] at H0
        refine ⟨fun w => St W w [cells b4 59 (NodeV.cs ⟨x, 1, 1, [], .slice none 0 0, 0, 0, 0, 0, l, kv, st⟩)], St.head H.up1, ?_⟩
        simp only [NodeV.cs]
        (repeat with_reducible (first | refine Red.to ?_ | (refine is_tload ?_; (first | refine tk_load (fun _ H => H) rfl ?_ | refine tk_load (fun _ H => H.up1) rfl ?_ | refine tk_load (fun _ H => H.up2) rfl ?_ | refine tk_load (fun _ H => H.up3) rfl ?_))))
        refine rv_loada H.up5 rfl rfl ?_
        first | refine keep_same (St.head H0) ?_ | refine ⟨St.head H0, ?_⟩
        refine tpath_spec H (fun a b c q3 w' h5 habc H => ?_) (fun e a w' h H => kx' (hbad (by simp [h])) H)
        simp only [h5] at hs hbad
        first | refine keep_same (St.head H.up1) ?_ | refine ⟨St.head H.up1, ?_⟩
        refine tp (v := .agg #[.int .i64 ci, .int .i64 co, .int .u64 a, .int .u64 b, .int .u64 c]) (fun _ => by kernel_rfl) ?_
        clear H0
        refine rv_build1 H rfl (by simp [Value.cells]) ?_
        clear H
        intro g w5 H
        first | refine keep_same (St.head H.up2) ?_ | refine ⟨St.head H.up2, ?_⟩
        have hll := pL_len hl
        refine rv_append_cells (n := l.length) (m := 1) (xs := fl ConnD.cs l) (news := ConnD.cs ⟨ci, co, a, b, c⟩) (St.pm (P := [_, _, _, _, _]) [0, 4, 1, 2, 3] H rfl) rfl (ConnD.one _) (by unfold maxLen; omega) (by omega) ?_
        clear H
        intro kv' w6 H _
        have hone := sl_one H
        (repeat with_reducible (first | refine Red.to ?_ | (refine is_tload ?_; (first | refine tk_load (fun _ H => H) rfl ?_ | refine tk_load (fun _ H => H.up1) rfl ?_ | refine tk_load (fun _ H => H.up2) rfl ?_ | refine tk_load (fun _ H => H.up3) rfl ?_))))
        refine ru_store H.up2 (by simp [NodeV.cs]) hone ?_
        clear H
        intro w7 H
        (repeat with_reducible (first | refine Red.to ?_ | (refine is_rload ?_; (first | refine rv_load H rfl ?_ | refine rv_load H.up1 rfl ?_ | refine rv_load H.up2 rfl ?_ | refine rv_load H.up3 rfl ?_ | refine rv_load H.up4 rfl ?_))))
        rw [i64_small (by omega) (by omega)]
        refine hkk _ _ ⟨i + 1, l ++ [⟨ci, co, a, b, c⟩], kv', q3, rfl, by omega, hs, ?_⟩ (by simp; omega)
        rw [← fl_snoc] at H
        have H : St W w7 (Rr r 0 bs q3 :: cells b4 59 (NodeV.cs ⟨x, 1, 1, [], .slice none 0 0, 0, 0, 0, 0, l ++ [⟨ci, co, a, b, c⟩], kv', st⟩) :: OpsH (.slice none 0 0) [] :: Sl 63 5 kv' (l.length + 1) (fl ConnD.cs (l ++ [⟨ci, co, a, b, c⟩])) :: _) := St.pm (P := [_, _, _, _]) [2, 0, 3, 1] H rfl
        simpa [ConnsH] using H
      · have h : i = c := by have := of_decide_eq_false h; omega
        subst h
        rw [hl] at hN
        exact hJ4 _ _ ⟨rfl, l, kv, q, hN, H⟩
    have hx8' : x ≠ 8 := by rintro rfl; simp at h
    rw [if_neg hx8'] at hN
    (repeat with_reducible (first | refine Red.to ?_ | (refine is_rload ?_; (first | refine rv_load H rfl ?_ | refine rv_load H.up1 rfl ?_ | refine rv_load H.up2 rfl ?_ | refine rv_load H.up3 rfl ?_ | refine rv_load H.up4 rfl ?_))))
    refine cond_split (fun h => ?_) (fun h => ?_)
    · have h : x = 4 := by have := eq_of_beq h; omega
      rw [if_pos h] at hN
      refine hJ2 _ _ ⟨rfl, ⟨x, 1, 1, [], .slice none 0 0, 0, 0, 0, 0, [], .slice none 0 0, false⟩, p1, ?_, ?_, H⟩
      · intro i q' h
        rw [hN, h]
        rfl
      · intro e a h
        rw [hN, h]
        rfl
    · have hx4 : x ≠ 4 := by rintro rfl; simp at h
      rw [if_neg hx4] at hN
      exact hJ _ _ ⟨rfl, ⟨x, 1, 1, [], .slice none 0 0, 0, 0, 0, 0, [], .slice none 0 0, false⟩, p1, hN, H⟩
  intro J4 hJ4
  (repeat with_reducible (first | refine Red.to ?_ | (refine is_rload ?_; (first | refine rv_load H rfl ?_ | refine rv_load H.up1 rfl ?_ | refine rv_load H.up2 rfl ?_ | refine rv_load H.up3 rfl ?_ | refine rv_load H.up4 rfl ?_))))
  refine cond_split (fun h => ?_) (fun h => ?_)
  · have h2 : x = 2 := by have := eq_of_beq h; omega
    rw [h]
    refine cond_true' ?_
    exact hJ3 _ _ ⟨rfl, .inl h2, H⟩
  have h2 : x ≠ 2 := by rintro rfl; simp at h
  (repeat with_reducible (first | refine Red.to ?_ | (refine is_rload ?_; (first | refine rv_load H rfl ?_ | refine rv_load H.up1 rfl ?_ | refine rv_load H.up2 rfl ?_ | refine rv_load H.up3 rfl ?_ | refine rv_load H.up4 rfl ?_))))
  refine cond_split (fun h => ?_) (fun h => ?_)
  · have h3 : x = 3 := by have := eq_of_beq h; omega
    exact hJ3 _ _ ⟨rfl, .inr h3, H⟩
  · have h3 : x ≠ 3 := by rintro rfl; simp at h
    exact hJ4 _ _ ⟨rfl, by omega, H⟩
end
end Go.Proofs.Ytdmocobabpmoeaa
