
/-
  The document's own reader: a node.
-/
import Derived.Test.YtdmocobabpmoeaaDraftAA
namespace Go.Proofs.Ytdmocobabpmoeaa
open Go.Vc Go.Sep Go.Ops
set_option linter.unusedVariables false
set_option linter.unusedSectionVars false
set_option linter.unusedSimpArgs false

section
variable {W w : World} {L : List HProp} {K : Value → World → Prop} {KU : World → Prop} {X : XPost}
theorem Kn0.up {v : Value} {n : Nat} {cs : List Value} {A : List HProp} (h : Kn0 W L v n cs) : Kn0 W (A ++ L) v n cs := fun w H => h w (St.dropL H)
/-- how the document's reader ends -/
theorem Fr.err {f : Nat} {v : Value} {bs : List UInt8} {s : Rs Unit} (H : St W w (Fr f v bs s :: L)) : ∃ (at_ e a : Int), ((e = 0 ∧ ∃ p, s = .ok () p ∧ at_ = (p : Nat) ∧ p ≤ bs.length) ∨ (e ≠ 0 ∧ ∃ e' a' : Nat, s = .bad e' a' ∧ e = (e' : Nat) ∧ a = (a' : Nat))) ∧ St W w (cells f 93 [v, .int .i64 at_, .int .i64 e, .int .i64 a] :: L) := by
  cases s with
  | ok u p =>
    obtain ⟨hp, H⟩ := Fr.o H
    exact ⟨_, _, _, .inl ⟨rfl, p, rfl, rfl, hp⟩, H⟩
  | bad e a =>
    obtain ⟨he, at_, H⟩ := Fr.ob H
    exact ⟨_, _, _, .inr ⟨by omega, e, a, rfl, rfl, rfl⟩, H⟩
theorem Fr.back {f : Nat} {v : Value} {bs : List UInt8} {s : Rs Unit} {at_ e a : Int} (h : (e = 0 ∧ ∃ p, s = .ok () p ∧ at_ = (p : Nat) ∧ p ≤ bs.length) ∨ (e ≠ 0 ∧ ∃ e' a' : Nat, s = .bad e' a' ∧ e = (e' : Nat) ∧ a = (a' : Nat))) (ha : e = 0 → a = 0) (H : St W w (cells f 93 [v, .int .i64 at_, .int .i64 e, .int .i64 a] :: L)) : St W w (Fr f v bs s :: L) := by
  rcases h with ⟨h1, p, rfl, rfl, hp⟩ | ⟨h1, e', a', rfl, rfl, rfl⟩
  · have := ha h1
    subst h1 this
    exact Fr.m hp H
  · exact Fr.mb (by omega) H
/-- whether it goes on -/
theorem Fr.go {f : Nat} {v : Value} {bs : List UInt8} {s : Rs Unit} {X0 X1 : XPost} (H : St W w (Fr f v bs s :: L)) (h1 : ∀ p, s = .ok () p → K (.bool true) w) (h2 : ∀ e a, s = .bad e a → K (.bool false) w) :
    RunV Try.prog (nilc (.pointer (some ⟨f, 0, none⟩))) w (fun a w => RunV Try.prog (Instr.fieldAt 93 a 2) w (fun b w => RunV Try.prog (Instr.loadAt 3 b) w (fun c w => RunV Try.prog (bin BinOp.eql 3 false true c (.int .i64 0)) w K X) X1) X0) X := by
  cases s with
  | ok u p =>
    obtain ⟨hp, H⟩ := Fr.o H
    (repeat (first | (with_reducible (first | refine Red.to ?_ | (refine is_rload ?_; (first | refine rv_load H rfl ?_ | refine rv_load H.up1 rfl ?_ | refine rv_load H.up2 rfl ?_ | refine rv_load H.up3 rfl ?_ | refine rv_load H.up4 rfl ?_)) | (refine is_tload ?_; (first | refine tk_load (fun _ H => H) rfl ?_ | refine tk_load (fun _ H => H.up1) rfl ?_ | refine tk_load (fun _ H => H.up2) rfl ?_ | refine tk_load (fun _ H => H.up3) rfl ?_)))) | (refine Share.mk ?_) | (intro _) | (simp only [List.getD_cons_zero, List.getD_cons_succ, beq_self_eq_true])))
    exact h1 p rfl
  | bad e a =>
    obtain ⟨he, at_, H⟩ := Fr.ob H
    have he' : (((e : Nat) : Int) == 0) = false := by simp; omega
    (repeat (first | (with_reducible (first | refine Red.to ?_ | (refine is_rload ?_; (first | refine rv_load H rfl ?_ | refine rv_load H.up1 rfl ?_ | refine rv_load H.up2 rfl ?_ | refine rv_load H.up3 rfl ?_ | refine rv_load H.up4 rfl ?_)) | (refine is_tload ?_; (first | refine tk_load (fun _ H => H) rfl ?_ | refine tk_load (fun _ H => H.up1) rfl ?_ | refine tk_load (fun _ H => H.up2) rfl ?_ | refine tk_load (fun _ H => H.up3) rfl ?_)))) | (refine Share.mk ?_) | (intro _) | (simp only [List.getD_cons_zero, List.getD_cons_succ, he'])))
    exact h2 e a rfl
theorem fnode_spec {f p : Nat} {v : Value} {bs : List UInt8} (R : Kn0 W L v bs.length (bv bs)) (hl : bs.length ≤ 140737488351232) (H : St W w (Fr f v bs (.ok () p) :: L))
    (k : ∀ (n : NodeV) w', (∀ m q, pNode bs p = .ok m q → n.er = m) → St W w' (OpsH n.cv n.code :: ConnsH n.kv n.conns :: Fr f v bs (pNode bs p).st :: L) → K (.agg n.cs.toArray) w') : FCall Try.prog Fn.sluiceref08_Front_node #[.pointer (some ⟨f, 0, none⟩)] w K X := by
  refine sluiceref08_Front_node_call ?_
  unfold Sh.sluiceref08_Front_node
  refine rv_allocz H ?_
  clear H
  intro b2 w1 H
  obtain ⟨hp, H0⟩ := Fr.o H.up1
  (repeat (first | (with_reducible (first | refine Red.to ?_ | (refine is_rload ?_; (first | refine rv_load H rfl ?_ | refine rv_load H.up1 rfl ?_ | refine rv_load H.up2 rfl ?_ | refine rv_load H.up3 rfl ?_ | refine rv_load H.up4 rfl ?_)) | (refine is_tload ?_; (first | refine tk_load (fun _ H => H) rfl ?_ | refine tk_load (fun _ H => H.up1) rfl ?_ | refine tk_load (fun _ H => H.up2) rfl ?_ | refine tk_load (fun _ H => H.up3) rfl ?_)))) | (refine Share.mk ?_) | (intro _) | (simp only [List.getD_cons_zero, List.getD_cons_succ])))
  refine rv_load H0 rfl ?_
  clear H0
  refine fany_spec R.tail0 hl H.up1 ?_
  clear H
  intro w2 H
  rw [go_ok] at H ⊢
  generalize hx : (pA bs p).val 0 = x
  obtain ⟨k1, k2, k3⟩ := kind_rel hx.symm
  have hxl : x < 18446744073709551616 := by
    have := (val_lt (bs := bs) (s := .ok () p) (most := 18446744073709551615) (over := 12)).2
    rw [pA_12, go_ok, hx] at this
    exact this
  refine share_of (fun vs w => vs = [] ∧ St W w (Fr f v bs (pK bs p).st :: cells b2 59 Z10 :: L)) ?_ ?_
  rotate_left
  · intro J hJ
    rw [k1] at hJ
    generalize hs1 : (pA bs p).st = s1 at *
    cases s1 with
    | bad e a =>
      obtain ⟨he, at_, H⟩ := Fr.ob H
      have he' : (((e : Nat) : Int) == 0) = false := by simp; omega
      (repeat (first | (with_reducible (first | refine Red.to ?_ | (refine is_rload ?_; (first | refine rv_load H rfl ?_ | refine rv_load H.up1 rfl ?_ | refine rv_load H.up2 rfl ?_ | refine rv_load H.up3 rfl ?_ | refine rv_load H.up4 rfl ?_)) | (refine is_tload ?_; (first | refine tk_load (fun _ H => H) rfl ?_ | refine tk_load (fun _ H => H.up1) rfl ?_ | refine tk_load (fun _ H => H.up2) rfl ?_ | refine tk_load (fun _ H => H.up3) rfl ?_)))) | (refine Share.mk ?_) | (intro _) | (simp only [List.getD_cons_zero, List.getD_cons_succ, he'])))
      exact hJ _ _ ⟨rfl, Fr.mb he H⟩
    | ok u q =>
      obtain ⟨hq, H⟩ := Fr.o H
      simp only [kst] at hJ
      by_cases h1 : x < 1
      · have e1 : decide ((x : Int) < 1) = true := decide_eq_true (by omega)
        rw [if_pos (.inl h1)] at hJ
        (repeat (first | (with_reducible (first | refine Red.to ?_ | (refine is_rload ?_; (first | refine rv_load H rfl ?_ | refine rv_load H.up1 rfl ?_ | refine rv_load H.up2 rfl ?_ | refine rv_load H.up3 rfl ?_ | refine rv_load H.up4 rfl ?_)) | (refine is_tload ?_; (first | refine tk_load (fun _ H => H) rfl ?_ | refine tk_load (fun _ H => H.up1) rfl ?_ | refine tk_load (fun _ H => H.up2) rfl ?_ | refine tk_load (fun _ H => H.up3) rfl ?_)))) | (refine Share.mk ?_) | (intro _) | (simp only [List.getD_cons_zero, List.getD_cons_succ, beq_self_eq_true, e1])))
        refine fault_spec (bs := bs) (e := 20) (by decide) H ?_
        clear H
        intro w3 H
        exact hJ _ _ ⟨rfl, H⟩
      · have e1 : decide ((x : Int) < 1) = false := decide_eq_false (by omega)
        by_cases h8 : 8 < x
        · have e2 : decide ((8 : Int) < (x : Int)) = true := decide_eq_true (by omega)
          rw [if_pos (.inr h8)] at hJ
          (repeat (first | (with_reducible (first | refine Red.to ?_ | (refine is_rload ?_; (first | refine rv_load H rfl ?_ | refine rv_load H.up1 rfl ?_ | refine rv_load H.up2 rfl ?_ | refine rv_load H.up3 rfl ?_ | refine rv_load H.up4 rfl ?_)) | (refine is_tload ?_; (first | refine tk_load (fun _ H => H) rfl ?_ | refine tk_load (fun _ H => H.up1) rfl ?_ | refine tk_load (fun _ H => H.up2) rfl ?_ | refine tk_load (fun _ H => H.up3) rfl ?_)))) | (refine Share.mk ?_) | (intro _) | (simp only [List.getD_cons_zero, List.getD_cons_succ, beq_self_eq_true, e1, e2])))
          refine fault_spec (bs := bs) (e := 20) (by decide) H ?_
          clear H
          intro w3 H
          exact hJ _ _ ⟨rfl, H⟩
        · have e2 : decide ((8 : Int) < (x : Int)) = false := decide_eq_false (by omega)
          rw [if_neg (by omega)] at hJ
          (repeat (first | (with_reducible (first | refine Red.to ?_ | (refine is_rload ?_; (first | refine rv_load H rfl ?_ | refine rv_load H.up1 rfl ?_ | refine rv_load H.up2 rfl ?_ | refine rv_load H.up3 rfl ?_ | refine rv_load H.up4 rfl ?_)) | (refine is_tload ?_; (first | refine tk_load (fun _ H => H) rfl ?_ | refine tk_load (fun _ H => H.up1) rfl ?_ | refine tk_load (fun _ H => H.up2) rfl ?_ | refine tk_load (fun _ H => H.up3) rfl ?_)))) | (refine Share.mk ?_) | (intro _) | (simp only [List.getD_cons_zero, List.getD_cons_succ, beq_self_eq_true, e1, e2])))
          exact hJ _ _ ⟨rfl, Fr.m hq H⟩
  clear H
  rintro vs w ⟨rfl, H⟩ σ
  (repeat with_reducible (first | refine Red.to ?_ | (refine is_rload ?_; (first | refine rv_load H rfl ?_ | refine rv_load H.up1 rfl ?_ | refine rv_load H.up2 rfl ?_ | refine rv_load H.up3 rfl ?_ | refine rv_load H.up4 rfl ?_))))
  have hkd : (x ≤ 8 → IntKind.i64.wrap (x : Int) = (x : Int)) ∧ (8 < x → IntKind.i64.wrap (x : Int) < 1 ∨ 8 < IntKind.i64.wrap (x : Int)) ∧ i64r (IntKind.i64.wrap (x : Int)) := by
    refine ⟨fun h => i64_small (by omega) (by omega), ?_, ?_⟩ <;> simp [IntKind.wrap, IntKind.bits, IntKind.signed, i64r] <;> omega
  generalize IntKind.i64.wrap (x : Int) = kd at *
  obtain ⟨kd1, kd2, kd3⟩ := hkd
  have good : 1 ≤ kd ∧ kd ≤ 8 → ∃ q, pK bs p = .ok kd.toNat q := by
    intro h
    cases hk : pK bs p with
    | ok k q =>
      obtain ⟨rfl, h1, h2⟩ := k2 k q hk
      exact ⟨q, by rw [kd1 h2]; rfl⟩
    | bad e a =>
      rcases k3 e a hk with h1 | h1
      · have := kd1 (by omega); omega
      · have := kd2 h1; omega
  have poor : ¬ (1 ≤ kd ∧ kd ≤ 8) → ∃ e a, pK bs p = .bad e a := by
    intro h
    cases hk : pK bs p with
    | bad e a => exact ⟨e, a, rfl⟩
    | ok k q =>
      obtain ⟨rfl, h1, h2⟩ := k2 k q hk
      have := kd1 h2
      omega
  refine rv (v := .agg (NodeV.cs ⟨kd, 1, 1, [], .slice none 0 0, 0, 0, 0, 0, [], .slice none 0 0, false⟩).toArray) (w' := w) (by kernel_rfl) ?_
  refine rv_new (c' := NodeV.cs ⟨kd, 1, 1, [], .slice none 0 0, 0, 0, 0, 0, [], .slice none 0 0, false⟩) H (by rfl) (by rfl) (zone rfl) ?_
  clear H
  intro b5 w3 H
  replace H : St W w3 (Fr f v bs (pK bs p).st :: cells b5 59 (NodeV.cs ⟨kd, 1, 1, [], .slice none 0 0, 0, 0, 0, 0, [], .slice none 0 0, false⟩) :: OpsH (.slice none 0 0) [] :: ConnsH (.slice none 0 0) [] :: cells b2 59 Z10 :: L) :=
    St.pm (P := [_, _, _, _, _]) [3, 2, 0, 1, 4] ((H.sl_nil 63 5).sl_nil 61 2) rfl
  -- behind the kinds
  refine share_of (fun vs w => vs = [] ∧ ∃ (n : NodeV) (s3 : Rs Unit), n.kd = kd ∧ St W w (Fr f v bs s3 :: cells b5 59 n.cs :: OpsH n.cv n.code :: ConnsH n.kv n.conns :: cells b2 59 Z10 :: L) ∧
    (kd = 8 ∨ kd = 4 → (pNode bs p).st = (s3.go (pI bs)).st ∧ ∀ m q, pNode bs p = .ok m q → { n with ins := ((s3.go (pI bs)).val 0 : Nat) }.er = m) ∧ (¬ (kd = 8 ∨ kd = 4) → (pNode bs p).st = s3 ∧ ∀ m q, pNode bs p = .ok m q → n.er = m)) ?_ ?_
  · clear H
    rintro vs w ⟨rfl, n, s3, hnk, H, hA, hB⟩ σ
    refine share_of (fun vs w => vs = [] ∧ ∃ (n : NodeV), St W w (Fr f v bs (pNode bs p).st :: cells b5 59 n.cs :: OpsH n.cv n.code :: ConnsH n.kv n.conns :: cells b2 59 Z10 :: L) ∧ (∀ m q, pNode bs p = .ok m q → n.er = m)) ?_ ?_
    · clear H hA hB hnk
      rintro vs w ⟨rfl, n, H, hn⟩ σ
      refine rv_loada H.up1 (cs := n.cs) rfl rfl ?_
      have h1 : ∀ u ∈ n.cs, u.oneCell' = true := NodeV.one' (sl_one H.up2) (sl_one H.up3)
      refine ru_store_whole (c' := n.cs) (show _ = some 10 by kernel_rfl) H.up4 rfl h1 ?_
      clear H
      intro w5 H
      refine ld_agg H (cs := n.cs) rfl rfl ?_
      refine k n _ hn ?_
      exact (St.pm (P := [_, _, _, _, _]) [0, 2, 3, 4, 1] H rfl).drop.drop
    · intro J hJ
      refine share_of (fun vs w' => vs = [.bool (decide (kd = 8 ∨ kd = 4))] ∧ w' = w) ?_ ?_
      rotate_left
      · intro J2 hJ2
        have hJ2 : ∀ c : Bool, decide (kd = 8 ∨ kd = 4) = c → J2 [.bool c] w := fun c h => hJ2 _ _ ⟨by rw [h], rfl⟩
        simp only [NodeV.cs] at H
        rw [hnk] at H
        (repeat with_reducible (first | refine Red.to ?_ | (refine is_rload ?_; (first | refine rv_load H rfl ?_ | refine rv_load H.up1 rfl ?_ | refine rv_load H.up2 rfl ?_ | refine rv_load H.up3 rfl ?_ | refine rv_load H.up4 rfl ?_))))
        cases h1 : (kd == 8) with
        | true =>
          have e1 : kd = 8 := by simpa using h1
          have hJ2 := hJ2 true (decide_eq_true (by omega))
          (repeat (first | (with_reducible (first | refine Red.to ?_ | (refine is_rload ?_; (first | refine rv_load H rfl ?_ | refine rv_load H.up1 rfl ?_ | refine rv_load H.up2 rfl ?_ | refine rv_load H.up3 rfl ?_ | refine rv_load H.up4 rfl ?_)) | (refine is_tload ?_; (first | refine tk_load (fun _ H => H) rfl ?_ | refine tk_load (fun _ H => H.up1) rfl ?_ | refine tk_load (fun _ H => H.up2) rfl ?_ | refine tk_load (fun _ H => H.up3) rfl ?_)))) | (refine Share.mk ?_) | (intro _) | (simp only [List.getD_cons_zero, List.getD_cons_succ])))
          exact hJ2
        | false =>
          have e1 : ¬ kd = 8 := by simpa using h1
          have hJ2 := hJ2 (kd == 4) (by rw [Bool.eq_iff_iff]; simp; omega)
          (repeat (first | (with_reducible (first | refine Red.to ?_ | (refine is_rload ?_; (first | refine rv_load H rfl ?_ | refine rv_load H.up1 rfl ?_ | refine rv_load H.up2 rfl ?_ | refine rv_load H.up3 rfl ?_ | refine rv_load H.up4 rfl ?_)) | (refine is_tload ?_; (first | refine tk_load (fun _ H => H) rfl ?_ | refine tk_load (fun _ H => H.up1) rfl ?_ | refine tk_load (fun _ H => H.up2) rfl ?_ | refine tk_load (fun _ H => H.up3) rfl ?_)))) | (refine Share.mk ?_) | (intro _) | (simp only [List.getD_cons_zero, List.getD_cons_succ])))
          exact hJ2
      rintro vs w ⟨rfl, rfl⟩ σ
      simp only [List.getD_cons_zero]
      refine cond_split (fun h => ?_) (fun h => ?_)
      · obtain ⟨hA1, hA2⟩ := hA (of_decide_eq_true h)
        refine fint_spec (R.up (A := [_, _, _, _])) hl H ?_
        clear H
        intro w5 H
        simp only [NodeV.cs] at H
        (repeat with_reducible (first | refine Red.to ?_ | (refine is_rload ?_; (first | refine rv_load H rfl ?_ | refine rv_load H.up1 rfl ?_ | refine rv_load H.up2 rfl ?_ | refine rv_load H.up3 rfl ?_ | refine rv_load H.up4 rfl ?_))))
        refine ru_store H.up1 (by simp) rfl ?_
        clear H
        intro w6 H
        refine hJ _ _ ⟨rfl, { n with ins := ((s3.go (pI bs)).val 0 : Nat) }, ?_, hA2⟩
        rw [hA1]
        exact H.up1
      · obtain ⟨hB1, hB2⟩ := hB (of_decide_eq_false h)
        refine hJ _ _ ⟨rfl, n, ?_, hB2⟩
        rw [hB1]
        exact H
  intro J hJ
  have hJ : ∀ (n : NodeV) (s3 : Rs Unit) w, n.kd = kd → St W w (Fr f v bs s3 :: cells b5 59 n.cs :: OpsH n.cv n.code :: ConnsH n.kv n.conns :: cells b2 59 Z10 :: L) →
    (kd = 8 ∨ kd = 4 → (pNode bs p).st = (s3.go (pI bs)).st ∧ ∀ m q, pNode bs p = .ok m q → { n with ins := ((s3.go (pI bs)).val 0 : Nat) }.er = m) → (¬ (kd = 8 ∨ kd = 4) → (pNode bs p).st = s3 ∧ ∀ m q, pNode bs p = .ok m q → n.er = m) → J [] w := fun n s3 w h1 h2 h3 h4 => hJ _ _ ⟨rfl, n, s3, h1, h2, h3, h4⟩
  simp only [NodeV.cs] at H
  (repeat with_reducible (first | refine Red.to ?_ | (refine is_rload ?_; (first | refine rv_load H rfl ?_ | refine rv_load H.up1 rfl ?_ | refine rv_load H.up2 rfl ?_ | refine rv_load H.up3 rfl ?_ | refine rv_load H.up4 rfl ?_))))
  refine cond_split (fun h => ?_) (fun h => ?_)
  · have h : kd = 1 := by simpa using h
    subst h
    obtain ⟨q, hq⟩ := good (by omega)
    (repeat with_reducible (first | refine Red.to ?_ | (refine is_rload ?_; (first | refine rv_load H rfl ?_ | refine rv_load H.up1 rfl ?_ | refine rv_load H.up2 rfl ?_ | refine rv_load H.up3 rfl ?_ | refine rv_load H.up4 rfl ?_))))
    refine ru_store H.up1 (by simp) rfl ?_
    clear H
    intro w5 H
    refine hJ ⟨1, 0, 1, [], .slice none 0 0, 0, 0, 0, 0, [], .slice none 0 0, false⟩ _ _ rfl H.up1 (fun h => by omega) (fun _ => ?_)
    rw [node_rel hq, hq]
    exact ⟨rfl, fun m q h => by cases h; rfl⟩
  have hk1 : ¬ kd = 1 := by simpa using h
  (repeat with_reducible (first | refine Red.to ?_ | (refine is_rload ?_; (first | refine rv_load H rfl ?_ | refine rv_load H.up1 rfl ?_ | refine rv_load H.up2 rfl ?_ | refine rv_load H.up3 rfl ?_ | refine rv_load H.up4 rfl ?_))))
  refine cond_split (fun h => ?_) (fun h => ?_)
  · have h : kd = 7 := by simpa using h
    subst h
    obtain ⟨q, hq⟩ := good (by omega)
    (repeat with_reducible (first | refine Red.to ?_ | (refine is_rload ?_; (first | refine rv_load H rfl ?_ | refine rv_load H.up1 rfl ?_ | refine rv_load H.up2 rfl ?_ | refine rv_load H.up3 rfl ?_ | refine rv_load H.up4 rfl ?_))))
    refine ru_store H.up1 (by simp) rfl ?_
    clear H
    intro w5 H
    refine hJ ⟨7, 1, 0, [], .slice none 0 0, 0, 0, 0, 0, [], .slice none 0 0, false⟩ _ _ rfl H.up1 (fun h => by omega) (fun _ => ?_)
    rw [node_rel hq, hq]
    exact ⟨rfl, fun m q h => by cases h; rfl⟩
  have hk7 : ¬ kd = 7 := by simpa using h
  refine share_of (fun vs w' => vs = [.bool (decide (kd = 2 ∨ kd = 3))] ∧ w' = w3) ?_ ?_
  rotate_left
  · intro J2 hJ2
    have hJ2 : ∀ c : Bool, decide (kd = 2 ∨ kd = 3) = c → J2 [.bool c] w3 := fun c h => hJ2 _ _ ⟨by rw [h], rfl⟩
    cases h1 : (kd == 2) with
    | true =>
      have e1 : kd = 2 := by simpa using h1
      have hJ2 := hJ2 true (decide_eq_true (by omega))
      (repeat (first | (with_reducible (first | refine Red.to ?_ | (refine is_rload ?_; (first | refine rv_load H rfl ?_ | refine rv_load H.up1 rfl ?_ | refine rv_load H.up2 rfl ?_ | refine rv_load H.up3 rfl ?_ | refine rv_load H.up4 rfl ?_)) | (refine is_tload ?_; (first | refine tk_load (fun _ H => H) rfl ?_ | refine tk_load (fun _ H => H.up1) rfl ?_ | refine tk_load (fun _ H => H.up2) rfl ?_ | refine tk_load (fun _ H => H.up3) rfl ?_)))) | (refine Share.mk ?_) | (intro _) | (simp only [List.getD_cons_zero, List.getD_cons_succ, h1])))
      exact hJ2
    | false =>
      have e1 : ¬ kd = 2 := by simpa using h1
      have hJ2 := hJ2 (kd == 3) (by rw [Bool.eq_iff_iff]; simp; omega)
      (repeat (first | (with_reducible (first | refine Red.to ?_ | (refine is_rload ?_; (first | refine rv_load H rfl ?_ | refine rv_load H.up1 rfl ?_ | refine rv_load H.up2 rfl ?_ | refine rv_load H.up3 rfl ?_ | refine rv_load H.up4 rfl ?_)) | (refine is_tload ?_; (first | refine tk_load (fun _ H => H) rfl ?_ | refine tk_load (fun _ H => H.up1) rfl ?_ | refine tk_load (fun _ H => H.up2) rfl ?_ | refine tk_load (fun _ H => H.up3) rfl ?_)))) | (refine Share.mk ?_) | (intro _) | (simp only [List.getD_cons_zero, List.getD_cons_succ, h1])))
      exact hJ2
  rintro vs w ⟨rfl, rfl⟩ σ
  simp only [List.getD_cons_zero]
  refine cond_split (fun h => ?_) (fun h => ?_)
  · have h23 := of_decide_eq_true h
    obtain ⟨q, hq⟩ := good (by omega)
    have hN := node_rel hq
    rw [hq] at H
    change St W w (Fr f v bs (.ok () q) :: _) at H
    refine fnum_spec (most := 16) (over := 2) (by decide) (R.up (A := [_, _, _, _])) hl H ?_
    clear H
    intro w5 H
    rw [go_ok] at H ⊢
    have hm := (val_lt (bs := bs) (s := .ok () q) (most := 16) (over := 2)).1
    rw [go_ok] at hm
    generalize hmm : (pN bs 16 2 q).val 0 = m at *
    generalize hs0 : (pN bs 16 2 q).st = s0 at *
    (repeat with_reducible (first | refine Red.to ?_ | (refine is_rload ?_; (first | refine rv_load H rfl ?_ | refine rv_load H.up1 rfl ?_ | refine rv_load H.up2 rfl ?_ | refine rv_load H.up3 rfl ?_ | refine rv_load H.up4 rfl ?_))))
    rw [i64_small (by omega) (by omega)]
    refine loop_of (fun vs w => ∃ (i : Nat) (es : List OpD) (cv : Value) (s : Rs Unit), vs = [.int .i64 i] ∧ i ≤ m ∧ es.length = i ∧ s = (pLs (pOp bs) i s0).st ∧ (∀ l q, pLs (pOp bs) i s0 = .ok l q → es = l) ∧ St W w (Fr f v bs s :: cells b5 59 (NodeV.cs ⟨kd, 1, 1, es, cv, 0, 0, 0, 0, [], .slice none 0 0, false⟩) :: OpsH cv es :: ConnsH (.slice none 0 0) [] :: cells b2 59 Z10 :: L))
      (fun vs _ => match vs with | [.int _ i] => m - i.toNat | _ => 0) ⟨0, [], _, s0, rfl, by omega, rfl, loop_zero.1, loop_zero.2, H⟩ ?_
    clear H
    rintro vs w kk ⟨i, es, cv, s, rfl, hi, hel, hs, hes, H⟩ hkk σ
    simp only [List.getD_cons_zero, List.getD_cons_succ]
    have hend : (i = m ∨ ∃ e a, s = .bad e a) → J [] w := by
      intro he
      obtain ⟨x1, x2⟩ := loop_exit hs hi he hes
      obtain ⟨y1, y2⟩ := code_rel (k := kd.toNat) (q := q) (by omega) hs0.symm hmm.symm x1 x2
      refine hJ ⟨kd, 1, 1, es, cv, 0, 0, 0, 0, [], .slice none 0 0, false⟩ s _ rfl H (fun h => by omega) (fun _ => ?_)
      rw [hN, y1]
      refine ⟨rfl, fun m' q' h => ?_⟩
      rw [← y2 m' q' h]
      have : ((kd.toNat : Nat) : Int) = kd := by omega
      rw [this]
      rfl
    refine share_of (fun vs w' => vs = [] ∧ w' = w ∧ i < m ∧ ∃ r, s = .ok () r) ?_ ?_
    · rintro vs w' ⟨rfl, rfl, hlt, r, rfl⟩ σ
      refine fint_spec (R.up (A := [_, _, _, _])) hl H ?_
      clear H
      intro w6 H
      rw [go_ok] at H ⊢
      refine rv (v := .agg (OpD.cs ⟨((pI bs r).val 0 : Nat), 0⟩).toArray) (w' := w6) (by kernel_rfl) ?_
      refine rv_new (c' := OpD.cs ⟨((pI bs r).val 0 : Nat), 0⟩) H (by rfl) (by rfl) (zone rfl) ?_
      clear H
      intro b8 w7 H
      refine fany_spec (R.up (A := [_, _, _, _, _])) hl H.up1 ?_
      clear H
      intro w8 H
      obtain ⟨o1, o2⟩ := op_st (bs := bs) (p := r)
      rw [← o1] at H
      obtain ⟨l1, l2⟩ := loop_step hs rfl hes o2
      rw [l1] at H
      simp only [OpD.cs, NodeV.cs] at H
      (repeat with_reducible (first | refine Red.to ?_ | (refine is_rload ?_; (first | refine rv_load H rfl ?_ | refine rv_load H.up1 rfl ?_ | refine rv_load H.up2 rfl ?_ | refine rv_load H.up3 rfl ?_ | refine rv_load H.up4 rfl ?_))))
      refine ru_store H.up1 (by simp) rfl ?_
      clear H
      intro w9 H
      simp only [List.set_cons_succ, List.set_cons_zero] at H
      generalize ho : (⟨((pI bs r).val 0 : Nat), ((pI bs r).st.go (pA bs)).val 0⟩ : OpD) = o at l2
      have hoc : OpD.cs o = [.int .i64 ((pI bs r).val 0 : Nat), .int .u64 (((pI bs r).st.go (pA bs)).val 0 : Nat)] := by rw [← ho]; rfl
      rw [← hoc] at H
      (repeat with_reducible (first | refine Red.to ?_ | (refine is_rload ?_; (first | refine rv_load H rfl ?_ | refine rv_load H.up1 rfl ?_ | refine rv_load H.up2 rfl ?_ | refine rv_load H.up3 rfl ?_ | refine rv_load H.up4 rfl ?_))))
      refine rv_loada H (cs := o.cs) rfl rfl ?_
      refine rv_build1 H (by rfl) (by omega) ?_
      clear H
      intro g8 w10 H
      refine rv_append_cells (n := es.length) (m := 1) (xs := fl OpD.cs es) (news := o.cs) (St.pm (P := [_, _, _, _, _]) [0, 4, 1, 2, 3] H rfl) rfl o.one (by unfold maxLen; omega) (by omega) ?_
      clear H
      intro cv' w11 H _
      have hone := sl_one H
      replace H := H.up3
      (repeat with_reducible (first | refine Red.to ?_ | (refine is_rload ?_; (first | refine rv_load H rfl ?_ | refine rv_load H.up1 rfl ?_ | refine rv_load H.up2 rfl ?_ | refine rv_load H.up3 rfl ?_ | refine rv_load H.up4 rfl ?_))))
      refine ru_store H (by simp) hone ?_
      clear H
      intro w12 H
      simp only [List.set_cons_succ, List.set_cons_zero] at H
      (repeat with_reducible (first | refine Red.to ?_ | (refine is_rload ?_; (first | refine rv_load H rfl ?_ | refine rv_load H.up1 rfl ?_ | refine rv_load H.up2 rfl ?_ | refine rv_load H.up3 rfl ?_ | refine rv_load H.up4 rfl ?_))))
      rw [i64_small (by omega) (by omega)]
      refine hkk _ _ ⟨i + 1, es ++ [o], cv', _, rfl, by omega, by simp [hel], rfl, l2, ?_⟩ (by simp; omega)
      have e : fl OpD.cs es ++ o.cs = fl OpD.cs (es ++ [o]) := by rw [fl_snoc]
      rw [e] at H
      have H := (St.pm (P := [_, _, _, _]) [2, 3, 0, 1] H rfl).drop
      simpa [OpsH, NodeV.cs] using H
    · intro J2 hJ2
      (repeat with_reducible (first | refine Red.to ?_ | (refine is_rload ?_; (first | refine rv_load H rfl ?_ | refine rv_load H.up1 rfl ?_ | refine rv_load H.up2 rfl ?_ | refine rv_load H.up3 rfl ?_ | refine rv_load H.up4 rfl ?_))))
      cases hc : decide ((i : Int) < (m : Int)) with
      | false =>
        have := of_decide_eq_false hc
        (repeat (first | (with_reducible (first | refine Red.to ?_ | (refine is_rload ?_; (first | refine rv_load H rfl ?_ | refine rv_load H.up1 rfl ?_ | refine rv_load H.up2 rfl ?_ | refine rv_load H.up3 rfl ?_ | refine rv_load H.up4 rfl ?_)) | (refine is_tload ?_; (first | refine tk_load (fun _ H => H) rfl ?_ | refine tk_load (fun _ H => H.up1) rfl ?_ | refine tk_load (fun _ H => H.up2) rfl ?_ | refine tk_load (fun _ H => H.up3) rfl ?_)))) | (refine Share.mk ?_) | (intro _) | (simp only [List.getD_cons_zero, List.getD_cons_succ])))
        exact hend (.inl (by omega))
      | true =>
        have hlt := of_decide_eq_true hc
        refine guard_tt ?_
        refine Fr.go H (fun r hr => ?_) (fun e a hr => ?_)
        · (repeat (first | (with_reducible (first | refine Red.to ?_ | (refine is_rload ?_; (first | refine rv_load H rfl ?_ | refine rv_load H.up1 rfl ?_ | refine rv_load H.up2 rfl ?_ | refine rv_load H.up3 rfl ?_ | refine rv_load H.up4 rfl ?_)) | (refine is_tload ?_; (first | refine tk_load (fun _ H => H) rfl ?_ | refine tk_load (fun _ H => H.up1) rfl ?_ | refine tk_load (fun _ H => H.up2) rfl ?_ | refine tk_load (fun _ H => H.up3) rfl ?_)))) | (refine Share.mk ?_) | (intro _) | (simp only [List.getD_cons_zero, List.getD_cons_succ])))
          exact hJ2 _ _ ⟨rfl, rfl, by omega, r, hr⟩
        · (repeat (first | (with_reducible (first | refine Red.to ?_ | (refine is_rload ?_; (first | refine rv_load H rfl ?_ | refine rv_load H.up1 rfl ?_ | refine rv_load H.up2 rfl ?_ | refine rv_load H.up3 rfl ?_ | refine rv_load H.up4 rfl ?_)) | (refine is_tload ?_; (first | refine tk_load (fun _ H => H) rfl ?_ | refine tk_load (fun _ H => H.up1) rfl ?_ | refine tk_load (fun _ H => H.up2) rfl ?_ | refine tk_load (fun _ H => H.up3) rfl ?_)))) | (refine Share.mk ?_) | (intro _) | (simp only [List.getD_cons_zero, List.getD_cons_succ])))
          exact hend (.inr ⟨e, a, hr⟩)
  have h23 := of_decide_eq_false h
  (repeat with_reducible (first | refine Red.to ?_ | (refine is_rload ?_; (first | refine rv_load H rfl ?_ | refine rv_load H.up1 rfl ?_ | refine rv_load H.up2 rfl ?_ | refine rv_load H.up3 rfl ?_ | refine rv_load H.up4 rfl ?_))))
  refine cond_split (fun h => ?_) (fun h => ?_)
  · have h : kd = 5 := by simpa using h
    subst h
    obtain ⟨q, hq⟩ := good (by omega)
    have hN := node_rel hq
    rw [hq] at H
    change St W w (Fr f v bs (.ok () q) :: _) at H
    refine fany_spec (R.up (A := [_, _, _, _])) hl H ?_
    clear H
    intro w5 H
    rw [go_ok] at H ⊢
    (repeat with_reducible (first | refine Red.to ?_ | (refine is_rload ?_; (first | refine rv_load H rfl ?_ | refine rv_load H.up1 rfl ?_ | refine rv_load H.up2 rfl ?_ | refine rv_load H.up3 rfl ?_ | refine rv_load H.up4 rfl ?_))))
    refine ru_store H.up1 (by simp) rfl ?_
    clear H
    intro w6 H
    simp only [List.set_cons_succ, List.set_cons_zero] at H
    refine fpath_spec (R.up (A := [_, _, _, _])) hl H.up1 (fun a b c w' hp hlt H => ?_)
    have H := H.up1
    (repeat with_reducible (first | refine Red.to ?_ | (refine is_rload ?_; (first | refine rv_load H rfl ?_ | refine rv_load H.up1 rfl ?_ | refine rv_load H.up2 rfl ?_ | refine rv_load H.up3 rfl ?_ | refine rv_load H.up4 rfl ?_))))
    refine ru_store_agg (c' := [.int .u64 a, .int .u64 b, .int .u64 c]) (by kernel_rfl) H (by simp) (zone rfl) ?_
    clear H
    intro w7 H
    obtain ⟨y1, y2⟩ := loop_rel (q := q) (bs := bs) rfl rfl hp
    refine hJ ⟨5, 1, 1, [], .slice none 0 0, a, b, c, (pA bs q).val 0, [], .slice none 0 0, false⟩ _ _ rfl H.up1 (fun h => by omega) (fun _ => ?_)
    rw [hN]
    exact ⟨y1, fun m' q' h => y2 m' q' h⟩
  have hk5 : ¬ kd = 5 := by simpa using h
  (repeat with_reducible (first | refine Red.to ?_ | (refine is_rload ?_; (first | refine rv_load H rfl ?_ | refine rv_load H.up1 rfl ?_ | refine rv_load H.up2 rfl ?_ | refine rv_load H.up3 rfl ?_ | refine rv_load H.up4 rfl ?_))))
  refine cond_split (fun h => ?_) (fun h => ?_)
  · have h : kd = 8 := by simpa using h
    subst h
    obtain ⟨q, hq⟩ := good (by omega)
    have hN := node_rel hq
    rw [hq] at H
    change St W w (Fr f v bs (.ok () q) :: _) at H
    refine ftruth_spec (R.up (A := [_, _, _, _])) hl H ?_
    clear H
    intro w5 H
    rw [go_ok] at H ⊢
    generalize ht : (pT bs q).val false = t at *
    generalize hs1 : (pT bs q).st = s1 at *
    (repeat with_reducible (first | refine Red.to ?_ | (refine is_rload ?_; (first | refine rv_load H rfl ?_ | refine rv_load H.up1 rfl ?_ | refine rv_load H.up2 rfl ?_ | refine rv_load H.up3 rfl ?_ | refine rv_load H.up4 rfl ?_))))
    refine ru_store H.up1 (by simp) rfl ?_
    clear H
    intro w6 H
    simp only [List.set_cons_succ, List.set_cons_zero] at H
    refine fnum_spec (most := 16) (over := 2) (by decide) (R.up (A := [_, _, _, _])) hl H.up1 ?_
    clear H
    intro w7 H
    have hm := (val_lt (bs := bs) (s := s1) (most := 16) (over := 2)).1
    generalize hmm : (s1.go (pN bs 16 2)).val 0 = m at *
    generalize hs0 : (s1.go (pN bs 16 2)).st = s0 at *
    (repeat with_reducible (first | refine Red.to ?_ | (refine is_rload ?_; (first | refine rv_load H rfl ?_ | refine rv_load H.up1 rfl ?_ | refine rv_load H.up2 rfl ?_ | refine rv_load H.up3 rfl ?_ | refine rv_load H.up4 rfl ?_))))
    rw [i64_small (by omega) (by omega)]
    refine share_of (fun vs w => vs = [] ∧ ∃ (es : List ConnD) (kv : Value) (s : Rs Unit), s = (pLs (pConn bs) m s0).st ∧ (∀ l q, pLs (pConn bs) m s0 = .ok l q → es = l) ∧ St W w (Fr f v bs s :: cells b5 59 (NodeV.cs ⟨8, 1, 1, [], .slice none 0 0, 0, 0, 0, 0, es, kv, t⟩) :: OpsH (.slice none 0 0) [] :: ConnsH kv es :: cells b2 59 Z10 :: L)) ?_ ?_
    · clear H
      rintro vs w ⟨rfl, es, kv, s3, hs3, hes, H⟩ σ
      refine fint_spec (R.up (A := [_, _, _, _])) hl H ?_
      clear H
      intro w8 H
      simp only [NodeV.cs] at H
      (repeat with_reducible (first | refine Red.to ?_ | (refine is_rload ?_; (first | refine rv_load H rfl ?_ | refine rv_load H.up1 rfl ?_ | refine rv_load H.up2 rfl ?_ | refine rv_load H.up3 rfl ?_ | refine rv_load H.up4 rfl ?_))))
      refine ru_store H.up1 (by simp) rfl ?_
      clear H
      intro w9 H
      simp only [List.set_cons_succ, List.set_cons_zero] at H
      obtain ⟨y1, y2⟩ := free_rel hs1.symm hs0.symm hmm.symm hs3 hes rfl
      refine hJ ⟨8, 1, ((s3.go (pI bs)).val 0 : Nat), [], .slice none 0 0, 0, 0, 0, 0, es, kv, t⟩ _ _ rfl H.up1 (fun _ => ?_) (fun h => by omega)
      rw [hN]
      refine ⟨y1, fun m' q' h => ?_⟩
      have := y2 m' q' h
      rw [ht] at this
      exact this
    intro J8 hJ8
    refine loop_of (fun vs w => ∃ (i : Nat) (es : List ConnD) (kv : Value) (s : Rs Unit), vs = [.int .i64 i] ∧ i ≤ m ∧ es.length = i ∧ s = (pLs (pConn bs) i s0).st ∧ (∀ l q, pLs (pConn bs) i s0 = .ok l q → es = l) ∧ St W w (Fr f v bs s :: cells b5 59 (NodeV.cs ⟨8, 1, 1, [], .slice none 0 0, 0, 0, 0, 0, es, kv, t⟩) :: OpsH (.slice none 0 0) [] :: ConnsH kv es :: cells b2 59 Z10 :: L))
      (fun vs _ => match vs with | [.int _ i] => m - i.toNat | _ => 0) ⟨0, [], _, s0, rfl, by omega, rfl, loop_zero.1, loop_zero.2, H⟩ ?_
    clear H
    rintro vs w kk ⟨i, es, kv, s, rfl, hi, hel, hs, hes, H⟩ hkk σ
    simp only [List.getD_cons_zero, List.getD_cons_succ]
    have hend : (i = m ∨ ∃ e a, s = .bad e a) → J8 [] w := by
      intro he
      obtain ⟨x1, x2⟩ := loop_exit hs hi he hes
      exact hJ8 _ _ ⟨rfl, es, kv, s, x1, x2, H⟩
    refine share_of (fun vs w' => vs = [] ∧ w' = w ∧ i < m ∧ ∃ r, s = .ok () r) ?_ ?_
    · rintro vs w' ⟨rfl, rfl, hlt, r, rfl⟩ σ
      refine fint_spec (R.up (A := [_, _, _, _])) hl H ?_
      clear H
      intro w8 H
      rw [go_ok] at H ⊢
      refine rv (v := .agg (ConnD.cs ⟨((pI bs r).val 0 : Nat), 0, 0, 0, 0⟩).toArray) (w' := w8) (by kernel_rfl) ?_
      refine rv_new (c' := ConnD.cs ⟨((pI bs r).val 0 : Nat), 0, 0, 0, 0⟩) H (by rfl) (by rfl) (zone rfl) ?_
      clear H
      intro b8 w9 H
      refine fint_spec (R.up (A := [_, _, _, _, _])) hl H.up1 ?_
      clear H
      intro w10 H
      simp only [ConnD.cs, NodeV.cs] at H
      (repeat with_reducible (first | refine Red.to ?_ | (refine is_rload ?_; (first | refine rv_load H rfl ?_ | refine rv_load H.up1 rfl ?_ | refine rv_load H.up2 rfl ?_ | refine rv_load H.up3 rfl ?_ | refine rv_load H.up4 rfl ?_))))
      refine ru_store H.up1 (by simp) rfl ?_
      clear H
      intro w11 H
      simp only [List.set_cons_succ, List.set_cons_zero] at H
      refine fpath_spec (R.up (A := [_, _, _, _, _])) hl H.up1 (fun a b c w' hp hlt H => ?_)
      have H := H.up1
      (repeat with_reducible (first | refine Red.to ?_ | (refine is_rload ?_; (first | refine rv_load H rfl ?_ | refine rv_load H.up1 rfl ?_ | refine rv_load H.up2 rfl ?_ | refine rv_load H.up3 rfl ?_ | refine rv_load H.up4 rfl ?_))))
      refine ru_store_agg (c' := [.int .u64 a, .int .u64 b, .int .u64 c]) (by kernel_rfl) H (by simp) (zone rfl) ?_
      clear H
      intro w12 H
      obtain ⟨o1, o2⟩ := conn_st hp
      rw [← o1] at H
      obtain ⟨l1, l2⟩ := loop_step hs rfl hes o2
      rw [l1] at H
      generalize ho : (⟨((pI bs r).val 0 : Nat), (((pI bs r).st.go (pI bs)).val 0 : Nat), a, b, c⟩ : ConnD) = o at l2
      replace H := St.mono (B := cells b8 63 o.cs) H (fun h hh => by rw [← ho]; exact hh)
      (repeat with_reducible (first | refine Red.to ?_ | (refine is_rload ?_; (first | refine rv_load H rfl ?_ | refine rv_load H.up1 rfl ?_ | refine rv_load H.up2 rfl ?_ | refine rv_load H.up3 rfl ?_ | refine rv_load H.up4 rfl ?_))))
      refine rv_loada H (cs := o.cs) rfl rfl ?_
      refine rv_build1 H (by rfl) (by omega) ?_
      clear H
      intro g8 w13 H
      refine rv_append_cells (n := es.length) (m := 1) (xs := fl ConnD.cs es) (news := o.cs) (St.pm (P := [_, _, _, _, _, _]) [0, 5, 1, 2, 3, 4] H rfl) rfl o.one (by unfold maxLen; omega) (by omega) ?_
      clear H
      intro kv' w14 H _
      have hone := sl_one H
      replace H := H.up3
      (repeat with_reducible (first | refine Red.to ?_ | (refine is_rload ?_; (first | refine rv_load H rfl ?_ | refine rv_load H.up1 rfl ?_ | refine rv_load H.up2 rfl ?_ | refine rv_load H.up3 rfl ?_ | refine rv_load H.up4 rfl ?_))))
      refine ru_store H (by simp) hone ?_
      clear H
      intro w15 H
      simp only [List.set_cons_succ, List.set_cons_zero] at H
      (repeat with_reducible (first | refine Red.to ?_ | (refine is_rload ?_; (first | refine rv_load H rfl ?_ | refine rv_load H.up1 rfl ?_ | refine rv_load H.up2 rfl ?_ | refine rv_load H.up3 rfl ?_ | refine rv_load H.up4 rfl ?_))))
      rw [i64_small (by omega) (by omega)]
      refine hkk _ _ ⟨i + 1, es ++ [o], kv', _, rfl, by omega, by simp [hel], rfl, l2, ?_⟩ (by simp; omega)
      have e : fl ConnD.cs es ++ o.cs = fl ConnD.cs (es ++ [o]) := by rw [fl_snoc]
      rw [e] at H
      have H := (St.pm (P := [_, _, _, _, _]) [2, 3, 0, 4, 1] H rfl).drop
      simpa [ConnsH, NodeV.cs] using H
    · intro J2 hJ2
      (repeat with_reducible (first | refine Red.to ?_ | (refine is_rload ?_; (first | refine rv_load H rfl ?_ | refine rv_load H.up1 rfl ?_ | refine rv_load H.up2 rfl ?_ | refine rv_load H.up3 rfl ?_ | refine rv_load H.up4 rfl ?_))))
      cases hc : decide ((i : Int) < (m : Int)) with
      | false =>
        have := of_decide_eq_false hc
        (repeat (first | (with_reducible (first | refine Red.to ?_ | (refine is_rload ?_; (first | refine rv_load H rfl ?_ | refine rv_load H.up1 rfl ?_ | refine rv_load H.up2 rfl ?_ | refine rv_load H.up3 rfl ?_ | refine rv_load H.up4 rfl ?_)) | (refine is_tload ?_; (first | refine tk_load (fun _ H => H) rfl ?_ | refine tk_load (fun _ H => H.up1) rfl ?_ | refine tk_load (fun _ H => H.up2) rfl ?_ | refine tk_load (fun _ H => H.up3) rfl ?_)))) | (refine Share.mk ?_) | (intro _) | (simp only [List.getD_cons_zero, List.getD_cons_succ])))
        exact hend (.inl (by omega))
      | true =>
        have hlt := of_decide_eq_true hc
        refine guard_tt ?_
        refine Fr.go H (fun r hr => ?_) (fun e a hr => ?_)
        · (repeat (first | (with_reducible (first | refine Red.to ?_ | (refine is_rload ?_; (first | refine rv_load H rfl ?_ | refine rv_load H.up1 rfl ?_ | refine rv_load H.up2 rfl ?_ | refine rv_load H.up3 rfl ?_ | refine rv_load H.up4 rfl ?_)) | (refine is_tload ?_; (first | refine tk_load (fun _ H => H) rfl ?_ | refine tk_load (fun _ H => H.up1) rfl ?_ | refine tk_load (fun _ H => H.up2) rfl ?_ | refine tk_load (fun _ H => H.up3) rfl ?_)))) | (refine Share.mk ?_) | (intro _) | (simp only [List.getD_cons_zero, List.getD_cons_succ])))
          exact hJ2 _ _ ⟨rfl, rfl, by omega, r, hr⟩
        · (repeat (first | (with_reducible (first | refine Red.to ?_ | (refine is_rload ?_; (first | refine rv_load H rfl ?_ | refine rv_load H.up1 rfl ?_ | refine rv_load H.up2 rfl ?_ | refine rv_load H.up3 rfl ?_ | refine rv_load H.up4 rfl ?_)) | (refine is_tload ?_; (first | refine tk_load (fun _ H => H) rfl ?_ | refine tk_load (fun _ H => H.up1) rfl ?_ | refine tk_load (fun _ H => H.up2) rfl ?_ | refine tk_load (fun _ H => H.up3) rfl ?_)))) | (refine Share.mk ?_) | (intro _) | (simp only [List.getD_cons_zero, List.getD_cons_succ])))
          exact hend (.inr ⟨e, a, hr⟩)
  have hk8 : ¬ kd = 8 := by simpa using h
  refine hJ ⟨kd, 1, 1, [], .slice none 0 0, 0, 0, 0, 0, [], .slice none 0 0, false⟩ _ _ rfl H (fun h4 => ?_) (fun h4 => ?_)
  · obtain rfl : kd = 4 := by omega
    obtain ⟨q, hq⟩ := good (by omega)
    rw [node_rel hq, hq]
    obtain ⟨y1, y2⟩ := join_rel (bs := bs) (q := q)
    exact ⟨y1, fun m' q' h => y2 m' q' h⟩
  · by_cases h6 : kd = 6
    · subst h6
      obtain ⟨q, hq⟩ := good (by omega)
      rw [node_rel hq, hq]
      exact ⟨rfl, fun m q h => by cases h; rfl⟩
    · obtain ⟨e, a, hq⟩ := poor (by omega)
      rw [pNode_eq, hq]
      exact ⟨rfl, fun m q h => by cases h⟩
end
end Go.Proofs.Ytdmocobabpmoeaa
