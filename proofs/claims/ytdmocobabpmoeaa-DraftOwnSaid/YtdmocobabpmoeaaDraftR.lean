
/-
  The document's own answer for package draft: bare, one node.
-/
import Derived.Test.YtdmocobabpmoeaaDraftQ
namespace Go.Proofs.Ytdmocobabpmoeaa
open Go.Vc Go.Sep Go.Ops
set_option linter.unusedVariables false
set_option linter.unusedSectionVars false
set_option linter.unusedSimpArgs false

section
variable {W w : World} {L : List HProp} {K : Value → World → Prop} {KU : World → Prop} {X : XPost}
def codeOk (n : NodeV) : Bool := decide (n.kd = 2 ∨ n.kd = 3) || decide (n.code.length = 0)
def loopOk (n : NodeV) : Bool := decide (n.kd = 5) || (decide (n.a = 0 ∧ n.b = 0 ∧ n.c = 0) && decide (n.bd = 0))
def freeOk (n : NodeV) : Bool := decide (n.kd = 8) || (decide (n.conns.length = 0) && !n.st)
theorem bareB_eq (n : NodeV) : bareB n = (codeOk n && loopOk n && freeOk n) := rfl
theorem rbare_spec {n : NodeV} (H : St W w L) (R : NKn W L n) (k : ∀ w', St W w' L → K (.bool (bareB n)) w') : FCall Try.prog Fn.sluiceref08_bare #[.agg n.cs.toArray] w K X := by
  refine sluiceref08_bare_call ?_
  unfold Sh.sluiceref08_bare
  refine rv_box (c := n.cs) H rfl ?_
  clear H
  intro b w1 H
  unfold NodeV.cs at H
  have R := (R.tail (A := cells b 59 [.int .i64 n.kd, .int .i64 n.ins, .int .i64 n.outs, n.cv, .int .u64 n.a, .int .u64 n.b, .int .u64 n.c, .int .u64 n.bd, n.kv, .bool n.st])) _ H
  have k := k _ H.drop
  rw [bareB_eq] at k
  refine share_of (fun vs w => vs = [.bool (codeOk n)] ∧ w = w1) ?_ ?_
  · rintro vs w ⟨rfl, rfl⟩ σ
    simp only [List.getD_cons_zero]
    refine share_of (fun vs w' => vs = [.bool (loopOk n)] ∧ w' = w) ?_ ?_
    · rintro vs w ⟨rfl, rfl⟩ σ
      simp only [List.getD_cons_zero]
      refine share_of (fun vs w' => vs = [.bool (freeOk n)] ∧ w' = w) ?_ ?_
      · rintro vs w ⟨rfl, rfl⟩ σ
        simp only [List.getD_cons_zero]
        refine share_of (fun vs w' => ∃ v, vs = [v] ∧ w' = w ∧ cond (codeOk n) v (.bool false) = .bool (codeOk n && loopOk n)) ?_ ?_
        · rintro vs w ⟨v, rfl, rfl, hv⟩ σ
          simp only [List.getD_cons_zero]
          refine pick_to hv ?_
          refine guard_split (fun h => ?_) (fun h => ?_)
          · rw [h] at k ⊢
            exact pick_to rfl k
          · have h' : (codeOk n && loopOk n) = false := h
            rw [h'] at k ⊢
            exact pick_to rfl k
        · intro J hJ
          refine guard_split (fun h => ?_) (fun h => ?_)
          · refine hJ _ _ ⟨_, rfl, rfl, ?_⟩
            rw [h]
            rfl
          · have h' : codeOk n = false := h
            refine hJ _ _ ⟨_, rfl, rfl, ?_⟩
            rw [h']
            rfl
      · intro J hJ
        have hJ : ∀ c : Bool, freeOk n = c → J [.bool c] w := fun c h => hJ _ _ ⟨by rw [h], rfl⟩
        unfold freeOk at hJ
        (repeat with_reducible (first | refine Red.to ?_ | (refine is_rload ?_; (first | refine rv_load H rfl ?_ | refine rv_load H.up1 rfl ?_ | refine rv_load H.up2 rfl ?_ | refine rv_load H.up3 rfl ?_ | refine rv_load H.up4 rfl ?_))))
        cases h8 : (n.kd == 8) with
        | true =>
          have e8 : n.kd = 8 := by simpa using h8
          have hJ := hJ true (by simp [e8])
          (repeat (first | (with_reducible (first | refine Red.to ?_ | (refine is_rload ?_; (first | refine rv_load H rfl ?_ | refine rv_load H.up1 rfl ?_ | refine rv_load H.up2 rfl ?_ | refine rv_load H.up3 rfl ?_ | refine rv_load H.up4 rfl ?_)) | (refine is_tload ?_; (first | refine tk_load (fun _ H => H) rfl ?_ | refine tk_load (fun _ H => H.up1) rfl ?_ | refine tk_load (fun _ H => H.up2) rfl ?_ | refine tk_load (fun _ H => H.up3) rfl ?_)))) | (refine Share.mk ?_) | (intro _) | (simp only [List.getD_cons_zero, List.getD_cons_succ])))
          exact hJ
        | false =>
          have e8 : ¬ n.kd = 8 := by simpa using h8
          (repeat (first | (with_reducible (first | refine Red.to ?_ | (refine is_rload ?_; (first | refine rv_load H rfl ?_ | refine rv_load H.up1 rfl ?_ | refine rv_load H.up2 rfl ?_ | refine rv_load H.up3 rfl ?_ | refine rv_load H.up4 rfl ?_)) | (refine is_tload ?_; (first | refine tk_load (fun _ H => H) rfl ?_ | refine tk_load (fun _ H => H.up1) rfl ?_ | refine tk_load (fun _ H => H.up2) rfl ?_ | refine tk_load (fun _ H => H.up3) rfl ?_)))) | (refine Share.mk ?_) | (intro _) | (simp only [List.getD_cons_zero, List.getD_cons_succ])))
          refine rv_len_rd0 R.2 ?_
          (repeat (first | (with_reducible (first | refine Red.to ?_ | (refine is_rload ?_; (first | refine rv_load H rfl ?_ | refine rv_load H.up1 rfl ?_ | refine rv_load H.up2 rfl ?_ | refine rv_load H.up3 rfl ?_ | refine rv_load H.up4 rfl ?_)) | (refine is_tload ?_; (first | refine tk_load (fun _ H => H) rfl ?_ | refine tk_load (fun _ H => H.up1) rfl ?_ | refine tk_load (fun _ H => H.up2) rfl ?_ | refine tk_load (fun _ H => H.up3) rfl ?_)))) | (refine Share.mk ?_) | (intro _) | (simp only [List.getD_cons_zero, List.getD_cons_succ, nat_eq0])))
          cases hl : decide (n.conns.length = 0) with
          | true =>
            have hJ := hJ (!n.st) (by simp [e8, of_decide_eq_true hl])
            (repeat (first | (with_reducible (first | refine Red.to ?_ | (refine is_rload ?_; (first | refine rv_load H rfl ?_ | refine rv_load H.up1 rfl ?_ | refine rv_load H.up2 rfl ?_ | refine rv_load H.up3 rfl ?_ | refine rv_load H.up4 rfl ?_)) | (refine is_tload ?_; (first | refine tk_load (fun _ H => H) rfl ?_ | refine tk_load (fun _ H => H.up1) rfl ?_ | refine tk_load (fun _ H => H.up2) rfl ?_ | refine tk_load (fun _ H => H.up3) rfl ?_)))) | (refine Share.mk ?_) | (intro _) | (simp only [List.getD_cons_zero, List.getD_cons_succ])))
            exact hJ
          | false =>
            have hJ := hJ false (by rw [hl]; simp [e8])
            (repeat (first | (with_reducible (first | refine Red.to ?_ | (refine is_rload ?_; (first | refine rv_load H rfl ?_ | refine rv_load H.up1 rfl ?_ | refine rv_load H.up2 rfl ?_ | refine rv_load H.up3 rfl ?_ | refine rv_load H.up4 rfl ?_)) | (refine is_tload ?_; (first | refine tk_load (fun _ H => H) rfl ?_ | refine tk_load (fun _ H => H.up1) rfl ?_ | refine tk_load (fun _ H => H.up2) rfl ?_ | refine tk_load (fun _ H => H.up3) rfl ?_)))) | (refine Share.mk ?_) | (intro _) | (simp only [List.getD_cons_zero, List.getD_cons_succ])))
            exact hJ
    · intro J hJ
      have hJ : ∀ c : Bool, loopOk n = c → J [.bool c] w := fun c h => hJ _ _ ⟨by rw [h], rfl⟩
      unfold loopOk at hJ
      (repeat with_reducible (first | refine Red.to ?_ | (refine is_rload ?_; (first | refine rv_load H rfl ?_ | refine rv_load H.up1 rfl ?_ | refine rv_load H.up2 rfl ?_ | refine rv_load H.up3 rfl ?_ | refine rv_load H.up4 rfl ?_))))
      cases h5 : (n.kd == 5) with
      | true =>
        have e5 : n.kd = 5 := by simpa using h5
        have hJ := hJ true (by simp [e5])
        (repeat (first | (with_reducible (first | refine Red.to ?_ | (refine is_rload ?_; (first | refine rv_load H rfl ?_ | refine rv_load H.up1 rfl ?_ | refine rv_load H.up2 rfl ?_ | refine rv_load H.up3 rfl ?_ | refine rv_load H.up4 rfl ?_)) | (refine is_tload ?_; (first | refine tk_load (fun _ H => H) rfl ?_ | refine tk_load (fun _ H => H.up1) rfl ?_ | refine tk_load (fun _ H => H.up2) rfl ?_ | refine tk_load (fun _ H => H.up3) rfl ?_)))) | (refine Share.mk ?_) | (intro _) | (simp only [List.getD_cons_zero, List.getD_cons_succ])))
        exact hJ
      | false =>
        have e5 : ¬ n.kd = 5 := by simpa using h5
        (repeat (first | (with_reducible (first | refine Red.to ?_ | (refine is_rload ?_; (first | refine rv_load H rfl ?_ | refine rv_load H.up1 rfl ?_ | refine rv_load H.up2 rfl ?_ | refine rv_load H.up3 rfl ?_ | refine rv_load H.up4 rfl ?_)) | (refine is_tload ?_; (first | refine tk_load (fun _ H => H) rfl ?_ | refine tk_load (fun _ H => H.up1) rfl ?_ | refine tk_load (fun _ H => H.up2) rfl ?_ | refine tk_load (fun _ H => H.up3) rfl ?_)))) | (refine Share.mk ?_) | (intro _) | (simp only [List.getD_cons_zero, List.getD_cons_succ])))
        refine rv_loada H rfl rfl ?_
        refine rv (v := .agg #[.int .u64 0, .int .u64 0, .int .u64 0]) (w' := w) (by kernel_rfl) ?_
        refine rv (run_eqa (b := ((n.a : Int) == 0) && (((n.b : Int) == 0) && (((n.c : Int) == 0) && true))) (by kernel_rfl) (by kernel_rfl)) ?_
        have ea : (((n.a : Int) == 0) && (((n.b : Int) == 0) && (((n.c : Int) == 0) && true))) = decide (n.a = 0 ∧ n.b = 0 ∧ n.c = 0) := by rw [Bool.eq_iff_iff]; simp
        rw [ea]
        cases hp : decide (n.a = 0 ∧ n.b = 0 ∧ n.c = 0) with
        | false =>
          have hJ := hJ false (by rw [hp]; simp [e5])
          (repeat (first | (with_reducible (first | refine Red.to ?_ | (refine is_rload ?_; (first | refine rv_load H rfl ?_ | refine rv_load H.up1 rfl ?_ | refine rv_load H.up2 rfl ?_ | refine rv_load H.up3 rfl ?_ | refine rv_load H.up4 rfl ?_)) | (refine is_tload ?_; (first | refine tk_load (fun _ H => H) rfl ?_ | refine tk_load (fun _ H => H.up1) rfl ?_ | refine tk_load (fun _ H => H.up2) rfl ?_ | refine tk_load (fun _ H => H.up3) rfl ?_)))) | (refine Share.mk ?_) | (intro _) | (simp only [List.getD_cons_zero, List.getD_cons_succ])))
          exact hJ
        | true =>
          have hJ := hJ (decide (n.bd = 0)) (by rw [hp]; simp [e5])
          (repeat (first | (with_reducible (first | refine Red.to ?_ | (refine is_rload ?_; (first | refine rv_load H rfl ?_ | refine rv_load H.up1 rfl ?_ | refine rv_load H.up2 rfl ?_ | refine rv_load H.up3 rfl ?_ | refine rv_load H.up4 rfl ?_)) | (refine is_tload ?_; (first | refine tk_load (fun _ H => H) rfl ?_ | refine tk_load (fun _ H => H.up1) rfl ?_ | refine tk_load (fun _ H => H.up2) rfl ?_ | refine tk_load (fun _ H => H.up3) rfl ?_)))) | (refine Share.mk ?_) | (intro _) | (simp only [List.getD_cons_zero, List.getD_cons_succ, nat_eq0])))
          exact hJ
  · intro J hJ
    have hJ : ∀ c : Bool, codeOk n = c → J [.bool c] w1 := fun c h => hJ _ _ ⟨by rw [h], rfl⟩
    unfold codeOk at hJ
    (repeat with_reducible (first | refine Red.to ?_ | (refine is_rload ?_; (first | refine rv_load H rfl ?_ | refine rv_load H.up1 rfl ?_ | refine rv_load H.up2 rfl ?_ | refine rv_load H.up3 rfl ?_ | refine rv_load H.up4 rfl ?_))))
    cases h2 : (n.kd == 2) with
    | true =>
      have e2 : n.kd = 2 := by simpa using h2
      have hJ := hJ true (by simp [e2])
      (repeat (first | (with_reducible (first | refine Red.to ?_ | (refine is_rload ?_; (first | refine rv_load H rfl ?_ | refine rv_load H.up1 rfl ?_ | refine rv_load H.up2 rfl ?_ | refine rv_load H.up3 rfl ?_ | refine rv_load H.up4 rfl ?_)) | (refine is_tload ?_; (first | refine tk_load (fun _ H => H) rfl ?_ | refine tk_load (fun _ H => H.up1) rfl ?_ | refine tk_load (fun _ H => H.up2) rfl ?_ | refine tk_load (fun _ H => H.up3) rfl ?_)))) | (refine Share.mk ?_) | (intro _) | (simp only [List.getD_cons_zero, List.getD_cons_succ])))
      exact hJ
    | false =>
      have e2 : ¬ n.kd = 2 := by simpa using h2
      (repeat (first | (with_reducible (first | refine Red.to ?_ | (refine is_rload ?_; (first | refine rv_load H rfl ?_ | refine rv_load H.up1 rfl ?_ | refine rv_load H.up2 rfl ?_ | refine rv_load H.up3 rfl ?_ | refine rv_load H.up4 rfl ?_)) | (refine is_tload ?_; (first | refine tk_load (fun _ H => H) rfl ?_ | refine tk_load (fun _ H => H.up1) rfl ?_ | refine tk_load (fun _ H => H.up2) rfl ?_ | refine tk_load (fun _ H => H.up3) rfl ?_)))) | (refine Share.mk ?_) | (intro _) | (simp only [List.getD_cons_zero, List.getD_cons_succ])))
      cases h3 : (n.kd == 3) with
      | true =>
        have e3 : n.kd = 3 := by simpa using h3
        have hJ := hJ true (by simp [e3])
        (repeat (first | (with_reducible (first | refine Red.to ?_ | (refine is_rload ?_; (first | refine rv_load H rfl ?_ | refine rv_load H.up1 rfl ?_ | refine rv_load H.up2 rfl ?_ | refine rv_load H.up3 rfl ?_ | refine rv_load H.up4 rfl ?_)) | (refine is_tload ?_; (first | refine tk_load (fun _ H => H) rfl ?_ | refine tk_load (fun _ H => H.up1) rfl ?_ | refine tk_load (fun _ H => H.up2) rfl ?_ | refine tk_load (fun _ H => H.up3) rfl ?_)))) | (refine Share.mk ?_) | (intro _) | (simp only [List.getD_cons_zero, List.getD_cons_succ])))
        exact hJ
      | false =>
        have e3 : ¬ n.kd = 3 := by simpa using h3
        have hJ := hJ (decide (n.code.length = 0)) (by simp [e2, e3])
        (repeat (first | (with_reducible (first | refine Red.to ?_ | (refine is_rload ?_; (first | refine rv_load H rfl ?_ | refine rv_load H.up1 rfl ?_ | refine rv_load H.up2 rfl ?_ | refine rv_load H.up3 rfl ?_ | refine rv_load H.up4 rfl ?_)) | (refine is_tload ?_; (first | refine tk_load (fun _ H => H) rfl ?_ | refine tk_load (fun _ H => H.up1) rfl ?_ | refine tk_load (fun _ H => H.up2) rfl ?_ | refine tk_load (fun _ H => H.up3) rfl ?_)))) | (refine Share.mk ?_) | (intro _) | (simp only [List.getD_cons_zero, List.getD_cons_succ])))
        refine rv_len_rd0 R.1 ?_
        (repeat (first | (with_reducible (first | refine Red.to ?_ | (refine is_rload ?_; (first | refine rv_load H rfl ?_ | refine rv_load H.up1 rfl ?_ | refine rv_load H.up2 rfl ?_ | refine rv_load H.up3 rfl ?_ | refine rv_load H.up4 rfl ?_)) | (refine is_tload ?_; (first | refine tk_load (fun _ H => H) rfl ?_ | refine tk_load (fun _ H => H.up1) rfl ?_ | refine tk_load (fun _ H => H.up2) rfl ?_ | refine tk_load (fun _ H => H.up3) rfl ?_)))) | (refine Share.mk ?_) | (intro _) | (simp only [List.getD_cons_zero, List.getD_cons_succ, nat_eq0])))
        exact hJ
def preN (n : NodeV) : List Nat :=
  n.kd.toNat ::
    (if n.kd = 2 ∨ n.kd = 3 then n.code.length :: n.code.flatMap opN
     else if n.kd = 5 then [n.bd, n.a, n.b, n.c]
     else if n.kd = 8 then boolN n.st :: n.conns.length :: (n.conns.flatMap connN ++ [n.outs.toNat])
     else [])
theorem nodeN_pre (n : NodeV) : nodeN n = preN n ++ (if n.kd = 8 ∨ n.kd = 4 then [n.ins.toNat] else []) := by
  unfold nodeN preN
  by_cases h2 : n.kd = 2 ∨ n.kd = 3
  · rw [if_pos h2, if_pos h2, if_neg (by omega), List.append_nil]
  · rw [if_neg h2, if_neg h2]
    by_cases h5 : n.kd = 5
    · rw [if_pos h5, if_pos h5, if_neg (by omega), List.append_nil]
    · rw [if_neg h5, if_neg h5]
      by_cases h8 : n.kd = 8
      · rw [if_pos h8, if_pos h8, if_pos (.inl h8)]
        simp
      · rw [if_neg h8, if_neg h8]
        by_cases h4 : n.kd = 4
        · rw [if_pos h4, if_pos (.inr h4)]
          rfl
        · rw [if_neg h4, if_neg (by omega), List.append_nil]
theorem pre_len {n : NodeV} (hg : n.good) : (fb (preN n)).length ≤ 850 := by
  have h := nodeN_small hg
  have h2 := fb_len h.1
  rw [nodeN_pre, fb_append, List.length_append] at h2
  have h3 := h.2
  rw [nodeN_pre] at h3
  simp only [List.length_append] at h2 h3
  omega
theorem toU {x : Int} (h0 : 0 ≤ x) (h1 : x < 9223372036854775808) : IntKind.u64.wrap x = ((x.toNat : Nat) : Int) := by
  rw [u64_wrap]; omega
theorem bare_facts {n : NodeV} (h : bareB n = true) : (¬ (n.kd = 2 ∨ n.kd = 3) → n.code = []) ∧ (n.kd ≠ 8 → n.conns = []) := by
  rw [bareB_eq] at h
  simp only [Bool.and_eq_true, codeOk, freeOk, Bool.or_eq_true, decide_eq_true_eq] at h
  refine ⟨fun h2 => ?_, fun h8 => ?_⟩
  · rcases h.1.1 with h3 | h3
    · exact absurd h3 h2
    · exact List.eq_nil_of_length_eq_zero h3
  · rcases h.2 with h3 | h3
    · exact absurd h3 h8
    · exact List.eq_nil_of_length_eq_zero h3.1
theorem ports_facts {n : NodeV} (h : portsB n = true) : 0 ≤ n.ins ∧ 0 ≤ n.outs := by
  unfold portsB at h
  simp only [Bool.and_eq_true, Bool.not_eq_true', Bool.or_eq_false_iff, decide_eq_false_iff_not] at h
  omega
theorem bor {a b c d : Bool} (h1 : a = c) (h2 : b = d) : (a || b) = (c || d) := by rw [h1, h2]
theorem rnode_spec {n : NodeV} (hok : n.ok) (R : NKn W L n) (H : St W w L) (k : nodeE n = 0 → ∀ y w', St W w' (Bs y (fb (nodeN n)) :: L) → K (.tuple #[y, .int .i64 0]) w')
    (kx : nodeE n ≠ 0 → ∀ w', St W w' L → K (.tuple #[.slice none 0 0, .int .i64 (nodeE n)]) w') : FCall Try.prog Fn.sluiceref08_node #[.agg n.cs.toArray] w K X := by
  refine sluiceref08_node_call ?_
  unfold Sh.sluiceref08_node
  refine rv_box (c := n.cs) H rfl ?_
  clear H
  intro b w1 H
  unfold NodeV.cs at H
  have Rt := (R.tail (A := cells b 59 [.int .i64 n.kd, .int .i64 n.ins, .int .i64 n.outs, n.cv, .int .u64 n.a, .int .u64 n.b, .int .u64 n.c, .int .u64 n.bd, n.kv, .bool n.st]))
  have hok' := hok
  unfold NodeV.ok i64r at hok'
  have bad : ∀ {e : Nat} {w : World}, nodeE n = e → e ≠ 0 → St W w (cells b 59 [.int .i64 n.kd, .int .i64 n.ins, .int .i64 n.outs, n.cv, .int .u64 n.a, .int .u64 n.b, .int .u64 n.c, .int .u64 n.bd, n.kv, .bool n.st] :: L) → K (.tuple #[.slice none 0 0, .int .i64 (e : Nat)]) w := by
    intro e w he h0 H
    have := kx (by rw [he]; exact h0) w H.drop
    rw [he] at this
    exact this
  refine share_of (fun vs w => vs = [.bool (decide (¬ (1 ≤ n.kd ∧ n.kd ≤ 8)))] ∧ w = w1) ?_ ?_
  rotate_left
  · intro J hJ
    have hJ : ∀ c : Bool, decide (¬ (1 ≤ n.kd ∧ n.kd ≤ 8)) = c → J [.bool c] w1 := fun c h => hJ _ _ ⟨by rw [h], rfl⟩
    (repeat with_reducible (first | refine Red.to ?_ | (refine is_rload ?_; (first | refine rv_load H rfl ?_ | refine rv_load H.up1 rfl ?_ | refine rv_load H.up2 rfl ?_ | refine rv_load H.up3 rfl ?_ | refine rv_load H.up4 rfl ?_))))
    cases h1 : decide (n.kd < 1) with
    | true =>
      have e1 := of_decide_eq_true h1
      have hJ := hJ true (decide_eq_true (by omega))
      (repeat (first | (with_reducible (first | refine Red.to ?_ | (refine is_rload ?_; (first | refine rv_load H rfl ?_ | refine rv_load H.up1 rfl ?_ | refine rv_load H.up2 rfl ?_ | refine rv_load H.up3 rfl ?_ | refine rv_load H.up4 rfl ?_)) | (refine is_tload ?_; (first | refine tk_load (fun _ H => H) rfl ?_ | refine tk_load (fun _ H => H.up1) rfl ?_ | refine tk_load (fun _ H => H.up2) rfl ?_ | refine tk_load (fun _ H => H.up3) rfl ?_)))) | (refine Share.mk ?_) | (intro _) | (simp only [List.getD_cons_zero, List.getD_cons_succ])))
      exact hJ
    | false =>
      have e1 := of_decide_eq_false h1
      have hJ := hJ (decide (8 < n.kd)) (by rw [Bool.eq_iff_iff]; simp; omega)
      (repeat (first | (with_reducible (first | refine Red.to ?_ | (refine is_rload ?_; (first | refine rv_load H rfl ?_ | refine rv_load H.up1 rfl ?_ | refine rv_load H.up2 rfl ?_ | refine rv_load H.up3 rfl ?_ | refine rv_load H.up4 rfl ?_)) | (refine is_tload ?_; (first | refine tk_load (fun _ H => H) rfl ?_ | refine tk_load (fun _ H => H.up1) rfl ?_ | refine tk_load (fun _ H => H.up2) rfl ?_ | refine tk_load (fun _ H => H.up3) rfl ?_)))) | (refine Share.mk ?_) | (intro _) | (simp only [List.getD_cons_zero, List.getD_cons_succ])))
      exact hJ
  rintro vs w ⟨rfl, rfl⟩ σ
  simp only [List.getD_cons_zero]
  refine cond_split (fun h => ?_) (fun h => ?_)
  · refine bad (e := 20) ?_ (by decide) H
    unfold nodeE
    rw [if_pos (of_decide_eq_true h)]
  have hk := of_decide_eq_false h
  have hk' : 1 ≤ n.kd ∧ n.kd ≤ 8 := by omega
  refine rv_loada H rfl rfl ?_
  refine rports_spec (n := n) H ?_
  clear H
  intro w2 H
  (repeat with_reducible (first | refine Red.to ?_ | (refine is_rload ?_; (first | refine rv_load H rfl ?_ | refine rv_load H.up1 rfl ?_ | refine rv_load H.up2 rfl ?_ | refine rv_load H.up3 rfl ?_ | refine rv_load H.up4 rfl ?_))))
  refine cond_split (fun h => ?_) (fun h => ?_)
  · have hp : portsB n = false := by simpa using h
    refine bad (e := 21) ?_ (by decide) H
    unfold nodeE
    rw [if_neg hk, if_pos hp]
  have hp : portsB n = true := by simpa using h
  refine rv_loada H rfl rfl ?_
  refine rbare_spec (n := n) H Rt ?_
  clear H
  intro w3 H
  (repeat with_reducible (first | refine Red.to ?_ | (refine is_rload ?_; (first | refine rv_load H rfl ?_ | refine rv_load H.up1 rfl ?_ | refine rv_load H.up2 rfl ?_ | refine rv_load H.up3 rfl ?_ | refine rv_load H.up4 rfl ?_))))
  refine cond_split (fun h => ?_) (fun h => ?_)
  · have hb : bareB n = false := by simpa using h
    refine bad (e := 22) ?_ (by decide) H
    unfold nodeE
    rw [if_neg hk, if_neg (by simp [hp]), if_pos hb]
  have hb : bareB n = true := by simpa using h
  obtain ⟨bc1, bc2⟩ := bare_facts hb
  obtain ⟨bp1, bp2⟩ := ports_facts hp
  refine share_of (fun vs w => vs = [.bool (decide (¬ (n.code.length ≤ 16 ∧ n.conns.length ≤ 16)))] ∧ w = w3) ?_ ?_
  rotate_left
  · intro J hJ
    have hJ : ∀ c : Bool, decide (¬ (n.code.length ≤ 16 ∧ n.conns.length ≤ 16)) = c → J [.bool c] w3 := fun c h => hJ _ _ ⟨by rw [h], rfl⟩
    (repeat with_reducible (first | refine Red.to ?_ | (refine is_rload ?_; (first | refine rv_load H rfl ?_ | refine rv_load H.up1 rfl ?_ | refine rv_load H.up2 rfl ?_ | refine rv_load H.up3 rfl ?_ | refine rv_load H.up4 rfl ?_))))
    refine rv_len_rd0 (Rt _ H).1 ?_
    (repeat with_reducible (first | refine Red.to ?_ | (refine is_rload ?_; (first | refine rv_load H rfl ?_ | refine rv_load H.up1 rfl ?_ | refine rv_load H.up2 rfl ?_ | refine rv_load H.up3 rfl ?_ | refine rv_load H.up4 rfl ?_))))
    cases h1 : decide ((16 : Int) < (n.code.length : Int)) with
    | true =>
      have e1 := of_decide_eq_true h1
      have hJ := hJ true (decide_eq_true (by omega))
      (repeat (first | (with_reducible (first | refine Red.to ?_ | (refine is_rload ?_; (first | refine rv_load H rfl ?_ | refine rv_load H.up1 rfl ?_ | refine rv_load H.up2 rfl ?_ | refine rv_load H.up3 rfl ?_ | refine rv_load H.up4 rfl ?_)) | (refine is_tload ?_; (first | refine tk_load (fun _ H => H) rfl ?_ | refine tk_load (fun _ H => H.up1) rfl ?_ | refine tk_load (fun _ H => H.up2) rfl ?_ | refine tk_load (fun _ H => H.up3) rfl ?_)))) | (refine Share.mk ?_) | (intro _) | (simp only [List.getD_cons_zero, List.getD_cons_succ])))
      exact hJ
    | false =>
      have e1 := of_decide_eq_false h1
      have hJ := hJ (decide ((16 : Int) < (n.conns.length : Int))) (by rw [Bool.eq_iff_iff]; simp; omega)
      (repeat (first | (with_reducible (first | refine Red.to ?_ | (refine is_rload ?_; (first | refine rv_load H rfl ?_ | refine rv_load H.up1 rfl ?_ | refine rv_load H.up2 rfl ?_ | refine rv_load H.up3 rfl ?_ | refine rv_load H.up4 rfl ?_)) | (refine is_tload ?_; (first | refine tk_load (fun _ H => H) rfl ?_ | refine tk_load (fun _ H => H.up1) rfl ?_ | refine tk_load (fun _ H => H.up2) rfl ?_ | refine tk_load (fun _ H => H.up3) rfl ?_)))) | (refine Share.mk ?_) | (intro _) | (simp only [List.getD_cons_zero, List.getD_cons_succ])))
      refine rv_len_rd0 (Rt _ H).2 ?_
      (repeat (first | (with_reducible (first | refine Red.to ?_ | (refine is_rload ?_; (first | refine rv_load H rfl ?_ | refine rv_load H.up1 rfl ?_ | refine rv_load H.up2 rfl ?_ | refine rv_load H.up3 rfl ?_ | refine rv_load H.up4 rfl ?_)) | (refine is_tload ?_; (first | refine tk_load (fun _ H => H) rfl ?_ | refine tk_load (fun _ H => H.up1) rfl ?_ | refine tk_load (fun _ H => H.up2) rfl ?_ | refine tk_load (fun _ H => H.up3) rfl ?_)))) | (refine Share.mk ?_) | (intro _) | (simp only [List.getD_cons_zero, List.getD_cons_succ])))
      exact hJ
  rintro vs w ⟨rfl, rfl⟩ σ
  simp only [List.getD_cons_zero]
  refine cond_split (fun h => ?_) (fun h => ?_)
  · refine bad (e := 2) ?_ (by decide) H
    unfold nodeE
    rw [if_neg hk, if_neg (by simp [hp]), if_neg (by simp [hb]), if_pos (of_decide_eq_true h)]
  have hl := of_decide_eq_false h
  have hl' : n.code.length ≤ 16 ∧ n.conns.length ≤ 16 := by omega
  have eE : nodeE n = if n.code.any (fun o => decide (o.kd < 0)) then 24 else if n.conns.any (fun o => decide (o.i < 0 ∨ o.o < 0)) then 23 else 0 := by
    unfold nodeE; rw [if_neg hk, if_neg (by simp [hp]), if_neg (by simp [hb]), if_neg hl]
  (repeat with_reducible (first | refine Red.to ?_ | (refine is_rload ?_; (first | refine rv_load H rfl ?_ | refine rv_load H.up1 rfl ?_ | refine rv_load H.up2 rfl ?_ | refine rv_load H.up3 rfl ?_ | refine rv_load H.up4 rfl ?_))))
  rw [toU (by omega) (by omega)]
  refine rnum_spec _ H (by omega) ?_
  clear H
  intro y w4 H
  have hform : form n.kd.toNat = fb [n.kd.toNat] := (fb_one _).symm
  rw [hform] at H
  have f1 := fb1_len (n := n.kd.toNat) (by omega)
  refine share_of (fun vs w => ∃ v, vs = [v] ∧ nodeE n = 0 ∧ St W w (Bs v (fb (preN n)) :: cells b 59 [.int .i64 n.kd, .int .i64 n.ins, .int .i64 n.outs, n.cv, .int .u64 n.a, .int .u64 n.b, .int .u64 n.c, .int .u64 n.bd, n.kv, .bool n.st] :: L)) ?_ ?_
  · clear H
    rintro vs w ⟨v, rfl, hE, H⟩ σ
    simp only [List.getD_cons_zero]
    have k := k hE
    have fp := pre_len ⟨hok, hE⟩
    rw [nodeN_pre] at k
    refine share_of (fun vs w' => vs = [.bool (decide (n.kd = 8 ∨ n.kd = 4))] ∧ w' = w) ?_ ?_
    rotate_left
    · intro J hJ
      have hJ : ∀ c : Bool, decide (n.kd = 8 ∨ n.kd = 4) = c → J [.bool c] w := fun c h => hJ _ _ ⟨by rw [h], rfl⟩
      have H := H.up1
      (repeat with_reducible (first | refine Red.to ?_ | (refine is_rload ?_; (first | refine rv_load H rfl ?_ | refine rv_load H.up1 rfl ?_ | refine rv_load H.up2 rfl ?_ | refine rv_load H.up3 rfl ?_ | refine rv_load H.up4 rfl ?_))))
      cases h1 : (n.kd == 8) with
      | true =>
        have e1 : n.kd = 8 := by simpa using h1
        have hJ := hJ true (decide_eq_true (by omega))
        (repeat (first | (with_reducible (first | refine Red.to ?_ | (refine is_rload ?_; (first | refine rv_load H rfl ?_ | refine rv_load H.up1 rfl ?_ | refine rv_load H.up2 rfl ?_ | refine rv_load H.up3 rfl ?_ | refine rv_load H.up4 rfl ?_)) | (refine is_tload ?_; (first | refine tk_load (fun _ H => H) rfl ?_ | refine tk_load (fun _ H => H.up1) rfl ?_ | refine tk_load (fun _ H => H.up2) rfl ?_ | refine tk_load (fun _ H => H.up3) rfl ?_)))) | (refine Share.mk ?_) | (intro _) | (simp only [List.getD_cons_zero, List.getD_cons_succ])))
        exact hJ
      | false =>
        have e1 : ¬ n.kd = 8 := by simpa using h1
        have hJ := hJ (n.kd == 4) (by rw [Bool.eq_iff_iff]; simp; omega)
        (repeat (first | (with_reducible (first | refine Red.to ?_ | (refine is_rload ?_; (first | refine rv_load H rfl ?_ | refine rv_load H.up1 rfl ?_ | refine rv_load H.up2 rfl ?_ | refine rv_load H.up3 rfl ?_ | refine rv_load H.up4 rfl ?_)) | (refine is_tload ?_; (first | refine tk_load (fun _ H => H) rfl ?_ | refine tk_load (fun _ H => H.up1) rfl ?_ | refine tk_load (fun _ H => H.up2) rfl ?_ | refine tk_load (fun _ H => H.up3) rfl ?_)))) | (refine Share.mk ?_) | (intro _) | (simp only [List.getD_cons_zero, List.getD_cons_succ])))
        exact hJ
    rintro vs w ⟨rfl, rfl⟩ σ
    simp only [List.getD_cons_zero]
    refine cond_split (fun h => ?_) (fun h => ?_)
    · rw [if_pos (of_decide_eq_true h)] at k
      (repeat with_reducible (first | refine Red.to ?_ | (refine is_rload ?_; (first | refine rv_load H rfl ?_ | refine rv_load H.up1 rfl ?_ | refine rv_load H.up2 rfl ?_ | refine rv_load H.up3 rfl ?_ | refine rv_load H.up4 rfl ?_))))
      rw [toU (by omega) (by omega)]
      refine numB H (by omega) (by omega) ?_
      clear H
      intro y w5 H
      refine k _ _ ?_
      rw [fb_append, fb_one]
      exact H.up1.drop
    · rw [if_neg (of_decide_eq_false h), List.append_nil] at k
      refine k _ _ ?_
      exact H.up1.drop
  intro J hJ
  replace hJ : ∀ v w, nodeE n = 0 → St W w (Bs v (fb (preN n)) :: cells b 59 [.int .i64 n.kd, .int .i64 n.ins, .int .i64 n.outs, n.cv, .int .u64 n.a, .int .u64 n.b, .int .u64 n.c, .int .u64 n.bd, n.kv, .bool n.st] :: L) → J [v] w := fun v w h1 h2 => hJ _ _ ⟨v, rfl, h1, h2⟩
  unfold preN at hJ
  (repeat with_reducible (first | refine Red.to ?_ | (refine is_rload ?_; (first | refine rv_load H rfl ?_ | refine rv_load H.up1 rfl ?_ | refine rv_load H.up2 rfl ?_ | refine rv_load H.up3 rfl ?_ | refine rv_load H.up4 rfl ?_))))
  refine share_of (fun vs w' => vs = [.bool (decide (n.kd = 2 ∨ n.kd = 3))] ∧ w' = w4) ?_ ?_
  rotate_left
  · intro J hJ
    have hJ : ∀ c : Bool, decide (n.kd = 2 ∨ n.kd = 3) = c → J [.bool c] w4 := fun c h => hJ _ _ ⟨by rw [h], rfl⟩
    (repeat with_reducible (first | refine Red.to ?_ | (refine is_rload ?_; (first | refine rv_load H rfl ?_ | refine rv_load H.up1 rfl ?_ | refine rv_load H.up2 rfl ?_ | refine rv_load H.up3 rfl ?_ | refine rv_load H.up4 rfl ?_))))
    cases h1 : (n.kd == 2) with
    | true =>
      have e1 : n.kd = 2 := by simpa using h1
      have hJ := hJ true (decide_eq_true (by omega))
      (repeat (first | (with_reducible (first | refine Red.to ?_ | (refine is_rload ?_; (first | refine rv_load H rfl ?_ | refine rv_load H.up1 rfl ?_ | refine rv_load H.up2 rfl ?_ | refine rv_load H.up3 rfl ?_ | refine rv_load H.up4 rfl ?_)) | (refine is_tload ?_; (first | refine tk_load (fun _ H => H) rfl ?_ | refine tk_load (fun _ H => H.up1) rfl ?_ | refine tk_load (fun _ H => H.up2) rfl ?_ | refine tk_load (fun _ H => H.up3) rfl ?_)))) | (refine Share.mk ?_) | (intro _) | (simp only [List.getD_cons_zero, List.getD_cons_succ])))
      exact hJ
    | false =>
      have e1 : ¬ n.kd = 2 := by simpa using h1
      have hJ := hJ (n.kd == 3) (by rw [Bool.eq_iff_iff]; simp; omega)
      (repeat (first | (with_reducible (first | refine Red.to ?_ | (refine is_rload ?_; (first | refine rv_load H rfl ?_ | refine rv_load H.up1 rfl ?_ | refine rv_load H.up2 rfl ?_ | refine rv_load H.up3 rfl ?_ | refine rv_load H.up4 rfl ?_)) | (refine is_tload ?_; (first | refine tk_load (fun _ H => H) rfl ?_ | refine tk_load (fun _ H => H.up1) rfl ?_ | refine tk_load (fun _ H => H.up2) rfl ?_ | refine tk_load (fun _ H => H.up3) rfl ?_)))) | (refine Share.mk ?_) | (intro _) | (simp only [List.getD_cons_zero, List.getD_cons_succ])))
      exact hJ
  rintro vs w ⟨rfl, rfl⟩ σ
  simp only [List.getD_cons_zero]
  refine cond_split (fun h => ?_) (fun h => ?_)
  · have h23 := of_decide_eq_true h
    rw [if_pos h23] at hJ
    have hcn := bc2 (by omega)
    rw [hcn] at eE
    simp only [List.any_nil, Bool.false_eq_true, if_false] at eE
    (repeat with_reducible (first | refine Red.to ?_ | (refine is_rload ?_; (first | refine rv_load H rfl ?_ | refine rv_load H.up1 rfl ?_ | refine rv_load H.up2 rfl ?_ | refine rv_load H.up3 rfl ?_ | refine rv_load H.up4 rfl ?_))))
    refine rv_len_rd0 (Rt _ H.drop).1 ?_
    (repeat with_reducible (first | refine Red.to ?_ | (refine is_rload ?_; (first | refine rv_load H rfl ?_ | refine rv_load H.up1 rfl ?_ | refine rv_load H.up2 rfl ?_ | refine rv_load H.up3 rfl ?_ | refine rv_load H.up4 rfl ?_))))
    rw [toU (by omega) (by omega), Int.toNat_natCast]
    refine numB H (by omega) (by omega) ?_
    clear H
    intro y w5 H
    have f2 := form_length10 (v := n.code.length) (by omega)
    have H := H.up1
    (repeat with_reducible (first | refine Red.to ?_ | (refine is_rload ?_; (first | refine rv_load H rfl ?_ | refine rv_load H.up1 rfl ?_ | refine rv_load H.up2 rfl ?_ | refine rv_load H.up3 rfl ?_ | refine rv_load H.up4 rfl ?_))))
    refine rv_len_rd0 (Rt _ H.up1.drop).1 ?_
    refine loop_of (fun vs w => ∃ (i : Nat) (v : Value), vs = [v, .int .i64 i] ∧ i ≤ n.code.length ∧ (n.code.take i).any (fun o => decide (o.kd < 0)) = false ∧ St W w (Bs v (fb (n.kd.toNat :: n.code.length :: (n.code.take i).flatMap opN)) :: cells b 59 [.int .i64 n.kd, .int .i64 n.ins, .int .i64 n.outs, n.cv, .int .u64 n.a, .int .u64 n.b, .int .u64 n.c, .int .u64 n.bd, n.kv, .bool n.st] :: L)) (fun vs _ => match vs with | [_, .int _ i] => n.code.length - i.toNat | _ => 0) ⟨0, y, rfl, by omega, rfl, ?_⟩ ?_
    · have H := H.up1
      have e : fb (n.kd.toNat :: n.code.length :: (n.code.take 0).flatMap opN) = fb [n.kd.toNat] ++ form n.code.length := by simp [fb]
      rw [e]
      exact H
    clear H
    rintro vs w kk ⟨i, v, rfl, hi, hany, H⟩ hkk σ
    simp only [List.getD_cons_zero, List.getD_cons_succ]
    (repeat with_reducible (first | refine Red.to ?_ | (refine is_rload ?_; (first | refine rv_load H rfl ?_ | refine rv_load H.up1 rfl ?_ | refine rv_load H.up2 rfl ?_ | refine rv_load H.up3 rfl ?_ | refine rv_load H.up4 rfl ?_))))
    refine cond_split (fun h => ?_) (fun h => ?_)
    · have hlt : i < n.code.length := by have := of_decide_eq_true h; omega
      obtain ⟨o, ho⟩ : ∃ o, n.code[i]? = some o := ⟨_, List.getElem?_eq_getElem hlt⟩
      have hoo := hok.2.2.2.1 o (List.mem_of_getElem? ho)
      obtain ⟨g, off, cap, hv, hcell⟩ := Kn0.form (fun w h => (Rt w h).1) H.drop (by omega)
      refine rv_row (cs := o.cs) H hv hlt (fun j v hj => hcell w H.drop _ v (fl_get OpD.len _ i j o v ho hj)) (by rfl) (by rfl) o.one ?_
      clear H
      intro b2 w6 H
      unfold OpD.cs at H
      (repeat with_reducible (first | refine Red.to ?_ | (refine is_rload ?_; (first | refine rv_load H rfl ?_ | refine rv_load H.up1 rfl ?_ | refine rv_load H.up2 rfl ?_ | refine rv_load H.up3 rfl ?_ | refine rv_load H.up4 rfl ?_))))
      refine cond_split (fun h => ?_) (fun h => ?_)
      · refine bad (e := 24) ?_ (by decide) H.drop.drop
        rw [eE, if_pos (any_at ho h)]
      have hk0 := of_decide_eq_false h
      unfold OpD.ok i64r at hoo
      have le : (fb (n.kd.toNat :: n.code.length :: (n.code.take i).flatMap opN)).length ≤ 340 := by
        have := fb_ops (l := n.code.take i) (fun o ho => ⟨hok.2.2.2.1 o (List.mem_of_mem_take ho), by
          have := List.any_eq_false.1 hany o ho
          simpa using this⟩) i (by simp; omega)
        rw [List.take_take, Nat.min_self] at this
        have e : fb (n.kd.toNat :: n.code.length :: (n.code.take i).flatMap opN) = fb [n.kd.toNat] ++ form n.code.length ++ fb ((n.code.take i).flatMap opN) := by simp [fb]
        rw [e]
        simp only [List.length_append]
        omega
      (repeat with_reducible (first | refine Red.to ?_ | (refine is_rload ?_; (first | refine rv_load H rfl ?_ | refine rv_load H.up1 rfl ?_ | refine rv_load H.up2 rfl ?_ | refine rv_load H.up3 rfl ?_ | refine rv_load H.up4 rfl ?_))))
      rw [toU (by omega) (by omega)]
      refine numB H.up1 (by omega) (by omega) ?_
      clear H
      intro y2 w7 H
      have f3 := form_length10 (v := o.kd.toNat) (by omega)
      have H := H.up1
      (repeat with_reducible (first | refine Red.to ?_ | (refine is_rload ?_; (first | refine rv_load H rfl ?_ | refine rv_load H.up1 rfl ?_ | refine rv_load H.up2 rfl ?_ | refine rv_load H.up3 rfl ?_ | refine rv_load H.up4 rfl ?_))))
      refine numB H.up1 (by omega) (by simp only [List.length_append]; omega) ?_
      clear H
      intro y3 w8 H
      (repeat with_reducible (first | refine Red.to ?_ | (refine is_rload ?_; (first | refine rv_load H rfl ?_ | refine rv_load H.up1 rfl ?_ | refine rv_load H.up2 rfl ?_ | refine rv_load H.up3 rfl ?_ | refine rv_load H.up4 rfl ?_))))
      rw [i64_small (by omega) (by omega)]
      refine hkk _ _ ⟨i + 1, y3, rfl, by omega, ?_, ?_⟩ (by simp; omega)
      · rw [any_take ho, hany]
        exact h
      · have e : fb (n.kd.toNat :: n.code.length :: (n.code.take (i + 1)).flatMap opN) = fb (n.kd.toNat :: n.code.length :: (n.code.take i).flatMap opN) ++ form o.kd.toNat ++ form o.arg := by
          rw [flatMap_take ho]
          simp [fb, opN]
        rw [e]
        exact H.up1.drop
    · have hi : i = n.code.length := by have := of_decide_eq_false h; omega
      subst hi
      rw [List.take_length] at H hany
      refine hJ _ _ ?_ H
      rw [eE, if_neg (by simpa using hany)]
  have h23 := of_decide_eq_false h
  rw [if_neg h23] at hJ
  have hcc := bc1 h23
  rw [hcc] at eE
  simp only [List.any_nil, Bool.false_eq_true, if_false] at eE
  (repeat with_reducible (first | refine Red.to ?_ | (refine is_rload ?_; (first | refine rv_load H rfl ?_ | refine rv_load H.up1 rfl ?_ | refine rv_load H.up2 rfl ?_ | refine rv_load H.up3 rfl ?_ | refine rv_load H.up4 rfl ?_))))
  refine cond_split (fun h => ?_) (fun h => ?_)
  · have h5 : n.kd = 5 := by simpa using h
    rw [if_pos h5] at hJ
    rw [bc2 (by omega)] at eE
    simp only [List.any_nil, Bool.false_eq_true, if_false] at eE
    have H := H.up1
    (repeat with_reducible (first | refine Red.to ?_ | (refine is_rload ?_; (first | refine rv_load H rfl ?_ | refine rv_load H.up1 rfl ?_ | refine rv_load H.up2 rfl ?_ | refine rv_load H.up3 rfl ?_ | refine rv_load H.up4 rfl ?_))))
    refine numB H.up1 (by omega) (by omega) ?_
    clear H
    intro y2 w6 H
    have f2 := form_length10 (v := n.bd) (by omega)
    (repeat with_reducible (first | refine Red.to ?_ | (refine is_rload ?_; (first | refine rv_load H rfl ?_ | refine rv_load H.up1 rfl ?_ | refine rv_load H.up2 rfl ?_ | refine rv_load H.up3 rfl ?_ | refine rv_load H.up4 rfl ?_))))
    refine rv_loada H.up1 rfl rfl ?_
    refine pathB (a := n.a) (b := n.b) (c := n.c) H (by omega) (by omega) (by omega) (by simp only [List.length_append]; omega) ?_
    clear H
    intro y3 w7 H
    refine hJ _ _ eE ?_
    have e : fb [n.kd.toNat, n.bd, n.a, n.b, n.c] = fb [n.kd.toNat] ++ form n.bd ++ fb [n.a, n.b, n.c] := by simp [fb]
    rw [e]
    exact H
  have h5 : ¬ n.kd = 5 := by simpa using h
  rw [if_neg h5] at hJ
  (repeat with_reducible (first | refine Red.to ?_ | (refine is_rload ?_; (first | refine rv_load H rfl ?_ | refine rv_load H.up1 rfl ?_ | refine rv_load H.up2 rfl ?_ | refine rv_load H.up3 rfl ?_ | refine rv_load H.up4 rfl ?_))))
  refine cond_split (fun h => ?_) (fun h => ?_)
  · have h8 : n.kd = 8 := by simpa using h
    rw [if_pos h8] at hJ
    have H := H.up1
    (repeat with_reducible (first | refine Red.to ?_ | (refine is_rload ?_; (first | refine rv_load H rfl ?_ | refine rv_load H.up1 rfl ?_ | refine rv_load H.up2 rfl ?_ | refine rv_load H.up3 rfl ?_ | refine rv_load H.up4 rfl ?_))))
    refine truthB H.up1 (by omega) ?_
    clear H
    intro y2 w6 H
    have f2 := form_length10 (v := boolN n.st) (by cases n.st <;> decide)
    have H := H.up1
    (repeat with_reducible (first | refine Red.to ?_ | (refine is_rload ?_; (first | refine rv_load H rfl ?_ | refine rv_load H.up1 rfl ?_ | refine rv_load H.up2 rfl ?_ | refine rv_load H.up3 rfl ?_ | refine rv_load H.up4 rfl ?_))))
    refine rv_len_rd0 (Rt _ H.up1.drop).2 ?_
    (repeat with_reducible (first | refine Red.to ?_ | (refine is_rload ?_; (first | refine rv_load H rfl ?_ | refine rv_load H.up1 rfl ?_ | refine rv_load H.up2 rfl ?_ | refine rv_load H.up3 rfl ?_ | refine rv_load H.up4 rfl ?_))))
    rw [toU (by omega) (by omega), Int.toNat_natCast]
    refine numB H.up1 (by omega) (by simp only [List.length_append]; omega) ?_
    clear H
    intro y3 w7 H
    have f3 := form_length10 (v := n.conns.length) (by omega)
    refine share_of (fun vs w => ∃ v, vs = [v] ∧ nodeE n = 0 ∧ St W w (Bs v (fb (n.kd.toNat :: boolN n.st :: n.conns.length :: n.conns.flatMap connN)) :: cells b 59 [.int .i64 n.kd, .int .i64 n.ins, .int .i64 n.outs, n.cv, .int .u64 n.a, .int .u64 n.b, .int .u64 n.c, .int .u64 n.bd, n.kv, .bool n.st] :: L)) ?_ ?_
    · clear H
      rintro vs w ⟨v, rfl, hE, H⟩ σ
      simp only [List.getD_cons_zero, List.getD_cons_succ]
      have fp := pre_len ⟨hok, hE⟩
      unfold preN at fp
      rw [if_neg h23, if_neg h5, if_pos h8] at fp
      have e : fb (n.kd.toNat :: boolN n.st :: n.conns.length :: (n.conns.flatMap connN ++ [n.outs.toNat])) = fb (n.kd.toNat :: boolN n.st :: n.conns.length :: n.conns.flatMap connN) ++ form n.outs.toNat := by simp [fb]
      rw [e] at fp hJ
      rw [List.length_append] at fp
      have H := H.up1
      (repeat with_reducible (first | refine Red.to ?_ | (refine is_rload ?_; (first | refine rv_load H rfl ?_ | refine rv_load H.up1 rfl ?_ | refine rv_load H.up2 rfl ?_ | refine rv_load H.up3 rfl ?_ | refine rv_load H.up4 rfl ?_))))
      rw [toU (by omega) (by omega)]
      refine numB H.up1 (by omega) (by omega) ?_
      clear H
      intro y4 w8 H
      exact hJ _ _ hE H
    intro J2 hJ2
    have H := H.up1
    (repeat with_reducible (first | refine Red.to ?_ | (refine is_rload ?_; (first | refine rv_load H rfl ?_ | refine rv_load H.up1 rfl ?_ | refine rv_load H.up2 rfl ?_ | refine rv_load H.up3 rfl ?_ | refine rv_load H.up4 rfl ?_))))
    refine rv_len_rd0 (Rt _ H.up1.drop).2 ?_
    refine loop_of (fun vs w => ∃ (i : Nat) (v : Value), vs = [v, .int .i64 i] ∧ i ≤ n.conns.length ∧ (n.conns.take i).any (fun o => decide (o.i < 0 ∨ o.o < 0)) = false ∧ St W w (Bs v (fb (n.kd.toNat :: boolN n.st :: n.conns.length :: (n.conns.take i).flatMap connN)) :: cells b 59 [.int .i64 n.kd, .int .i64 n.ins, .int .i64 n.outs, n.cv, .int .u64 n.a, .int .u64 n.b, .int .u64 n.c, .int .u64 n.bd, n.kv, .bool n.st] :: L)) (fun vs _ => match vs with | [_, .int _ i] => n.conns.length - i.toNat | _ => 0) ⟨0, y3, rfl, by omega, rfl, ?_⟩ ?_
    · have H := H.up1
      have e : fb (n.kd.toNat :: boolN n.st :: n.conns.length :: (n.conns.take 0).flatMap connN) = fb [n.kd.toNat] ++ form (boolN n.st) ++ form n.conns.length := by simp [fb]
      rw [e]
      exact H
    clear H
    rintro vs w kk ⟨i, v, rfl, hi, hany, H⟩ hkk σ
    simp only [List.getD_cons_zero, List.getD_cons_succ]
    (repeat with_reducible (first | refine Red.to ?_ | (refine is_rload ?_; (first | refine rv_load H rfl ?_ | refine rv_load H.up1 rfl ?_ | refine rv_load H.up2 rfl ?_ | refine rv_load H.up3 rfl ?_ | refine rv_load H.up4 rfl ?_))))
    refine cond_split (fun h => ?_) (fun h => ?_)
    · have hlt : i < n.conns.length := by have := of_decide_eq_true h; omega
      obtain ⟨o, ho⟩ : ∃ o, n.conns[i]? = some o := ⟨_, List.getElem?_eq_getElem hlt⟩
      have hoo := hok.2.2.2.2.2.2.2.2.1 o (List.mem_of_getElem? ho)
      obtain ⟨g, off, cap, hv, hcell⟩ := Kn0.form (fun w h => (Rt w h).2) H.drop (by omega)
      refine rv_row (cs := o.cs) H hv hlt (fun j v hj => hcell w H.drop _ v (fl_get ConnD.len _ i j o v ho hj)) (by rfl) (by rfl) o.one ?_
      clear H
      intro b2 w8 H
      unfold ConnD.cs at H
      refine share_of (fun vs w' => vs = [.bool (decide (o.i < 0 ∨ o.o < 0))] ∧ w' = w8) ?_ ?_
      rotate_left
      · intro J3 hJ3
        have hJ3 : ∀ c : Bool, decide (o.i < 0 ∨ o.o < 0) = c → J3 [.bool c] w8 := fun c h => hJ3 _ _ ⟨by rw [h], rfl⟩
        (repeat with_reducible (first | refine Red.to ?_ | (refine is_rload ?_; (first | refine rv_load H rfl ?_ | refine rv_load H.up1 rfl ?_ | refine rv_load H.up2 rfl ?_ | refine rv_load H.up3 rfl ?_ | refine rv_load H.up4 rfl ?_))))
        cases h1 : decide (o.i < 0) with
        | true =>
          have e1 := of_decide_eq_true h1
          have hJ3 := hJ3 true (decide_eq_true (by omega))
          (repeat (first | (with_reducible (first | refine Red.to ?_ | (refine is_rload ?_; (first | refine rv_load H rfl ?_ | refine rv_load H.up1 rfl ?_ | refine rv_load H.up2 rfl ?_ | refine rv_load H.up3 rfl ?_ | refine rv_load H.up4 rfl ?_)) | (refine is_tload ?_; (first | refine tk_load (fun _ H => H) rfl ?_ | refine tk_load (fun _ H => H.up1) rfl ?_ | refine tk_load (fun _ H => H.up2) rfl ?_ | refine tk_load (fun _ H => H.up3) rfl ?_)))) | (refine Share.mk ?_) | (intro _) | (simp only [List.getD_cons_zero, List.getD_cons_succ])))
          exact hJ3
        | false =>
          have e1 := of_decide_eq_false h1
          have hJ3 := hJ3 (decide (o.o < 0)) (by rw [Bool.eq_iff_iff]; simp; omega)
          (repeat (first | (with_reducible (first | refine Red.to ?_ | (refine is_rload ?_; (first | refine rv_load H rfl ?_ | refine rv_load H.up1 rfl ?_ | refine rv_load H.up2 rfl ?_ | refine rv_load H.up3 rfl ?_ | refine rv_load H.up4 rfl ?_)) | (refine is_tload ?_; (first | refine tk_load (fun _ H => H) rfl ?_ | refine tk_load (fun _ H => H.up1) rfl ?_ | refine tk_load (fun _ H => H.up2) rfl ?_ | refine tk_load (fun _ H => H.up3) rfl ?_)))) | (refine Share.mk ?_) | (intro _) | (simp only [List.getD_cons_zero, List.getD_cons_succ])))
          exact hJ3
      rintro vs w ⟨rfl, rfl⟩ σ
      simp only [List.getD_cons_zero]
      refine cond_split (fun h => ?_) (fun h => ?_)
      · refine bad (e := 23) ?_ (by decide) H.drop.drop
        rw [eE, if_pos (any_at ho h)]
      have hk0 := of_decide_eq_false h
      unfold ConnD.ok i64r at hoo
      have le : (fb (n.kd.toNat :: boolN n.st :: n.conns.length :: (n.conns.take i).flatMap connN)).length ≤ 830 := by
        have := fb_conns (l := n.conns.take i) (fun o ho => ⟨hok.2.2.2.2.2.2.2.2.1 o (List.mem_of_mem_take ho), by
          have := List.any_eq_false.1 hany o ho
          simpa using this⟩) i (by simp; omega)
        rw [List.take_take, Nat.min_self] at this
        have e : fb (n.kd.toNat :: boolN n.st :: n.conns.length :: (n.conns.take i).flatMap connN) = fb [n.kd.toNat] ++ form (boolN n.st) ++ form n.conns.length ++ fb ((n.conns.take i).flatMap connN) := by simp [fb]
        rw [e]
        simp only [List.length_append]
        omega
      (repeat with_reducible (first | refine Red.to ?_ | (refine is_rload ?_; (first | refine rv_load H rfl ?_ | refine rv_load H.up1 rfl ?_ | refine rv_load H.up2 rfl ?_ | refine rv_load H.up3 rfl ?_ | refine rv_load H.up4 rfl ?_))))
      rw [toU (by omega) (by omega)]
      refine numB H.up1 (by omega) (by omega) ?_
      clear H
      intro y4 w9 H
      have f4 := form_length10 (v := o.i.toNat) (by omega)
      have H := H.up1
      (repeat with_reducible (first | refine Red.to ?_ | (refine is_rload ?_; (first | refine rv_load H rfl ?_ | refine rv_load H.up1 rfl ?_ | refine rv_load H.up2 rfl ?_ | refine rv_load H.up3 rfl ?_ | refine rv_load H.up4 rfl ?_))))
      rw [toU (by omega) (by omega)]
      refine numB H.up1 (by omega) (by simp only [List.length_append]; omega) ?_
      clear H
      intro y5 w10 H
      have f5 := form_length10 (v := o.o.toNat) (by omega)
      (repeat with_reducible (first | refine Red.to ?_ | (refine is_rload ?_; (first | refine rv_load H rfl ?_ | refine rv_load H.up1 rfl ?_ | refine rv_load H.up2 rfl ?_ | refine rv_load H.up3 rfl ?_ | refine rv_load H.up4 rfl ?_))))
      refine rv_loada H.up1 rfl rfl ?_
      refine pathB (a := o.a) (b := o.b) (c := o.c) H (by omega) (by omega) (by omega) (by simp only [List.length_append]; omega) ?_
      clear H
      intro y6 w11 H
      (repeat with_reducible (first | refine Red.to ?_ | (refine is_rload ?_; (first | refine rv_load H rfl ?_ | refine rv_load H.up1 rfl ?_ | refine rv_load H.up2 rfl ?_ | refine rv_load H.up3 rfl ?_ | refine rv_load H.up4 rfl ?_))))
      rw [i64_small (by omega) (by omega)]
      refine hkk _ _ ⟨i + 1, y6, rfl, by omega, ?_, ?_⟩ (by simp; omega)
      · rw [any_take ho, hany]
        exact h
      · have e : fb (n.kd.toNat :: boolN n.st :: n.conns.length :: (n.conns.take (i + 1)).flatMap connN) = fb (n.kd.toNat :: boolN n.st :: n.conns.length :: (n.conns.take i).flatMap connN) ++ form o.i.toNat ++ form o.o.toNat ++ fb [o.a, o.b, o.c] := by
          rw [flatMap_take ho]
          simp [fb, connN]
        rw [e]
        exact H.up1.drop
    · have hi : i = n.conns.length := by have := of_decide_eq_false h; omega
      subst hi
      rw [List.take_length] at H hany
      refine hJ2 _ _ ⟨v, rfl, ?_, H⟩
      rw [eE, if_neg (by simpa using hany)]
  · have h8 : ¬ n.kd = 8 := by simpa using h
    rw [if_neg h8] at hJ
    rw [bc2 h8] at eE
    simp only [List.any_nil, Bool.false_eq_true, if_false] at eE
    exact hJ _ _ eE H
end
end Go.Proofs.Ytdmocobabpmoeaa
