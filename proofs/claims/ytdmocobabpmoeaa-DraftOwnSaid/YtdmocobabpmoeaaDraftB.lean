
/-
  Package draft: what gives up a graph; how its parts are laid.
-/
import Derived.Test.YtdmocobabpmoeaaDraftA
namespace Go.Proofs.Ytdmocobabpmoeaa
open Go.Vc Go.Sep Go.Ops
set_option linter.unusedVariables false
set_option linter.unusedSectionVars false
set_option linter.unusedSimpArgs false

def wrongE (e at_ : Int) : List PanicEntry := [{ v := .iface 99 (.agg #[.int .i64 e, .int .i64 at_]), recovered := false }]
section
variable {W w : World} {L : List HProp} {K : Value → World → Prop} {KU : World → Prop} {X : XPost}
theorem must_spec {b : Bool} {e at_ : Int} (h1 : b = true → K (.tuple #[]) w) (h2 : b = false → X (wrongE e at_) w) : FCall Try.prog Fn.draft_must #[.bool b, .int .i64 e, .int .i64 at_] w K X := by
  refine draft_must_call ?_
  unfold Sh.draft_must
  (repeat with_reducible (first | refine Red.to ?_ | (refine is_rload ?_; (first | refine rv_load H rfl ?_ | refine rv_load H.up1 rfl ?_ | refine rv_load H.up2 rfl ?_ | refine rv_load H.up3 rfl ?_ | refine rv_load H.up4 rfl ?_))))
  cases b with
  | true => exact cond_false' (h1 rfl)
  | false =>
    refine cond_true' ?_
    refine rv (v := .agg #[.int .i64 e, .int .i64 at_]) (w' := w) (by kernel_rfl) ?_
    refine rv (v := .iface 99 (.agg #[.int .i64 e, .int .i64 at_])) (w' := w) (by kernel_rfl) ?_
    exact rv_panic (h2 rfl)

theorem eq_dec {a b : Int} : (a == b) = decide (a = b) := by rw [Bool.eq_iff_iff]; simp
theorem bc {b : Bool} {K : Value → World → Prop} {c : Bool} (k : K (.bool b) w) (h : b = c) : K (.bool c) w := h ▸ k
theorem ports_spec {n : NodeV} (H : St W w L) (k : ∀ w', St W w' L → K (.bool (portsB n)) w') : FCall Try.prog Fn.draft_ports #[.agg n.cs.toArray] w K X := by
  refine draft_ports_call ?_
  unfold Sh.draft_ports
  refine rv_box (c := n.cs) H rfl ?_
  clear H
  intro b w1 H
  unfold NodeV.cs at H
  have H0 := H
  have k := k _ H.drop
  unfold portsB at k
  refine share_of (fun vs w => vs = [] ∧ w = w1 ∧ ¬ (n.ins < 0) ∧ ¬ (n.outs < 0)) ?_ ?_
  · rintro vs w ⟨rfl, rfl, h1, h2⟩ σ
    simp only [decide_eq_false h1, decide_eq_false h2, Bool.or_false, Bool.not_false, Bool.true_and] at k
    (repeat with_reducible (first | refine Red.to ?_ | (refine is_rload ?_; (first | refine rv_load H rfl ?_ | refine rv_load H.up1 rfl ?_ | refine rv_load H.up2 rfl ?_ | refine rv_load H.up3 rfl ?_ | refine rv_load H.up4 rfl ?_))))
    refine cond_split (fun h => ?_) (fun h => ?_)
    · have h : n.kd = 1 := by simpa using h
      rw [if_pos h] at k
      (repeat with_reducible (first | refine Red.to ?_ | (refine is_rload ?_; (first | refine rv_load H rfl ?_ | refine rv_load H.up1 rfl ?_ | refine rv_load H.up2 rfl ?_ | refine rv_load H.up3 rfl ?_ | refine rv_load H.up4 rfl ?_))))
      refine guard_split (fun h => ?_) (fun h => ?_)
      · rw [h]
        (repeat with_reducible (first | refine Red.to ?_ | (refine is_rload ?_; (first | refine rv_load H rfl ?_ | refine rv_load H.up1 rfl ?_ | refine rv_load H.up2 rfl ?_ | refine rv_load H.up3 rfl ?_ | refine rv_load H.up4 rfl ?_))))
        refine bc k ?_
        have h : n.ins = 0 := by simpa using h
        simp [h, eq_dec]
      · have h' : (n.ins == 0) = false := h
        rw [h']
        (repeat with_reducible (first | refine Red.to ?_ | (refine is_rload ?_; (first | refine rv_load H rfl ?_ | refine rv_load H.up1 rfl ?_ | refine rv_load H.up2 rfl ?_ | refine rv_load H.up3 rfl ?_ | refine rv_load H.up4 rfl ?_))))
        refine bc k ?_
        have h : ¬ n.ins = 0 := by simpa using h'
        simp [h]
    have hk1 : ¬ n.kd = 1 := by simpa using h
    rw [if_neg hk1] at k
    (repeat with_reducible (first | refine Red.to ?_ | (refine is_rload ?_; (first | refine rv_load H rfl ?_ | refine rv_load H.up1 rfl ?_ | refine rv_load H.up2 rfl ?_ | refine rv_load H.up3 rfl ?_ | refine rv_load H.up4 rfl ?_))))
    refine cond_split (fun h => ?_) (fun h => ?_)
    · have h : n.kd = 7 := by simpa using h
      rw [if_pos h] at k
      (repeat with_reducible (first | refine Red.to ?_ | (refine is_rload ?_; (first | refine rv_load H rfl ?_ | refine rv_load H.up1 rfl ?_ | refine rv_load H.up2 rfl ?_ | refine rv_load H.up3 rfl ?_ | refine rv_load H.up4 rfl ?_))))
      refine guard_split (fun h => ?_) (fun h => ?_)
      · rw [h]
        (repeat with_reducible (first | refine Red.to ?_ | (refine is_rload ?_; (first | refine rv_load H rfl ?_ | refine rv_load H.up1 rfl ?_ | refine rv_load H.up2 rfl ?_ | refine rv_load H.up3 rfl ?_ | refine rv_load H.up4 rfl ?_))))
        refine bc k ?_
        have h : n.ins = 1 := by simpa using h
        simp [h, eq_dec]
      · have h' : (n.ins == 1) = false := h
        rw [h']
        (repeat with_reducible (first | refine Red.to ?_ | (refine is_rload ?_; (first | refine rv_load H rfl ?_ | refine rv_load H.up1 rfl ?_ | refine rv_load H.up2 rfl ?_ | refine rv_load H.up3 rfl ?_ | refine rv_load H.up4 rfl ?_))))
        refine bc k ?_
        have h : ¬ n.ins = 1 := by simpa using h'
        simp [h]
    have hk7 : ¬ n.kd = 7 := by simpa using h
    rw [if_neg hk7] at k
    (repeat with_reducible (first | refine Red.to ?_ | (refine is_rload ?_; (first | refine rv_load H rfl ?_ | refine rv_load H.up1 rfl ?_ | refine rv_load H.up2 rfl ?_ | refine rv_load H.up3 rfl ?_ | refine rv_load H.up4 rfl ?_))))
    refine cond_split (fun h => ?_) (fun h => ?_)
    · have h : n.kd = 4 := by simpa using h
      rw [if_pos h] at k
      (repeat with_reducible (first | refine Red.to ?_ | (refine is_rload ?_; (first | refine rv_load H rfl ?_ | refine rv_load H.up1 rfl ?_ | refine rv_load H.up2 rfl ?_ | refine rv_load H.up3 rfl ?_ | refine rv_load H.up4 rfl ?_))))
      refine bc k ?_
      simp [eq_dec]
    have hk4 : ¬ n.kd = 4 := by simpa using h
    rw [if_neg hk4] at k
    (repeat with_reducible (first | refine Red.to ?_ | (refine is_rload ?_; (first | refine rv_load H rfl ?_ | refine rv_load H.up1 rfl ?_ | refine rv_load H.up2 rfl ?_ | refine rv_load H.up3 rfl ?_ | refine rv_load H.up4 rfl ?_))))
    refine cond_split (fun h => ?_) (fun h => ?_)
    · have h : n.kd = 8 := by simpa using h
      rw [if_pos h] at k
      exact k
    have hk8 : ¬ n.kd = 8 := by simpa using h
    rw [if_neg hk8] at k
    (repeat with_reducible (first | refine Red.to ?_ | (refine is_rload ?_; (first | refine rv_load H rfl ?_ | refine rv_load H.up1 rfl ?_ | refine rv_load H.up2 rfl ?_ | refine rv_load H.up3 rfl ?_ | refine rv_load H.up4 rfl ?_))))
    refine guard_split (fun h => ?_) (fun h => ?_)
    · rw [h]
      (repeat with_reducible (first | refine Red.to ?_ | (refine is_rload ?_; (first | refine rv_load H rfl ?_ | refine rv_load H.up1 rfl ?_ | refine rv_load H.up2 rfl ?_ | refine rv_load H.up3 rfl ?_ | refine rv_load H.up4 rfl ?_))))
      refine bc k ?_
      have h : n.ins = 1 := by simpa using h
      simp [h, eq_dec]
    · have h' : (n.ins == 1) = false := h
      rw [h']
      (repeat with_reducible (first | refine Red.to ?_ | (refine is_rload ?_; (first | refine rv_load H rfl ?_ | refine rv_load H.up1 rfl ?_ | refine rv_load H.up2 rfl ?_ | refine rv_load H.up3 rfl ?_ | refine rv_load H.up4 rfl ?_))))
      refine bc k ?_
      have h : ¬ n.ins = 1 := by simpa using h'
      simp [h]
  · intro J hJ
    (repeat with_reducible (first | refine Red.to ?_ | (refine is_rload ?_; (first | refine rv_load H rfl ?_ | refine rv_load H.up1 rfl ?_ | refine rv_load H.up2 rfl ?_ | refine rv_load H.up3 rfl ?_ | refine rv_load H.up4 rfl ?_))))
    refine guard_split (fun h => ?_) (fun h => ?_)
    · rw [h]
      have h1 : ¬ n.ins < 0 := by simpa using h
      (repeat with_reducible (first | refine Red.to ?_ | (refine is_rload ?_; (first | refine rv_load H rfl ?_ | refine rv_load H.up1 rfl ?_ | refine rv_load H.up2 rfl ?_ | refine rv_load H.up3 rfl ?_ | refine rv_load H.up4 rfl ?_))))
      refine cond_split (fun h => ?_) (fun h => ?_)
      · have h2 : n.outs < 0 := by simpa using h
        refine bc k ?_
        simp [h2]
      · have h2 : ¬ n.outs < 0 := by simpa using h
        exact hJ _ _ ⟨rfl, rfl, h1, h2⟩
    · have h' : decide (n.ins < 0) = true := h
      rw [h']
      (repeat with_reducible (first | refine Red.to ?_ | (refine is_rload ?_; (first | refine rv_load H rfl ?_ | refine rv_load H.up1 rfl ?_ | refine rv_load H.up2 rfl ?_ | refine rv_load H.up3 rfl ?_ | refine rv_load H.up4 rfl ?_))))
      refine bc k ?_
      have h1 : n.ins < 0 := by simpa using h'
      simp [h1]
theorem pick_to {b : Bool} {x y v : Value} {KT : Value → Prop} (h : cond b x y = v) (k : KT v) : Pick (.bool b) x y KT := pick_bool (h ▸ k)
theorem nat_eq0 {n : Nat} : (((n : Nat) : Int) == 0) = decide (n = 0) := by rw [Bool.eq_iff_iff]; simp
theorem bare_spec {n : NodeV} (H : St W w L) (R : NKn W L n) (k : ∀ w', St W w' L → K (.bool (bareB n)) w') : FCall Try.prog Fn.draft_bare #[.agg n.cs.toArray] w K X := by
  refine draft_bare_call ?_
  unfold Sh.draft_bare
  refine rv_box (c := n.cs) H rfl ?_
  clear H
  intro b w1 H
  unfold NodeV.cs at H
  have R := (R.tail (A := cells b 59 [.int .i64 n.kd, .int .i64 n.ins, .int .i64 n.outs, n.cv, .int .u64 n.a, .int .u64 n.b, .int .u64 n.c, .int .u64 n.bd, n.kv, .bool n.st]))
  refine share_of (fun vs w => vs = [.bool (decide (n.kd = 2 ∨ n.kd = 3))] ∧ w = w1) ?_ ?_
  · rintro vs w ⟨rfl, rfl⟩ σ
    simp only [List.getD_cons_zero]
    replace H := H.drew
    have R2 := R _ H
    refine ⟨fun w => St W w [cells b 59 [.int .i64 n.kd, .int .i64 n.ins, .int .i64 n.outs, n.cv, .int .u64 n.a, .int .u64 n.b, .int .u64 n.c, .int .u64 n.bd, n.kv, .bool n.st]], St.head H, ?_⟩
    (repeat with_reducible (first | refine Red.to ?_ | (refine is_tload ?_; (first | refine tk_load (fun _ H => H) rfl ?_ | refine tk_load (fun _ H => H.up1) rfl ?_ | refine tk_load (fun _ H => H.up2) rfl ?_ | refine tk_load (fun _ H => H.up3) rfl ?_))))
    (repeat with_reducible (first | refine Red.to ?_ | (refine is_rload ?_; (first | refine rv_load H rfl ?_ | refine rv_load H.up1 rfl ?_ | refine rv_load H.up2 rfl ?_ | refine rv_load H.up3 rfl ?_ | refine rv_load H.up4 rfl ?_))))
    first | refine keep_same (St.head H) ?_ | refine ⟨St.head H, ?_⟩
    (repeat with_reducible (first | refine Red.to ?_ | (refine is_tload ?_; (first | refine tk_load (fun _ H => H) rfl ?_ | refine tk_load (fun _ H => H.up1) rfl ?_ | refine tk_load (fun _ H => H.up2) rfl ?_ | refine tk_load (fun _ H => H.up3) rfl ?_))))
    have k := k _ H.drop
    unfold bareB at k
    refine share_of (fun vs w' => ∃ v, vs = [v] ∧ w' = w.drew ∧ cond (decide (n.kd = 2 ∨ n.kd = 3)) (.bool true) v = .bool (decide (n.kd = 2 ∨ n.kd = 3) || decide (n.code.length = 0))) ?_ ?_
    · rintro vs w' ⟨v, rfl, rfl, hv⟩ σ
      simp only [List.getD_cons_zero]
      refine pick_to hv ?_
      cases hc1 : (decide (n.kd = 2 ∨ n.kd = 3) || decide (n.code.length = 0)) with
      | false =>
        rw [hc1] at k
        simp only [Bool.false_and] at k
        (repeat (first | (with_reducible (first | refine Red.to ?_ | (refine is_rload ?_; (first | refine rv_load H rfl ?_ | refine rv_load H.up1 rfl ?_ | refine rv_load H.up2 rfl ?_ | refine rv_load H.up3 rfl ?_ | refine rv_load H.up4 rfl ?_)) | (refine is_tload ?_; (first | refine tk_load (fun _ H => H) rfl ?_ | refine tk_load (fun _ H => H.up1) rfl ?_ | refine tk_load (fun _ H => H.up2) rfl ?_ | refine tk_load (fun _ H => H.up3) rfl ?_)))) | (refine Share.mk ?_) | (intro _) | (simp only [List.getD_cons_zero, List.getD_cons_succ])))
        exact k
      | true =>
        rw [hc1] at k
        simp only [Bool.true_and] at k
        cases h5 : decide (n.kd = 5) with
        | true =>
          rw [h5] at k
          have e5 : (n.kd == 5) = true := by simpa [eq_dec] using h5
          have e8 : (n.kd == 8) = false := by have := of_decide_eq_true h5; rw [this]; rfl
          have k8 : decide (n.kd = 8) = false := by rw [← eq_dec]; exact e8
          rw [k8] at k
          simp only [Bool.true_or, Bool.true_and, Bool.false_or] at k
          (repeat (first | (with_reducible (first | refine Red.to ?_ | (refine is_rload ?_; (first | refine rv_load H rfl ?_ | refine rv_load H.up1 rfl ?_ | refine rv_load H.up2 rfl ?_ | refine rv_load H.up3 rfl ?_ | refine rv_load H.up4 rfl ?_)) | (refine is_tload ?_; (first | refine tk_load (fun _ H => H) rfl ?_ | refine tk_load (fun _ H => H.up1) rfl ?_ | refine tk_load (fun _ H => H.up2) rfl ?_ | refine tk_load (fun _ H => H.up3) rfl ?_)))) | (refine Share.mk ?_) | (intro _) | (simp only [List.getD_cons_zero, List.getD_cons_succ, e5, e8])))
          refine rv_len_rd0 R2.2 ?_
          (repeat (first | (with_reducible (first | refine Red.to ?_ | (refine is_rload ?_; (first | refine rv_load H rfl ?_ | refine rv_load H.up1 rfl ?_ | refine rv_load H.up2 rfl ?_ | refine rv_load H.up3 rfl ?_ | refine rv_load H.up4 rfl ?_)) | (refine is_tload ?_; (first | refine tk_load (fun _ H => H) rfl ?_ | refine tk_load (fun _ H => H.up1) rfl ?_ | refine tk_load (fun _ H => H.up2) rfl ?_ | refine tk_load (fun _ H => H.up3) rfl ?_)))) | (refine Share.mk ?_) | (intro _) | (simp only [List.getD_cons_zero, List.getD_cons_succ, nat_eq0])))
          cases hl : decide (n.conns.length = 0) with
          | true =>
            rw [hl] at k
            (repeat (first | (with_reducible (first | refine Red.to ?_ | (refine is_rload ?_; (first | refine rv_load H rfl ?_ | refine rv_load H.up1 rfl ?_ | refine rv_load H.up2 rfl ?_ | refine rv_load H.up3 rfl ?_ | refine rv_load H.up4 rfl ?_)) | (refine is_tload ?_; (first | refine tk_load (fun _ H => H) rfl ?_ | refine tk_load (fun _ H => H.up1) rfl ?_ | refine tk_load (fun _ H => H.up2) rfl ?_ | refine tk_load (fun _ H => H.up3) rfl ?_)))) | (refine Share.mk ?_) | (intro _) | (simp only [List.getD_cons_zero, List.getD_cons_succ])))
            simpa using k
          | false =>
            rw [hl] at k
            (repeat (first | (with_reducible (first | refine Red.to ?_ | (refine is_rload ?_; (first | refine rv_load H rfl ?_ | refine rv_load H.up1 rfl ?_ | refine rv_load H.up2 rfl ?_ | refine rv_load H.up3 rfl ?_ | refine rv_load H.up4 rfl ?_)) | (refine is_tload ?_; (first | refine tk_load (fun _ H => H) rfl ?_ | refine tk_load (fun _ H => H.up1) rfl ?_ | refine tk_load (fun _ H => H.up2) rfl ?_ | refine tk_load (fun _ H => H.up3) rfl ?_)))) | (refine Share.mk ?_) | (intro _) | (simp only [List.getD_cons_zero, List.getD_cons_succ])))
            simpa using k
        | false =>
          rw [h5] at k
          have e5 : (n.kd == 5) = false := by rw [eq_dec]; exact h5
          simp only [Bool.false_or] at k
          (repeat (first | (with_reducible (first | refine Red.to ?_ | (refine is_rload ?_; (first | refine rv_load H rfl ?_ | refine rv_load H.up1 rfl ?_ | refine rv_load H.up2 rfl ?_ | refine rv_load H.up3 rfl ?_ | refine rv_load H.up4 rfl ?_)) | (refine is_tload ?_; (first | refine tk_load (fun _ H => H) rfl ?_ | refine tk_load (fun _ H => H.up1) rfl ?_ | refine tk_load (fun _ H => H.up2) rfl ?_ | refine tk_load (fun _ H => H.up3) rfl ?_)))) | (refine Share.mk ?_) | (intro _) | (simp only [List.getD_cons_zero, List.getD_cons_succ, e5])))
          refine rv_loada H rfl rfl ?_
          refine rv (v := .agg #[.int .u64 0, .int .u64 0, .int .u64 0]) (w' := w.drew) (by kernel_rfl) ?_
          refine rv (run_eqa (b := ((n.a : Int) == 0) && (((n.b : Int) == 0) && (((n.c : Int) == 0) && true))) (by kernel_rfl) (by kernel_rfl)) ?_
          have ea : (((n.a : Int) == 0) && (((n.b : Int) == 0) && (((n.c : Int) == 0) && true))) = decide (n.a = 0 ∧ n.b = 0 ∧ n.c = 0) := by rw [Bool.eq_iff_iff]; simp
          rw [ea]
          cases hp : decide (n.a = 0 ∧ n.b = 0 ∧ n.c = 0) with
          | false =>
            rw [hp] at k
            simp only [Bool.false_and] at k
            (repeat (first | (with_reducible (first | refine Red.to ?_ | (refine is_rload ?_; (first | refine rv_load H rfl ?_ | refine rv_load H.up1 rfl ?_ | refine rv_load H.up2 rfl ?_ | refine rv_load H.up3 rfl ?_ | refine rv_load H.up4 rfl ?_)) | (refine is_tload ?_; (first | refine tk_load (fun _ H => H) rfl ?_ | refine tk_load (fun _ H => H.up1) rfl ?_ | refine tk_load (fun _ H => H.up2) rfl ?_ | refine tk_load (fun _ H => H.up3) rfl ?_)))) | (refine Share.mk ?_) | (intro _) | (simp only [List.getD_cons_zero, List.getD_cons_succ])))
            exact k
          | true =>
            rw [hp] at k
            simp only [Bool.true_and] at k
            (repeat (first | (with_reducible (first | refine Red.to ?_ | (refine is_rload ?_; (first | refine rv_load H rfl ?_ | refine rv_load H.up1 rfl ?_ | refine rv_load H.up2 rfl ?_ | refine rv_load H.up3 rfl ?_ | refine rv_load H.up4 rfl ?_)) | (refine is_tload ?_; (first | refine tk_load (fun _ H => H) rfl ?_ | refine tk_load (fun _ H => H.up1) rfl ?_ | refine tk_load (fun _ H => H.up2) rfl ?_ | refine tk_load (fun _ H => H.up3) rfl ?_)))) | (refine Share.mk ?_) | (intro _) | (simp only [List.getD_cons_zero, List.getD_cons_succ, nat_eq0])))
            cases hb : decide (n.bd = 0) with
            | false =>
              rw [hb] at k
              simp only [Bool.false_and] at k
              (repeat (first | (with_reducible (first | refine Red.to ?_ | (refine is_rload ?_; (first | refine rv_load H rfl ?_ | refine rv_load H.up1 rfl ?_ | refine rv_load H.up2 rfl ?_ | refine rv_load H.up3 rfl ?_ | refine rv_load H.up4 rfl ?_)) | (refine is_tload ?_; (first | refine tk_load (fun _ H => H) rfl ?_ | refine tk_load (fun _ H => H.up1) rfl ?_ | refine tk_load (fun _ H => H.up2) rfl ?_ | refine tk_load (fun _ H => H.up3) rfl ?_)))) | (refine Share.mk ?_) | (intro _) | (simp only [List.getD_cons_zero, List.getD_cons_succ])))
              exact k
            | true =>
              rw [hb] at k
              simp only [Bool.true_and] at k
              (repeat (first | (with_reducible (first | refine Red.to ?_ | (refine is_rload ?_; (first | refine rv_load H rfl ?_ | refine rv_load H.up1 rfl ?_ | refine rv_load H.up2 rfl ?_ | refine rv_load H.up3 rfl ?_ | refine rv_load H.up4 rfl ?_)) | (refine is_tload ?_; (first | refine tk_load (fun _ H => H) rfl ?_ | refine tk_load (fun _ H => H.up1) rfl ?_ | refine tk_load (fun _ H => H.up2) rfl ?_ | refine tk_load (fun _ H => H.up3) rfl ?_)))) | (refine Share.mk ?_) | (intro _) | (simp only [List.getD_cons_zero, List.getD_cons_succ])))
              cases h8 : (n.kd == 8) with
              | true =>
                have k8 : decide (n.kd = 8) = true := by rw [← eq_dec]; exact h8
                rw [k8] at k
                simp only [Bool.true_or] at k
                (repeat (first | (with_reducible (first | refine Red.to ?_ | (refine is_rload ?_; (first | refine rv_load H rfl ?_ | refine rv_load H.up1 rfl ?_ | refine rv_load H.up2 rfl ?_ | refine rv_load H.up3 rfl ?_ | refine rv_load H.up4 rfl ?_)) | (refine is_tload ?_; (first | refine tk_load (fun _ H => H) rfl ?_ | refine tk_load (fun _ H => H.up1) rfl ?_ | refine tk_load (fun _ H => H.up2) rfl ?_ | refine tk_load (fun _ H => H.up3) rfl ?_)))) | (refine Share.mk ?_) | (intro _) | (simp only [List.getD_cons_zero, List.getD_cons_succ])))
                exact k
              | false =>
                have k8 : decide (n.kd = 8) = false := by rw [← eq_dec]; exact h8
                rw [k8] at k
                simp only [Bool.false_or] at k
                (repeat (first | (with_reducible (first | refine Red.to ?_ | (refine is_rload ?_; (first | refine rv_load H rfl ?_ | refine rv_load H.up1 rfl ?_ | refine rv_load H.up2 rfl ?_ | refine rv_load H.up3 rfl ?_ | refine rv_load H.up4 rfl ?_)) | (refine is_tload ?_; (first | refine tk_load (fun _ H => H) rfl ?_ | refine tk_load (fun _ H => H.up1) rfl ?_ | refine tk_load (fun _ H => H.up2) rfl ?_ | refine tk_load (fun _ H => H.up3) rfl ?_)))) | (refine Share.mk ?_) | (intro _) | (simp only [List.getD_cons_zero, List.getD_cons_succ])))
                refine rv_len_rd0 R2.2 ?_
                (repeat (first | (with_reducible (first | refine Red.to ?_ | (refine is_rload ?_; (first | refine rv_load H rfl ?_ | refine rv_load H.up1 rfl ?_ | refine rv_load H.up2 rfl ?_ | refine rv_load H.up3 rfl ?_ | refine rv_load H.up4 rfl ?_)) | (refine is_tload ?_; (first | refine tk_load (fun _ H => H) rfl ?_ | refine tk_load (fun _ H => H.up1) rfl ?_ | refine tk_load (fun _ H => H.up2) rfl ?_ | refine tk_load (fun _ H => H.up3) rfl ?_)))) | (refine Share.mk ?_) | (intro _) | (simp only [List.getD_cons_zero, List.getD_cons_succ, nat_eq0])))
                cases hl : decide (n.conns.length = 0) with
                | true =>
                  rw [hl] at k
                  (repeat (first | (with_reducible (first | refine Red.to ?_ | (refine is_rload ?_; (first | refine rv_load H rfl ?_ | refine rv_load H.up1 rfl ?_ | refine rv_load H.up2 rfl ?_ | refine rv_load H.up3 rfl ?_ | refine rv_load H.up4 rfl ?_)) | (refine is_tload ?_; (first | refine tk_load (fun _ H => H) rfl ?_ | refine tk_load (fun _ H => H.up1) rfl ?_ | refine tk_load (fun _ H => H.up2) rfl ?_ | refine tk_load (fun _ H => H.up3) rfl ?_)))) | (refine Share.mk ?_) | (intro _) | (simp only [List.getD_cons_zero, List.getD_cons_succ])))
                  simpa using k
                | false =>
                  rw [hl] at k
                  (repeat (first | (with_reducible (first | refine Red.to ?_ | (refine is_rload ?_; (first | refine rv_load H rfl ?_ | refine rv_load H.up1 rfl ?_ | refine rv_load H.up2 rfl ?_ | refine rv_load H.up3 rfl ?_ | refine rv_load H.up4 rfl ?_)) | (refine is_tload ?_; (first | refine tk_load (fun _ H => H) rfl ?_ | refine tk_load (fun _ H => H.up1) rfl ?_ | refine tk_load (fun _ H => H.up2) rfl ?_ | refine tk_load (fun _ H => H.up3) rfl ?_)))) | (refine Share.mk ?_) | (intro _) | (simp only [List.getD_cons_zero, List.getD_cons_succ])))
                  simpa using k
    · intro J hJ
      refine guard_split (fun h => ?_) (fun h => ?_)
      · have h : decide (n.kd = 2 ∨ n.kd = 3) = false := h
        (repeat with_reducible (first | refine Red.to ?_ | (refine is_rload ?_; (first | refine rv_load H rfl ?_ | refine rv_load H.up1 rfl ?_ | refine rv_load H.up2 rfl ?_ | refine rv_load H.up3 rfl ?_ | refine rv_load H.up4 rfl ?_))))
        refine rv_len_rd0 R2.1 ?_
        (repeat with_reducible (first | refine Red.to ?_ | (refine is_rload ?_; (first | refine rv_load H rfl ?_ | refine rv_load H.up1 rfl ?_ | refine rv_load H.up2 rfl ?_ | refine rv_load H.up3 rfl ?_ | refine rv_load H.up4 rfl ?_))))
        refine hJ _ _ ⟨_, rfl, rfl, ?_⟩
        rw [h, nat_eq0]
        rfl
      · have h : decide (n.kd = 2 ∨ n.kd = 3) = true := h
        refine hJ _ _ ⟨_, rfl, rfl, ?_⟩
        rw [h]
        rfl
  · intro J hJ
    (repeat with_reducible (first | refine Red.to ?_ | (refine is_rload ?_; (first | refine rv_load H rfl ?_ | refine rv_load H.up1 rfl ?_ | refine rv_load H.up2 rfl ?_ | refine rv_load H.up3 rfl ?_ | refine rv_load H.up4 rfl ?_))))
    refine guard_split (fun h => ?_) (fun h => ?_)
    · rw [h]
      have h : ¬ n.kd = 2 := by simpa using h
      (repeat with_reducible (first | refine Red.to ?_ | (refine is_rload ?_; (first | refine rv_load H rfl ?_ | refine rv_load H.up1 rfl ?_ | refine rv_load H.up2 rfl ?_ | refine rv_load H.up3 rfl ?_ | refine rv_load H.up4 rfl ?_))))
      refine hJ _ _ ⟨?_, rfl⟩
      simp [h, eq_dec]
    · have h' : (n.kd == 2) = true := h
      rw [h']
      (repeat with_reducible (first | refine Red.to ?_ | (refine is_rload ?_; (first | refine rv_load H rfl ?_ | refine rv_load H.up1 rfl ?_ | refine rv_load H.up2 rfl ?_ | refine rv_load H.up3 rfl ?_ | refine rv_load H.up4 rfl ?_))))
      refine hJ _ _ ⟨?_, rfl⟩
      have h : n.kd = 2 := by simpa using h'
      simp [h]
end
end Go.Proofs.Ytdmocobabpmoeaa
