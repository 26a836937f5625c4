
/-
  Package draft: check; the layers' small calls.
-/
import Derived.Test.YtdmocobabpmoeaaDraftB
namespace Go.Proofs.Ytdmocobabpmoeaa
open Go.Vc Go.Sep Go.Ops
set_option linter.unusedVariables false
set_option linter.unusedSectionVars false
set_option linter.unusedSimpArgs false

section
variable {W w : World} {L : List HProp} {K : Value → World → Prop} {KU : World → Prop} {X : XPost}
theorem any_take {α : Type} {p : α → Bool} {l : List α} {i : Nat} {x : α} (h : l[i]? = some x) : (l.take (i + 1)).any p = ((l.take i).any p || p x) := by
  rw [List.take_add_one, h]; simp
theorem any_at {α : Type} {p : α → Bool} {l : List α} {i : Nat} {x : α} (h : l[i]? = some x) (hp : p x = true) : l.any p = true :=
  List.any_eq_true.2 ⟨x, List.mem_of_getElem? h, hp⟩
theorem check_spec {n : NodeV} (H : St W w L) (R : NKn W L n) (hok : n.ok) (k : nodeE n = 0 → ∀ w', St W w' L → K (.tuple #[]) w') (kx : nodeE n ≠ 0 → ∀ w', St W w' L → X (wrongE (nodeE n) 0) w') : FCall Try.prog Fn.draft_check #[.agg n.cs.toArray] w K X := by
  refine draft_check_call ?_
  unfold Sh.draft_check
  refine rv_box (c := n.cs) H rfl ?_
  clear H
  intro b w1 H
  unfold NodeV.cs at H
  have Rt := (R.tail (A := cells b 59 [.int .i64 n.kd, .int .i64 n.ins, .int .i64 n.outs, n.cv, .int .u64 n.a, .int .u64 n.b, .int .u64 n.c, .int .u64 n.bd, n.kv, .bool n.st]))
  (repeat with_reducible (first | refine Red.to ?_ | (refine is_rload ?_; (first | refine rv_load H rfl ?_ | refine rv_load H.up1 rfl ?_ | refine rv_load H.up2 rfl ?_ | refine rv_load H.up3 rfl ?_ | refine rv_load H.up4 rfl ?_))))
  refine share_of (fun vs w => ∃ v, vs = [v] ∧ w = w1 ∧ cond (decide (1 ≤ n.kd)) v (.bool false) = .bool (decide (1 ≤ n.kd ∧ n.kd ≤ 8))) ?_ ?_
  · rintro vs w ⟨v, rfl, rfl, hv⟩ σ
    simp only [List.getD_cons_zero]
    refine pick_to hv ?_
    refine must_spec (fun h => ?_) (fun h => ?_)
    rotate_left
    · have h := of_decide_eq_false h
      have e : nodeE n = 20 := by unfold nodeE; rw [if_pos h]
      have := kx (by rw [e]; decide) _ H.drop
      rw [e] at this
      exact this
    have hk := of_decide_eq_true h
    (repeat with_reducible (first | refine Red.to ?_ | (refine is_rload ?_; (first | refine rv_load H rfl ?_ | refine rv_load H.up1 rfl ?_ | refine rv_load H.up2 rfl ?_ | refine rv_load H.up3 rfl ?_ | refine rv_load H.up4 rfl ?_))))
    refine rv_loada H rfl rfl ?_
    refine ports_spec (n := n) H ?_
    clear H
    intro w2 H
    refine must_spec (fun hp => ?_) (fun hp => ?_)
    rotate_left
    · have e : nodeE n = 21 := by unfold nodeE; rw [if_neg (by simpa using hk), if_pos hp]
      have := kx (by rw [e]; decide) _ H.drop
      rw [e] at this
      exact this
    refine rv_loada H rfl rfl ?_
    refine bare_spec (n := n) H Rt ?_
    clear H
    intro w3 H
    refine must_spec (fun hb => ?_) (fun hb => ?_)
    rotate_left
    · have e : nodeE n = 22 := by unfold nodeE; rw [if_neg (by simpa using hk), if_neg (by simp [hp]), if_pos hb]
      have := kx (by rw [e]; decide) _ H.drop
      rw [e] at this
      exact this
    (repeat with_reducible (first | refine Red.to ?_ | (refine is_rload ?_; (first | refine rv_load H rfl ?_ | refine rv_load H.up1 rfl ?_ | refine rv_load H.up2 rfl ?_ | refine rv_load H.up3 rfl ?_ | refine rv_load H.up4 rfl ?_))))
    refine rv_len_rd0 (Rt _ H).1 ?_
    (repeat with_reducible (first | refine Red.to ?_ | (refine is_rload ?_; (first | refine rv_load H rfl ?_ | refine rv_load H.up1 rfl ?_ | refine rv_load H.up2 rfl ?_ | refine rv_load H.up3 rfl ?_ | refine rv_load H.up4 rfl ?_))))
    refine share_of (fun vs w => ∃ v, vs = [v] ∧ w = w3 ∧ cond (decide ((n.code.length : Int) ≤ 16)) v (.bool false) = .bool (decide (n.code.length ≤ 16 ∧ n.conns.length ≤ 16))) ?_ ?_
    · rintro vs w ⟨v, rfl, rfl, hv⟩ σ
      simp only [List.getD_cons_zero]
      refine pick_to hv ?_
      refine must_spec (fun hl => ?_) (fun hl => ?_)
      rotate_left
      · have e : nodeE n = 2 := by unfold nodeE; rw [if_neg (by simpa using hk), if_neg (by simp [hp]), if_neg (by simp [hb]), if_pos (of_decide_eq_false hl)]
        have := kx (by rw [e]; decide) _ H.drop
        rw [e] at this
        exact this
      have hl := of_decide_eq_true hl
      have eE : nodeE n = if n.code.any (fun o => decide (o.kd < 0)) then 24 else if n.conns.any (fun o => decide (o.i < 0 ∨ o.o < 0)) then 23 else 0 := by
        unfold nodeE; rw [if_neg (by simpa using hk), if_neg (by simp [hp]), if_neg (by simp [hb]), if_neg (by simpa using hl)]
      refine share_of (fun vs w => vs = [] ∧ St W w (cells b 59 [.int .i64 n.kd, .int .i64 n.ins, .int .i64 n.outs, n.cv, .int .u64 n.a, .int .u64 n.b, .int .u64 n.c, .int .u64 n.bd, n.kv, .bool n.st] :: L) ∧ n.code.any (fun o => decide (o.kd < 0)) = false) ?_ ?_
      · clear H
        rintro vs w ⟨rfl, H, hcode⟩ σ
        rw [hcode, if_neg (by simp)] at eE
        (repeat with_reducible (first | refine Red.to ?_ | (refine is_rload ?_; (first | refine rv_load H rfl ?_ | refine rv_load H.up1 rfl ?_ | refine rv_load H.up2 rfl ?_ | refine rv_load H.up3 rfl ?_ | refine rv_load H.up4 rfl ?_))))
        refine rv_len_rd0 (Rt _ H).2 ?_
        refine loop_of (fun vs w => ∃ i : Nat, vs = [.int .i64 i] ∧ i ≤ n.conns.length ∧ (n.conns.take i).any (fun o => decide (o.i < 0 ∨ o.o < 0)) = false ∧ St W w L) (fun vs _ => match vs with | [.int _ i] => n.conns.length - i.toNat | _ => 0) ⟨0, rfl, by omega, rfl, H.drop⟩ ?_
        clear H
        rintro vs w kk ⟨i, rfl, hi, hany, H⟩ hkk σ
        simp only [List.getD_cons_zero, List.getD_cons_succ]
        (repeat with_reducible (first | refine Red.to ?_ | (refine is_rload ?_; (first | refine rv_load H rfl ?_ | refine rv_load H.up1 rfl ?_ | refine rv_load H.up2 rfl ?_ | refine rv_load H.up3 rfl ?_ | refine rv_load H.up4 rfl ?_))))
        refine cond_split (fun h => ?_) (fun h => ?_)
        · have h : i < n.conns.length := by have := of_decide_eq_true h; omega
          obtain ⟨o, ho⟩ : ∃ o, n.conns[i]? = some o := ⟨_, List.getElem?_eq_getElem h⟩
          have hoo := hok.2.2.2.2.2.2.2.2.1 o (List.mem_of_getElem? ho)
          obtain ⟨g, off, cap, hv, hcell⟩ := Kn0.form (fun w h => (R w h).2) H (by omega)
          refine rv_row (cs := o.cs) H hv h (fun j v hj => hcell w H _ v (fl_get ConnD.len _ i j o v ho hj)) (by rfl) (by rfl) o.one ?_
          clear H
          intro b2 w2 H
          unfold ConnD.cs at H
          (repeat with_reducible (first | refine Red.to ?_ | (refine is_rload ?_; (first | refine rv_load H rfl ?_ | refine rv_load H.up1 rfl ?_ | refine rv_load H.up2 rfl ?_ | refine rv_load H.up3 rfl ?_ | refine rv_load H.up4 rfl ?_))))
          refine share_of (fun vs w => ∃ v, vs = [v] ∧ w = w2 ∧ cond (decide (0 ≤ o.i)) v (.bool false) = .bool (!decide (o.i < 0 ∨ o.o < 0))) ?_ ?_
          · rintro vs w ⟨v, rfl, rfl, hv⟩ σ
            simp only [List.getD_cons_zero]
            refine pick_to hv ?_
            refine must_spec (fun hb => ?_) (fun hb => ?_)
            · have hb : decide (o.i < 0 ∨ o.o < 0) = false := by simpa using hb
              (repeat with_reducible (first | refine Red.to ?_ | (refine is_rload ?_; (first | refine rv_load H rfl ?_ | refine rv_load H.up1 rfl ?_ | refine rv_load H.up2 rfl ?_ | refine rv_load H.up3 rfl ?_ | refine rv_load H.up4 rfl ?_))))
              rw [i64_small (by have := hok.2.2.2.2.2.2.2.2.2.2; omega) (by have := hok.2.2.2.2.2.2.2.2.2.2; omega)]
              exact hkk _ _ ⟨i + 1, rfl, by omega, by rw [any_take ho, hany, hb]; rfl, H.drop⟩ (by simp; omega)
            · have hb : decide (o.i < 0 ∨ o.o < 0) = true := by rw [Bool.not_eq_false'] at hb; exact hb
              rw [any_at ho hb, if_pos rfl] at eE
              have := kx (by rw [eE]; decide) _ H.drop
              rw [eE] at this
              exact this
          · intro J hJ
            refine guard_split (fun h => ?_) (fun h => ?_)
            · (repeat with_reducible (first | refine Red.to ?_ | (refine is_rload ?_; (first | refine rv_load H rfl ?_ | refine rv_load H.up1 rfl ?_ | refine rv_load H.up2 rfl ?_ | refine rv_load H.up3 rfl ?_ | refine rv_load H.up4 rfl ?_))))
              refine hJ _ _ ⟨_, rfl, rfl, ?_⟩
              rw [h]
              have h := of_decide_eq_true h
              simp only [cond_true, Value.bool.injEq]
              rw [Bool.eq_iff_iff]
              simp
              omega
            · refine hJ _ _ ⟨_, rfl, rfl, ?_⟩
              have h' : decide (0 ≤ o.i) = false := h
              rw [h']
              have h := of_decide_eq_false h'
              simp only [cond_false, Value.bool.injEq]
              rw [Bool.eq_iff_iff]
              simp
              omega
        · have h : i = n.conns.length := by have := of_decide_eq_false h; omega
          subst h
          rw [List.take_length] at hany
          rw [hany] at eE
          exact k eE _ H
      · intro J hJ
        (repeat with_reducible (first | refine Red.to ?_ | (refine is_rload ?_; (first | refine rv_load H rfl ?_ | refine rv_load H.up1 rfl ?_ | refine rv_load H.up2 rfl ?_ | refine rv_load H.up3 rfl ?_ | refine rv_load H.up4 rfl ?_))))
        refine rv_len_rd0 (Rt _ H).1 ?_
        refine loop_of (fun vs w => ∃ i : Nat, vs = [.int .i64 i] ∧ i ≤ n.code.length ∧ (n.code.take i).any (fun o => decide (o.kd < 0)) = false ∧ St W w (cells b 59 [.int .i64 n.kd, .int .i64 n.ins, .int .i64 n.outs, n.cv, .int .u64 n.a, .int .u64 n.b, .int .u64 n.c, .int .u64 n.bd, n.kv, .bool n.st] :: L)) (fun vs _ => match vs with | [.int _ i] => n.code.length - i.toNat | _ => 0) ⟨0, rfl, by omega, rfl, H⟩ ?_
        clear H
        rintro vs w kk ⟨i, rfl, hi, hany, H⟩ hkk σ
        simp only [List.getD_cons_zero, List.getD_cons_succ]
        (repeat with_reducible (first | refine Red.to ?_ | (refine is_rload ?_; (first | refine rv_load H rfl ?_ | refine rv_load H.up1 rfl ?_ | refine rv_load H.up2 rfl ?_ | refine rv_load H.up3 rfl ?_ | refine rv_load H.up4 rfl ?_))))
        refine cond_split (fun h => ?_) (fun h => ?_)
        · have h : i < n.code.length := by have := of_decide_eq_true h; omega
          obtain ⟨o, ho⟩ : ∃ o, n.code[i]? = some o := ⟨_, List.getElem?_eq_getElem h⟩
          obtain ⟨g, off, cap, hv, hcell⟩ := Kn0.form (fun w h => (Rt w h).1) H (by omega)
          refine rv_row (cs := o.cs) H hv h (fun j v hj => hcell w H _ v (fl_get OpD.len _ i j o v ho hj)) (by rfl) (by rfl) o.one ?_
          clear H
          intro b2 w2 H
          unfold OpD.cs at H
          (repeat with_reducible (first | refine Red.to ?_ | (refine is_rload ?_; (first | refine rv_load H rfl ?_ | refine rv_load H.up1 rfl ?_ | refine rv_load H.up2 rfl ?_ | refine rv_load H.up3 rfl ?_ | refine rv_load H.up4 rfl ?_))))
          refine must_spec (fun hb => ?_) (fun hb => ?_)
          · have hb : decide (o.kd < 0) = false := by have := of_decide_eq_true hb; simp; omega
            (repeat with_reducible (first | refine Red.to ?_ | (refine is_rload ?_; (first | refine rv_load H rfl ?_ | refine rv_load H.up1 rfl ?_ | refine rv_load H.up2 rfl ?_ | refine rv_load H.up3 rfl ?_ | refine rv_load H.up4 rfl ?_))))
            rw [i64_small (by have := hok.2.2.2.2.2.2.2.2.2.1; omega) (by have := hok.2.2.2.2.2.2.2.2.2.1; omega)]
            exact hkk _ _ ⟨i + 1, rfl, by omega, by rw [any_take ho, hany, hb]; rfl, H.drop⟩ (by simp; omega)
          · have hb : decide (o.kd < 0) = true := by have := of_decide_eq_false hb; simp; omega
            rw [any_at (p := fun o => decide (o.kd < 0)) ho hb, if_pos rfl] at eE
            have := kx (by rw [eE]; decide) _ H.drop.drop
            rw [eE] at this
            exact this
        · have h : i = n.code.length := by have := of_decide_eq_false h; omega
          subst h
          rw [List.take_length] at hany
          exact hJ _ _ ⟨rfl, H, hany⟩
    · intro J hJ
      refine guard_split (fun h => ?_) (fun h => ?_)
      · (repeat with_reducible (first | refine Red.to ?_ | (refine is_rload ?_; (first | refine rv_load H rfl ?_ | refine rv_load H.up1 rfl ?_ | refine rv_load H.up2 rfl ?_ | refine rv_load H.up3 rfl ?_ | refine rv_load H.up4 rfl ?_))))
        refine rv_len_rd0 (Rt _ H).2 ?_
        (repeat with_reducible (first | refine Red.to ?_ | (refine is_rload ?_; (first | refine rv_load H rfl ?_ | refine rv_load H.up1 rfl ?_ | refine rv_load H.up2 rfl ?_ | refine rv_load H.up3 rfl ?_ | refine rv_load H.up4 rfl ?_))))
        refine hJ _ _ ⟨_, rfl, rfl, ?_⟩
        rw [h]
        have h := of_decide_eq_true h
        simp only [cond_true, Value.bool.injEq]
        rw [Bool.eq_iff_iff]
        simp
        omega
      · refine hJ _ _ ⟨_, rfl, rfl, ?_⟩
        have h' : decide ((n.code.length : Int) ≤ 16) = false := h
        rw [h']
        have h := of_decide_eq_false h'
        simp only [cond_false, Value.bool.injEq]
        rw [Bool.eq_iff_iff]
        simp
        omega
  · intro J hJ
    refine guard_split (fun h => ?_) (fun h => ?_)
    · (repeat with_reducible (first | refine Red.to ?_ | (refine is_rload ?_; (first | refine rv_load H rfl ?_ | refine rv_load H.up1 rfl ?_ | refine rv_load H.up2 rfl ?_ | refine rv_load H.up3 rfl ?_ | refine rv_load H.up4 rfl ?_))))
      refine hJ _ _ ⟨_, rfl, rfl, ?_⟩
      rw [h]
      have h := of_decide_eq_true h
      simp only [cond_true, Value.bool.injEq]
      rw [Bool.eq_iff_iff]
      simp
      omega
    · refine hJ _ _ ⟨_, rfl, rfl, ?_⟩
      have h' : decide (1 ≤ n.kd) = false := h
      rw [h']
      have h := of_decide_eq_false h'
      simp only [cond_false, Value.bool.injEq]
      rw [Bool.eq_iff_iff]
      simp
      omega
end
end Go.Proofs.Ytdmocobabpmoeaa
