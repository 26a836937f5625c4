
/-
  Draft's laws: same, known.
-/
import Derived.Test.YtdmocobabpmoeaaDraftI
namespace Go.Proofs.Ytdmocobabpmoeaa
open Go.Vc Go.Sep Go.Ops
set_option linter.unusedVariables false
set_option linter.unusedSectionVars false
set_option linter.unusedSimpArgs false

section
variable {W w : World} {L : List HProp} {K : Value → World → Prop} {KU : World → Prop} {X : XPost}
theorem run_row {e s : Nat} [h : TAgg Try.prog e s] {cs : List Value} {g off i : Nat} {w : World} (hn : cs.length = s) (hc : ∀ j v, cs[j]? = some v → w.cell? ⟨g, off + (i * s + j), none⟩ = some v) : (Instr.loadAt e (.pointer (some ⟨g, off + i * s, none⟩))).run Try.prog w = .ok (.agg cs.toArray) w := by
  have hcell : ∀ j v, cs[j]? = some v → w.cell? (Addr.add ⟨g, off + i * s, none⟩ j) = some v := by
    intro j v hj
    rw [add_plain', Nat.add_assoc]
    exact hc j v hj
  have := run_loadCells_list (P := Try.prog) w ⟨g, off + i * s, none⟩ cs hcell
  rw [hn] at this
  simp [Instr.loadAt, Instr.sureAddr, loadVar, Sem.run_bind, h.run_isAgg, run_sizeOf' h.size, this]
theorem sameOps_spec {v1 v2 : Value} {l : List OpD} (R1 : Kn0 W L v1 l.length (fl OpD.cs l)) (R2 : Kn0 W L v2 l.length (fl OpD.cs l)) (hl : l.length ≤ 1000000000000000) (H : St W w L) (k : ∀ w', St W w' L → K (.bool true) w') : FCall Try.prog Fn.sluicelaw08_sameOps #[v1, v2] w K X := by
  refine sluicelaw08_sameOps_call ?_
  unfold Sh.sluicelaw08_sameOps
  refine rv_len_rd0 (R1 _ H) ?_
  refine rv_len_rd0 (R2 _ H) ?_
  (repeat (first | (with_reducible (first | refine Red.to ?_ | (refine is_rload ?_; (first | refine rv_load H rfl ?_ | refine rv_load H.up1 rfl ?_ | refine rv_load H.up2 rfl ?_ | refine rv_load H.up3 rfl ?_ | refine rv_load H.up4 rfl ?_)) | (refine is_tload ?_; (first | refine tk_load (fun _ H => H) rfl ?_ | refine tk_load (fun _ H => H.up1) rfl ?_ | refine tk_load (fun _ H => H.up2) rfl ?_ | refine tk_load (fun _ H => H.up3) rfl ?_)))) | (refine Share.mk ?_) | (intro _) | (simp only [List.getD_cons_zero, List.getD_cons_succ, bne_self_eq_false])))
  refine rv_len_rd0 (R1 _ H) ?_
  refine loop_of (fun vs w => ∃ i : Nat, vs = [.int .i64 i] ∧ i ≤ l.length ∧ St W w L) (fun vs _ => match vs with | [.int _ i] => l.length - i.toNat | _ => 0) ⟨0, rfl, by omega, H⟩ ?_
  clear H
  rintro vs w kk ⟨i, rfl, hi, H⟩ hkk σ
  simp only [List.getD_cons_zero, List.getD_cons_succ]
  (repeat with_reducible (first | refine Red.to ?_ | (refine is_rload ?_; (first | refine rv_load H rfl ?_ | refine rv_load H.up1 rfl ?_ | refine rv_load H.up2 rfl ?_ | refine rv_load H.up3 rfl ?_ | refine rv_load H.up4 rfl ?_))))
  refine cond_split (fun h => ?_) (fun h => ?_)
  · have h : i < l.length := by have := of_decide_eq_true h; omega
    obtain ⟨o, ho⟩ : ∃ o, l[i]? = some o := ⟨_, List.getElem?_eq_getElem h⟩
    obtain ⟨g1, off1, cap1, rfl, hc1⟩ := Kn0.form R1 H (by omega)
    obtain ⟨g2, off2, cap2, rfl, hc2⟩ := Kn0.form R2 H (by omega)
    replace H := H.drew
    refine ⟨fun w => St W w L, H, ?_⟩
    refine tp_index (by omega) (by omega) ?_
    refine tp_index (by omega) (by omega) ?_
    have e1 : ∀ off : Nat, off + ((i : Nat) : Int).toNat * 2 = off + i * 2 := by intro off; simp
    rw [e1, e1]
    refine tk (fun w h => run_row (cs := o.cs) rfl (fun j v hj => hc1 w h _ v (fl_get OpD.len _ i j o v ho hj))) ?_
    refine rv (run_row (cs := o.cs) rfl (fun j v hj => hc2 _ H _ v (fl_get OpD.len _ i j o v ho hj))) ?_
    first | refine keep_same (H) ?_ | refine ⟨H, ?_⟩
    refine tp (fun w => run_nea (b := (o.kd == o.kd) && (((o.arg : Int) == o.arg) && true)) (by kernel_rfl) (by kernel_rfl)) ?_
    simp only [beq_self_eq_true, Bool.and_self, Bool.not_true]
    refine cond_false' ?_
    (repeat with_reducible (first | refine Red.to ?_ | (refine is_rload ?_; (first | refine rv_load H rfl ?_ | refine rv_load H.up1 rfl ?_ | refine rv_load H.up2 rfl ?_ | refine rv_load H.up3 rfl ?_ | refine rv_load H.up4 rfl ?_))))
    rw [i64_small (by omega) (by omega)]
    exact hkk _ _ ⟨i + 1, rfl, by omega, H⟩ (by simp; omega)
  · exact k _ H
theorem sameConns_spec {v1 v2 : Value} {l : List ConnD} (R1 : Kn0 W L v1 l.length (fl ConnD.cs l)) (R2 : Kn0 W L v2 l.length (fl ConnD.cs l)) (hl : l.length ≤ 1000000000000000) (H : St W w L) (k : ∀ w', St W w' L → K (.bool true) w') : FCall Try.prog Fn.sluicelaw08_sameConns #[v1, v2] w K X := by
  refine sluicelaw08_sameConns_call ?_
  unfold Sh.sluicelaw08_sameConns
  refine rv_len_rd0 (R1 _ H) ?_
  refine rv_len_rd0 (R2 _ H) ?_
  (repeat (first | (with_reducible (first | refine Red.to ?_ | (refine is_rload ?_; (first | refine rv_load H rfl ?_ | refine rv_load H.up1 rfl ?_ | refine rv_load H.up2 rfl ?_ | refine rv_load H.up3 rfl ?_ | refine rv_load H.up4 rfl ?_)) | (refine is_tload ?_; (first | refine tk_load (fun _ H => H) rfl ?_ | refine tk_load (fun _ H => H.up1) rfl ?_ | refine tk_load (fun _ H => H.up2) rfl ?_ | refine tk_load (fun _ H => H.up3) rfl ?_)))) | (refine Share.mk ?_) | (intro _) | (simp only [List.getD_cons_zero, List.getD_cons_succ, bne_self_eq_false])))
  refine rv_len_rd0 (R1 _ H) ?_
  refine loop_of (fun vs w => ∃ i : Nat, vs = [.int .i64 i] ∧ i ≤ l.length ∧ St W w L) (fun vs _ => match vs with | [.int _ i] => l.length - i.toNat | _ => 0) ⟨0, rfl, by omega, H⟩ ?_
  clear H
  rintro vs w kk ⟨i, rfl, hi, H⟩ hkk σ
  simp only [List.getD_cons_zero, List.getD_cons_succ]
  (repeat with_reducible (first | refine Red.to ?_ | (refine is_rload ?_; (first | refine rv_load H rfl ?_ | refine rv_load H.up1 rfl ?_ | refine rv_load H.up2 rfl ?_ | refine rv_load H.up3 rfl ?_ | refine rv_load H.up4 rfl ?_))))
  refine cond_split (fun h => ?_) (fun h => ?_)
  · have h : i < l.length := by have := of_decide_eq_true h; omega
    obtain ⟨o, ho⟩ : ∃ o, l[i]? = some o := ⟨_, List.getElem?_eq_getElem h⟩
    obtain ⟨g1, off1, cap1, rfl, hc1⟩ := Kn0.form R1 H (by omega)
    obtain ⟨g2, off2, cap2, rfl, hc2⟩ := Kn0.form R2 H (by omega)
    replace H := H.drew
    refine ⟨fun w => St W w L, H, ?_⟩
    refine tp_index (by omega) (by omega) ?_
    refine tp_index (by omega) (by omega) ?_
    have e1 : ∀ off : Nat, off + ((i : Nat) : Int).toNat * 5 = off + i * 5 := by intro off; simp
    rw [e1, e1]
    refine tk (fun w h => run_row (cs := o.cs) rfl (fun j v hj => hc1 w h _ v (fl_get ConnD.len _ i j o v ho hj))) ?_
    refine rv (run_row (cs := o.cs) rfl (fun j v hj => hc2 _ H _ v (fl_get ConnD.len _ i j o v ho hj))) ?_
    first | refine keep_same (H) ?_ | refine ⟨H, ?_⟩
    refine tp (fun w => run_nea (b := (o.i == o.i) && ((o.o == o.o) && ((((o.a : Int) == o.a) && (((o.b : Int) == o.b) && (((o.c : Int) == o.c) && true))) && true))) (by kernel_rfl) (by kernel_rfl)) ?_
    simp only [beq_self_eq_true, Bool.and_self, Bool.not_true]
    refine cond_false' ?_
    (repeat with_reducible (first | refine Red.to ?_ | (refine is_rload ?_; (first | refine rv_load H rfl ?_ | refine rv_load H.up1 rfl ?_ | refine rv_load H.up2 rfl ?_ | refine rv_load H.up3 rfl ?_ | refine rv_load H.up4 rfl ?_))))
    rw [i64_small (by omega) (by omega)]
    exact hkk _ _ ⟨i + 1, rfl, by omega, H⟩ (by simp; omega)
  · exact k _ H

theorem sameNode_spec {n m : NodeV} (he : n.er = m.er) (R1 : NKn W L n) (R2 : NKn W L m) (hl : n.code.length ≤ 1000000000000000 ∧ n.conns.length ≤ 1000000000000000) (H : St W w L) (k : ∀ w', St W w' L → K (.bool true) w') : FCall Try.prog Fn.sluicelaw08_sameNode #[.agg n.cs.toArray, .agg m.cs.toArray] w K X := by
  refine sluicelaw08_sameNode_call ?_
  unfold Sh.sluicelaw08_sameNode
  refine rv_box (c := n.cs) H rfl ?_
  clear H
  intro b1 w1 H
  refine rv_box (c := m.cs) H rfl ?_
  clear H
  intro b2 w2 H
  obtain ⟨kd, ins, outs, code, cv, a, b, c, bd, conns, kv, st⟩ := n
  obtain ⟨kd', ins', outs', code', cv', a', b', c', bd', conns', kv', st'⟩ := m
  simp only [NodeV.er, NodeV.mk.injEq, true_and] at he
  obtain ⟨rfl, rfl, rfl, rfl, rfl, rfl, rfl, rfl, rfl, rfl⟩ := he
  simp only [NodeV.cs] at H
  (repeat (first | (with_reducible (first | refine Red.to ?_ | (refine is_rload ?_; (first | refine rv_load H rfl ?_ | refine rv_load H.up1 rfl ?_ | refine rv_load H.up2 rfl ?_ | refine rv_load H.up3 rfl ?_ | refine rv_load H.up4 rfl ?_)) | (refine is_tload ?_; (first | refine tk_load (fun _ H => H) rfl ?_ | refine tk_load (fun _ H => H.up1) rfl ?_ | refine tk_load (fun _ H => H.up2) rfl ?_ | refine tk_load (fun _ H => H.up3) rfl ?_)))) | (refine Share.mk ?_) | (intro _) | (simp only [List.getD_cons_zero, List.getD_cons_succ, beq_self_eq_true])))
  refine rv_loada H.up1 rfl rfl ?_
  (repeat with_reducible (first | refine Red.to ?_ | (refine is_rload ?_; (first | refine rv_load H rfl ?_ | refine rv_load H.up1 rfl ?_ | refine rv_load H.up2 rfl ?_ | refine rv_load H.up3 rfl ?_ | refine rv_load H.up4 rfl ?_))))
  refine rv_loada H rfl rfl ?_
  refine rv (run_eqa (b := ((a : Int) == a) && (((b : Int) == b) && (((c : Int) == c) && true))) (by kernel_rfl) (by kernel_rfl)) ?_
  (repeat (first | (with_reducible (first | refine Red.to ?_ | (refine is_rload ?_; (first | refine rv_load H rfl ?_ | refine rv_load H.up1 rfl ?_ | refine rv_load H.up2 rfl ?_ | refine rv_load H.up3 rfl ?_ | refine rv_load H.up4 rfl ?_)) | (refine is_tload ?_; (first | refine tk_load (fun _ H => H) rfl ?_ | refine tk_load (fun _ H => H.up1) rfl ?_ | refine tk_load (fun _ H => H.up2) rfl ?_ | refine tk_load (fun _ H => H.up3) rfl ?_)))) | (refine Share.mk ?_) | (intro _) | (simp only [List.getD_cons_zero, List.getD_cons_succ, beq_self_eq_true, Bool.and_self])))
  refine sameOps_spec (l := code) (fun w h => ((R1.tail.tail) w h).1) (fun w h => ((R2.tail.tail) w h).1) hl.1 H ?_
  clear H
  intro w3 H
  (repeat (first | (with_reducible (first | refine Red.to ?_ | (refine is_rload ?_; (first | refine rv_load H rfl ?_ | refine rv_load H.up1 rfl ?_ | refine rv_load H.up2 rfl ?_ | refine rv_load H.up3 rfl ?_ | refine rv_load H.up4 rfl ?_)) | (refine is_tload ?_; (first | refine tk_load (fun _ H => H) rfl ?_ | refine tk_load (fun _ H => H.up1) rfl ?_ | refine tk_load (fun _ H => H.up2) rfl ?_ | refine tk_load (fun _ H => H.up3) rfl ?_)))) | (refine Share.mk ?_) | (intro _) | (simp only [List.getD_cons_zero, List.getD_cons_succ, beq_self_eq_true])))
  refine sameConns_spec (l := conns) (fun w h => ((R1.tail.tail) w h).2) (fun w h => ((R2.tail.tail) w h).2) hl.2 H ?_
  clear H
  intro w4 H
  (repeat (first | (with_reducible (first | refine Red.to ?_ | (refine is_rload ?_; (first | refine rv_load H rfl ?_ | refine rv_load H.up1 rfl ?_ | refine rv_load H.up2 rfl ?_ | refine rv_load H.up3 rfl ?_ | refine rv_load H.up4 rfl ?_)) | (refine is_tload ?_; (first | refine tk_load (fun _ H => H) rfl ?_ | refine tk_load (fun _ H => H.up1) rfl ?_ | refine tk_load (fun _ H => H.up2) rfl ?_ | refine tk_load (fun _ H => H.up3) rfl ?_)))) | (refine Share.mk ?_) | (intro _) | (simp only [List.getD_cons_zero, List.getD_cons_succ, beq_self_eq_true])))
  exact k _ H.drop.drop

theorem same_spec {g h : GraphV} (he : g.er = h.er) (R1 : GKn W L g) (R2 : GKn W L h) (hok : g.ok) (H : St W w L) (k : ∀ w', St W w' L → K (.bool true) w') : FCall Try.prog Fn.sluicelaw08_same #[.agg g.cs.toArray, .agg h.cs.toArray] w K X := by
  refine sluicelaw08_same_call ?_
  unfold Sh.sluicelaw08_same
  refine rv_box (c := g.cs) H rfl ?_
  clear H
  intro b1 w1 H
  refine rv_box (c := h.cs) H rfl ?_
  clear H
  intro b2 w2 H
  have har : g.ar = h.ar := by have := congrArg GraphV.ar he; exact this
  have hns : g.nodes.map NodeV.er = h.nodes.map NodeV.er := by have := congrArg GraphV.nodes he; exact this
  have hes : g.edges = h.edges := by have := congrArg GraphV.edges he; exact this
  have hnl : g.nodes.length = h.nodes.length := by simpa using congrArg List.length hns
  have hok := hok
  unfold GraphV.ok at hok
  simp only [GraphV.cs] at H
  generalize hLL : (cells b2 25 [.int .i64 h.ar, h.nv, h.ev] :: cells b1 25 [.int .i64 g.ar, g.nv, g.ev] :: L) = LL at H
  have T1 : GKn W LL g := hLL ▸ R1.tail.tail
  have T2 : GKn W LL h := hLL ▸ R2.tail.tail
  have G2 : ∀ {w}, St W w LL → St W w (cells b2 25 [.int .i64 h.ar, h.nv, h.ev] :: cells b1 25 [.int .i64 g.ar, g.nv, g.ev] :: L) := fun H => hLL ▸ H
  have G1 : ∀ {w}, St W w LL → St W w (cells b1 25 [.int .i64 g.ar, g.nv, g.ev] :: cells b2 25 [.int .i64 h.ar, h.nv, h.ev] :: L) := fun H => (G2 H).up1
  -- behind the lengths
  refine share_of (fun vs w => vs = [] ∧ St W w LL) ?_ ?_
  · clear H
    rintro vs w ⟨rfl, H⟩ σ
    refine share_of (fun vs w => vs = [] ∧ St W w LL) ?_ ?_
    · clear H
      rintro vs w ⟨rfl, H⟩ σ
      (repeat with_reducible (first | refine Red.to ?_ | (refine is_rload ?_; (first | refine rv_load H rfl ?_ | refine rv_load H.up1 rfl ?_ | refine rv_load H.up2 rfl ?_ | refine rv_load H.up3 rfl ?_ | refine rv_load H.up4 rfl ?_))))
      refine rv_load (G1 H) rfl ?_
      refine rv_len_rd0 (T1 _ H).2.1 ?_
      refine loop_of (fun vs w => ∃ i : Nat, vs = [.int .i64 i] ∧ i ≤ g.edges.length ∧ St W w LL) (fun vs _ => match vs with | [.int _ i] => g.edges.length - i.toNat | _ => 0) ⟨0, rfl, by omega, H⟩ ?_
      clear H
      rintro vs w kk ⟨i, rfl, hi, H⟩ hkk σ
      simp only [List.getD_cons_zero, List.getD_cons_succ]
      (repeat with_reducible (first | refine Red.to ?_ | (refine is_rload ?_; (first | refine rv_load H rfl ?_ | refine rv_load H.up1 rfl ?_ | refine rv_load H.up2 rfl ?_ | refine rv_load H.up3 rfl ?_ | refine rv_load H.up4 rfl ?_))))
      refine cond_split (fun hc => ?_) (fun hc => ?_)
      · have hlt : i < g.edges.length := by have := of_decide_eq_true hc; omega
        obtain ⟨o, ho⟩ : ∃ o, g.edges[i]? = some o := ⟨_, List.getElem?_eq_getElem hlt⟩
        obtain ⟨g1, off1, cap1, hv1, hc1⟩ := Kn0.form (fun w h => (T1 w h).2.1) H (by omega)
        obtain ⟨g2, off2, cap2, hv2, hc2⟩ := Kn0.form (fun w h => (T2 w h).2.1) H (by rw [← hes]; omega)
        replace H := H.drew
        refine ⟨fun w => St W w LL, H, ?_⟩
        refine tp_field0 ?_
        refine tp_field0 ?_
        refine tk (fun w h => Ops.run_load ((G1 h).load rfl)) ?_
        rw [hv1]
        refine tp_index (by omega) (by omega) ?_
        have e1 : ∀ off : Nat, off + ((i : Nat) : Int).toNat * 5 = off + i * 5 := by intro off; simp
        rw [e1]
        refine tk (fun w h => run_row (cs := o.cs) rfl (fun j v hj => hc1 w h _ v (fl_get EdgeD.len _ i j o v ho hj))) ?_
        refine rv (Ops.run_load ((G2 H).load rfl)) ?_
        first | refine keep_same (H) ?_ | refine ⟨H, ?_⟩
        rw [hv2]
        refine tp_index (by omega) (by rw [← hes]; omega) ?_
        rw [e1]
        refine rv (run_row (cs := o.cs) rfl (fun j v hj => hc2 _ H _ v (fl_get EdgeD.len _ i j o v (by rw [← hes]; exact ho) hj))) ?_
        first | refine keep_same (H) ?_ | refine ⟨H, ?_⟩
        refine tp (fun w => run_nea (b := (o.f == o.f) && ((o.o == o.o) && ((o.t == o.t) && ((o.i == o.i) && ((o.kd == o.kd) && true))))) (by kernel_rfl) (by kernel_rfl)) ?_
        simp only [beq_self_eq_true, Bool.and_self, Bool.not_true]
        refine cond_false' ?_
        (repeat with_reducible (first | refine Red.to ?_ | (refine is_rload ?_; (first | refine rv_load H rfl ?_ | refine rv_load H.up1 rfl ?_ | refine rv_load H.up2 rfl ?_ | refine rv_load H.up3 rfl ?_ | refine rv_load H.up4 rfl ?_))))
        rw [i64_small (by omega) (by omega)]
        exact hkk _ _ ⟨i + 1, rfl, by omega, H⟩ (by simp; omega)
      · exact k _ (G2 H).drop.drop
    · intro J hJ
      (repeat with_reducible (first | refine Red.to ?_ | (refine is_rload ?_; (first | refine rv_load H rfl ?_ | refine rv_load H.up1 rfl ?_ | refine rv_load H.up2 rfl ?_ | refine rv_load H.up3 rfl ?_ | refine rv_load H.up4 rfl ?_))))
      refine rv_load (G1 H) rfl ?_
      refine rv_len_rd0 (T1 _ H).1 ?_
      refine loop_of (fun vs w => ∃ i : Nat, vs = [.int .i64 i] ∧ i ≤ g.nodes.length ∧ St W w LL) (fun vs _ => match vs with | [.int _ i] => g.nodes.length - i.toNat | _ => 0) ⟨0, rfl, by omega, H⟩ ?_
      clear H
      rintro vs w kk ⟨i, rfl, hi, H⟩ hkk σ
      simp only [List.getD_cons_zero, List.getD_cons_succ]
      (repeat with_reducible (first | refine Red.to ?_ | (refine is_rload ?_; (first | refine rv_load H rfl ?_ | refine rv_load H.up1 rfl ?_ | refine rv_load H.up2 rfl ?_ | refine rv_load H.up3 rfl ?_ | refine rv_load H.up4 rfl ?_))))
      refine cond_split (fun hc => ?_) (fun hc => ?_)
      · have hlt : i < g.nodes.length := by have := of_decide_eq_true hc; omega
        obtain ⟨n, hn⟩ : ∃ o, g.nodes[i]? = some o := ⟨_, List.getElem?_eq_getElem hlt⟩
        obtain ⟨m, hm⟩ : ∃ o, h.nodes[i]? = some o := ⟨_, List.getElem?_eq_getElem (by omega)⟩
        have hnm : n.er = m.er := by
          have := congrArg (·[i]?) hns
          simpa [hn, hm] using this
        obtain ⟨g1, off1, cap1, hv1, hc1⟩ := Kn0.form (fun w h => (T1 w h).1) H (by omega)
        obtain ⟨g2, off2, cap2, hv2, hc2⟩ := Kn0.form (fun w h => (T2 w h).1) H (by omega)
        replace H := H.drew
        refine ⟨fun w => St W w LL, H, ?_⟩
        refine tp_field0 ?_
        refine tp_field0 ?_
        refine tk (fun w h => Ops.run_load ((G1 h).load rfl)) ?_
        rw [hv1]
        refine tp_index (by omega) (by omega) ?_
        have e1 : ∀ off : Nat, off + ((i : Nat) : Int).toNat * 10 = off + i * 10 := by intro off; simp
        rw [e1]
        refine tk (fun w h => run_row (cs := n.cs) rfl (fun j v hj => hc1 w h _ v (fl_get NodeV.len _ i j n v hn hj))) ?_
        refine rv (Ops.run_load ((G2 H).load rfl)) ?_
        first | refine keep_same (H) ?_ | refine ⟨H, ?_⟩
        rw [hv2]
        refine tp_index (by omega) (by omega) ?_
        rw [e1]
        refine rv (run_row (cs := m.cs) rfl (fun j v hj => hc2 _ H _ v (fl_get NodeV.len _ i j m v hm hj))) ?_
        first | refine keep_same (H) ?_ | refine ⟨H, ?_⟩
        have hno := hok.2.1 n (List.mem_of_getElem? hn)
        unfold NodeV.ok at hno
        refine sameNode_spec hnm (T1.node (List.mem_of_getElem? hn)) (T2.node (List.mem_of_getElem? hm)) ⟨hno.2.2.2.2.2.2.2.2.2.1, hno.2.2.2.2.2.2.2.2.2.2⟩ H ?_
        clear H
        intro w5 H
        refine tp_not_t ?_
        refine cond_false' ?_
        (repeat with_reducible (first | refine Red.to ?_ | (refine is_rload ?_; (first | refine rv_load H rfl ?_ | refine rv_load H.up1 rfl ?_ | refine rv_load H.up2 rfl ?_ | refine rv_load H.up3 rfl ?_ | refine rv_load H.up4 rfl ?_))))
        rw [i64_small (by omega) (by omega)]
        exact hkk _ _ ⟨i + 1, rfl, by omega, H⟩ (by simp; omega)
      · exact hJ _ _ ⟨rfl, H⟩
  · intro J hJ
    (repeat with_reducible (first | refine Red.to ?_ | (refine is_rload ?_; (first | refine rv_load H rfl ?_ | refine rv_load H.up1 rfl ?_ | refine rv_load H.up2 rfl ?_ | refine rv_load H.up3 rfl ?_ | refine rv_load H.up4 rfl ?_))))
    refine rv_load (G1 H) rfl ?_
    (repeat with_reducible (first | refine Red.to ?_ | (refine is_rload ?_; (first | refine rv_load H rfl ?_ | refine rv_load H.up1 rfl ?_ | refine rv_load H.up2 rfl ?_ | refine rv_load H.up3 rfl ?_ | refine rv_load H.up4 rfl ?_))))
    refine rv_load (G2 H) rfl ?_
    rw [har]
    (repeat (first | (with_reducible (first | refine Red.to ?_ | (refine is_rload ?_; (first | refine rv_load H rfl ?_ | refine rv_load H.up1 rfl ?_ | refine rv_load H.up2 rfl ?_ | refine rv_load H.up3 rfl ?_ | refine rv_load H.up4 rfl ?_)) | (refine is_tload ?_; (first | refine tk_load (fun _ H => H) rfl ?_ | refine tk_load (fun _ H => H.up1) rfl ?_ | refine tk_load (fun _ H => H.up2) rfl ?_ | refine tk_load (fun _ H => H.up3) rfl ?_)))) | (refine Share.mk ?_) | (intro _) | (simp only [List.getD_cons_zero, List.getD_cons_succ, bne_self_eq_false])))
    refine rv_load (G1 H) rfl ?_
    refine rv_len_rd0 (T1 _ H).1 ?_
    (repeat with_reducible (first | refine Red.to ?_ | (refine is_rload ?_; (first | refine rv_load H rfl ?_ | refine rv_load H.up1 rfl ?_ | refine rv_load H.up2 rfl ?_ | refine rv_load H.up3 rfl ?_ | refine rv_load H.up4 rfl ?_))))
    refine rv_load (G2 H) rfl ?_
    refine rv_len_rd0 (T2 _ H).1 ?_
    rw [hnl]
    (repeat (first | (with_reducible (first | refine Red.to ?_ | (refine is_rload ?_; (first | refine rv_load H rfl ?_ | refine rv_load H.up1 rfl ?_ | refine rv_load H.up2 rfl ?_ | refine rv_load H.up3 rfl ?_ | refine rv_load H.up4 rfl ?_)) | (refine is_tload ?_; (first | refine tk_load (fun _ H => H) rfl ?_ | refine tk_load (fun _ H => H.up1) rfl ?_ | refine tk_load (fun _ H => H.up2) rfl ?_ | refine tk_load (fun _ H => H.up3) rfl ?_)))) | (refine Share.mk ?_) | (intro _) | (simp only [List.getD_cons_zero, List.getD_cons_succ, bne_self_eq_false])))
    refine rv_load (G1 H) rfl ?_
    refine rv_len_rd0 (T1 _ H).2.1 ?_
    (repeat with_reducible (first | refine Red.to ?_ | (refine is_rload ?_; (first | refine rv_load H rfl ?_ | refine rv_load H.up1 rfl ?_ | refine rv_load H.up2 rfl ?_ | refine rv_load H.up3 rfl ?_ | refine rv_load H.up4 rfl ?_))))
    refine rv_load (G2 H) rfl ?_
    refine rv_len_rd0 (T2 _ H).2.1 ?_
    rw [hes]
    (repeat (first | (with_reducible (first | refine Red.to ?_ | (refine is_rload ?_; (first | refine rv_load H rfl ?_ | refine rv_load H.up1 rfl ?_ | refine rv_load H.up2 rfl ?_ | refine rv_load H.up3 rfl ?_ | refine rv_load H.up4 rfl ?_)) | (refine is_tload ?_; (first | refine tk_load (fun _ H => H) rfl ?_ | refine tk_load (fun _ H => H.up1) rfl ?_ | refine tk_load (fun _ H => H.up2) rfl ?_ | refine tk_load (fun _ H => H.up3) rfl ?_)))) | (refine Share.mk ?_) | (intro _) | (simp only [List.getD_cons_zero, List.getD_cons_succ, bne_self_eq_false])))
    exact hJ _ _ ⟨rfl, H⟩
end
end Go.Proofs.Ytdmocobabpmoeaa
