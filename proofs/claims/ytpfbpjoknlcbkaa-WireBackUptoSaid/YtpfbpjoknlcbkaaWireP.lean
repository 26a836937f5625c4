/-
  WireWrites: the walk of the law.
-/
import Derived.Test.YtpfbpjoknlcbkaaWireN
namespace Go.Proofs.Ytpfbpjoknlcbkaa
open Go.Vc Go.Sep Go.Ops
set_option linter.unusedVariables false
set_option linter.unusedSectionVars false
set_option linter.unusedSimpArgs false

section
variable {W w : World} {L : List HProp} {K : Value → World → Prop} {KU : World → Prop} {X : XPost}
theorem grow (a b c i : Nat) (h1 : a ≤ b + c + 10) (h2 : c ≤ 1048576) (h3 : b ≤ i * 1048586) : a ≤ (i + 1) * 1048586 := by
  have e : (i + 1) * 1048586 = i * 1048586 + 1048586 := Nat.succ_mul i 1048586
  rw [e]
  exact Nat.le_trans h1 (by rw [Nat.add_assoc]; exact Nat.add_le_add h3 (Nat.add_le_add_right h2 10))
theorem wwrites_spec {a : Value} {ops : List OpV} (R3 : Rd W a ops.length (flat ops)) (hok : ∀ o ∈ ops, o.ok) (hB : ∀ o ∈ ops, ∃ xs : List UInt8, Rd0 W o.b xs.length (bv xs) ∧ xs.length ≤ 1048576)
    (hl3 : ops.length ≤ 1048576) (H : St W w L)
    (k : ∀ w', St W w' L → K (.bool true) w') : FCall Try.prog Fn.sluicelaw07_WireWrites #[a] w K X := by
  refine sluicelaw07_WireWrites_call ?_
  unfold Sh.sluicelaw07_WireWrites
  refine taken_spec H ?_
  clear H
  intro w1 H
  (repeat with_reducible (first | refine Red.to ?_ | (refine is_rload ?_; (first | refine rv_load H rfl ?_ | refine rv_load H.up1 rfl ?_ | refine rv_load H.up2 rfl ?_ | refine rv_load H.up3 rfl ?_ | refine rv_load H.up4 rfl ?_))))
  refine NewWriter_spec H ?_
  clear H
  intro x w2 H
  refine NewWriter_spec H ?_
  clear H
  intro y w3 H
  refine ⟨?_⟩
  (repeat (first | (with_reducible (first | refine Red.to ?_ | (refine is_rload ?_; (first | refine rv_load H rfl ?_ | refine rv_load H.up1 rfl ?_ | refine rv_load H.up2 rfl ?_ | refine rv_load H.up3 rfl ?_ | refine rv_load H.up4 rfl ?_)) | (refine is_tload ?_; (first | refine tk_load (fun _ H => H) rfl ?_ | refine tk_load (fun _ H => H.up1) rfl ?_ | refine tk_load (fun _ H => H.up2) rfl ?_ | refine tk_load (fun _ H => H.up3) rfl ?_)))) | (intro _) | (simp only [List.getD_cons_zero, List.getD_cons_succ])))
  refine rv (v := .agg #[.slice none 0 0, .int .i64 0]) (w' := w3) (by kernel_rfl) ?_
  refine rv_box (c := [.slice none 0 0, .int .i64 0]) H rfl ?_
  clear H
  intro r w4 H
  replace H : St W w4 (Wf r 0 [] :: Wr y 0 [] :: Wr x 0 [] :: L) := Wf.m (H.sl_nil 5 1).up1
  refine rv (v := .agg #[.slice none 0 0, .int .i64 0]) (w' := w4) (by kernel_rfl) ?_
  refine rv_box (c := [.slice none 0 0, .int .i64 0]) H rfl ?_
  clear H
  intro s w5 H
  replace H : St W w5 (Wf s 0 [] :: Wf r 0 [] :: Wr y 0 [] :: Wr x 0 [] :: L) := Wf.m (H.sl_nil 5 1).up1
  refine rv (v := .agg #[.slice none 0 0, .slice none 0 0]) (w' := w5) (by kernel_rfl) ?_
  refine rv_box (c := [.slice none 0 0, .slice none 0 0]) H rfl ?_
  clear H
  intro kb w6 H
  replace H : St W w6 (Bk kb [] :: Wf s 0 [] :: Wf r 0 [] :: Wr y 0 [] :: Wr x 0 [] :: L) := by
    have H := ((H.sl_nil 9 1).sl_nil 27 1).up2
    exact Bk.m (l := []) H
  refine share_of (fun vs w => ∃ (e1 : Int) (bs1 : List UInt8) (e2 : Int) (bs2 : List UInt8) (l : List (Value × List UInt8)), l.length ≤ 2 * ops.length ∧ (∀ q ∈ l, q.2.length ≤ 1200000000000) ∧ bs1.length ≤ 1200000000000 ∧ bs2.length ≤ 1200000000000 ∧ St W w (Bk kb l :: Wr x e1 bs1 :: Wf r e1 bs1 :: Wr y e2 bs2 :: Wf s e2 bs2 :: L)) ?_ ?_
  · clear H
    rintro vs w ⟨e1, bs1, e2, bs2, l, hl, hb, hb1, hb2, H⟩ σ
    refine whole_spec (by omega) (fun q h => by have := hb q h; omega) H ?_
    clear H
    intro w7 H
    (repeat with_reducible (first | refine Red.to ?_ | (refine is_rload ?_; (first | refine rv_load H rfl ?_ | refine rv_load H.up1 rfl ?_ | refine rv_load H.up2 rfl ?_ | refine rv_load H.up3 rfl ?_ | refine rv_load H.up4 rfl ?_))))
    have K0 := fun w' (H : St W w' L) => k w' H
    obtain ⟨v2, H⟩ := Wf.o H.up3
    obtain ⟨v1, H⟩ := Wf.o H.up3
    have H : St W w7 (cells r 29 [v1, .int .i64 e1] :: Bs v1 bs1 :: cells s 29 [v2, .int .i64 e2] :: Bs v2 bs2 :: Wr x e1 bs1 :: Wr y e2 bs2 :: L) := H
    replace H := H.drew
    refine ⟨fun w => St W w (cells r 29 [v1, .int .i64 e1] :: Bs v1 bs1 :: cells s 29 [v2, .int .i64 e2] :: Bs v2 bs2 :: Wr x e1 bs1 :: Wr y e2 bs2 :: L), H, ?_⟩
    (repeat with_reducible (first | refine Red.to ?_ | (refine is_tload ?_; (first | refine tk_load (fun _ H => H) rfl ?_ | refine tk_load (fun _ H => H.up1) rfl ?_ | refine tk_load (fun _ H => H.up2) rfl ?_ | refine tk_load (fun _ H => H.up3) rfl ?_))))
    refine tk (fun w h => run_str h.up1.rd) ?_
    refine Data_spec H.up4 (by omega) ?_
    clear H
    intro y1 w8 H
    first | refine keep_same (H.drop.dn4) ?_ | refine ⟨H.drop.dn4, ?_⟩
    refine rv_str H.rd ?_
    first | refine keep_same (H.drop.dn4) ?_ | refine ⟨H.drop.dn4, ?_⟩
    refine tp_eql_s ?_
    rw [eql_txt, decide_eq_true rfl]
    replace H := H.drop.dn4
    refine ⟨?_⟩
    refine guard_tt ?_
    (repeat with_reducible (first | refine Red.to ?_ | (refine is_tload ?_; (first | refine tk_load (fun _ H => H) rfl ?_ | refine tk_load (fun _ H => H.up1) rfl ?_ | refine tk_load (fun _ H => H.up2) rfl ?_ | refine tk_load (fun _ H => H.up3) rfl ?_))))
    refine tk (fun w h => run_str h.up3.rd) ?_
    refine Data_spec H.up5 (by omega) ?_
    clear H
    intro y2 w9 H
    first | refine keep_same (H.drop.dn5) ?_ | refine ⟨H.drop.dn5, ?_⟩
    refine rv_str H.rd ?_
    first | refine keep_same (H.drop.dn5) ?_ | refine ⟨H.drop.dn5, ?_⟩
    refine tp_eql_s ?_
    rw [eql_txt, decide_eq_true rfl]
    replace H := H.drop.dn5
    (repeat (first | (with_reducible (first | refine Red.to ?_ | (refine is_rload ?_; (first | refine rv_load H rfl ?_ | refine rv_load H.up1 rfl ?_ | refine rv_load H.up2 rfl ?_ | refine rv_load H.up3 rfl ?_ | refine rv_load H.up4 rfl ?_)) | (refine is_tload ?_; (first | refine tk_load (fun _ H => H) rfl ?_ | refine tk_load (fun _ H => H.up1) rfl ?_ | refine tk_load (fun _ H => H.up2) rfl ?_ | refine tk_load (fun _ H => H.up3) rfl ?_)))) | (refine Share.mk ?_) | (intro _) | (simp only [List.getD_cons_zero, List.getD_cons_succ])))
    refine Err_spec H.up4 ?_
    first | refine keep_same (H) ?_ | refine ⟨H, ?_⟩
    (repeat (first | (with_reducible (first | refine Red.to ?_ | (refine is_rload ?_; (first | refine rv_load H rfl ?_ | refine rv_load H.up1 rfl ?_ | refine rv_load H.up2 rfl ?_ | refine rv_load H.up3 rfl ?_ | refine rv_load H.up4 rfl ?_)) | (refine is_tload ?_; (first | refine tk_load (fun _ H => H) rfl ?_ | refine tk_load (fun _ H => H.up1) rfl ?_ | refine tk_load (fun _ H => H.up2) rfl ?_ | refine tk_load (fun _ H => H.up3) rfl ?_)))) | (refine Share.mk ?_) | (intro _) | (simp only [List.getD_cons_zero, List.getD_cons_succ, beq_self_eq_true])))
    refine Err_spec H.up5 ?_
    first | refine keep_same (H) ?_ | refine ⟨H, ?_⟩
    (repeat (first | (with_reducible (first | refine Red.to ?_ | (refine is_rload ?_; (first | refine rv_load H rfl ?_ | refine rv_load H.up1 rfl ?_ | refine rv_load H.up2 rfl ?_ | refine rv_load H.up3 rfl ?_ | refine rv_load H.up4 rfl ?_)) | (refine is_tload ?_; (first | refine tk_load (fun _ H => H) rfl ?_ | refine tk_load (fun _ H => H.up1) rfl ?_ | refine tk_load (fun _ H => H.up2) rfl ?_ | refine tk_load (fun _ H => H.up3) rfl ?_)))) | (refine Share.mk ?_) | (intro _) | (simp only [List.getD_cons_zero, List.getD_cons_succ, beq_self_eq_true])))
    exact k _ H.drop.drop.drop.drop.drop.drop
  · intro J hJ
    refine loop_of (fun vs w => ∃ (i : Nat) (e1 : Int) (bs1 : List UInt8) (e2 : Int) (bs2 : List UInt8) (l : List (Value × List UInt8)), vs = [.int .i64 i] ∧ i ≤ ops.length ∧ l.length ≤ 2 * i ∧ (∀ q ∈ l, q.2.length ≤ 1200000000000) ∧ bs1.length ≤ i * 1048586 ∧ bs2.length ≤ i * 1048586 ∧ St W w (Wr x e1 bs1 :: Wf r e1 bs1 :: Bk kb l :: Wr y e2 bs2 :: Wf s e2 bs2 :: L))
      (fun vs _ => match vs with | [.int _ i] => ops.length - i.toNat | _ => 0) ⟨0, 0, [], 0, [], [], rfl, by omega, by simp, by simp, by simp, by simp, ?_⟩ ?_
    · exact H.up1.up3.up2.up4.up4.up1
    clear H
    rintro vs w kk ⟨i, e1, bs1, e2, bs2, l, rfl, hi, hli, hlb, hb1, hb2, H⟩ hkk σ
    simp only [List.getD_cons_zero, List.getD_cons_succ]
    refine rv_len_rd (R3.old H) ?_
    (repeat with_reducible (first | refine Red.to ?_ | (refine is_rload ?_; (first | refine rv_load H rfl ?_ | refine rv_load H.up1 rfl ?_ | refine rv_load H.up2 rfl ?_ | refine rv_load H.up3 rfl ?_ | refine rv_load H.up4 rfl ?_))))
    refine cond_split (fun h => ?_) (fun h => ?_)
    · have h : i < ops.length := by have := of_decide_eq_true h; omega
      obtain ⟨o, ho⟩ : ∃ o, ops[i]? = some o := ⟨_, List.getElem?_eq_getElem h⟩
      have hoo := hok o (List.mem_of_getElem? ho)
      obtain ⟨xs, Rx, hx⟩ := hB o (List.mem_of_getElem? ho)
      refine share_of (fun vs w => vs = [.bool true] ∧ ∃ (e1 : Int) (bs1 : List UInt8) (e2 : Int) (bs2 : List UInt8) (l : List (Value × List UInt8)), l.length ≤ 2 * (i + 1) ∧ (∀ q ∈ l, q.2.length ≤ 1200000000000) ∧ bs1.length ≤ (i + 1) * 1048586 ∧ bs2.length ≤ (i + 1) * 1048586 ∧ St W w (Wr x e1 bs1 :: Wf r e1 bs1 :: Bk kb l :: Wr y e2 bs2 :: Wf s e2 bs2 :: L)) ?_ ?_
      · clear H
        rintro vs w ⟨rfl, e1, bs1, e2, bs2, l, hl, hb, hb1, hb2, H⟩ σ
        simp only [List.getD_cons_zero, List.getD_cons_succ]
        (repeat with_reducible (first | refine Red.to ?_ | (refine is_rload ?_; (first | refine rv_load H rfl ?_ | refine rv_load H.up1 rfl ?_ | refine rv_load H.up2 rfl ?_ | refine rv_load H.up3 rfl ?_ | refine rv_load H.up4 rfl ?_))))
        rw [i64_small (by omega) (by omega)]
        exact hkk _ _ ⟨i + 1, e1, bs1, e2, bs2, l, by simp, by omega, hl, hb, hb1, hb2, H⟩ (by simp; omega)
      · intro J2 hJ2
        rcases R3 with ⟨_, h0, _⟩ | ⟨g3, off, cap3, rfl, hn3, hc3⟩
        · omega
        have R3 : Rd W (.slice (some ⟨g3, off, none⟩) ops.length cap3) ops.length (flat ops) := .inr ⟨g3, off, cap3, rfl, hn3, hc3⟩
        have ha : ∀ w, St W w L → ∀ j v, o.cs[j]? = some v → w.cell? (Addr.add ⟨g3, off + i * 5, none⟩ j) = some v := by
          intro w H j v hj
          have e : Addr.add ⟨g3, off + i * 5, none⟩ j = ⟨g3, off + i * 5 + j, none⟩ := by by_cases h : j = 0 <;> simp [Addr.add, h]
          rw [e]
          exact op_cell (v := .nilIface) (R3.old H) ho hj
        have H0 := St.dropL (A := [_, _, _, _, _]) H
        have ei : off + ((i : Nat) : Int).toNat * 5 = off + i * 5 := by simp
        refine rv_index (by omega) (by omega) ?_
        rw [ei]
        (repeat with_reducible (first | refine Red.to ?_ | (refine is_rload ?_; (first | refine rv_load H rfl ?_ | refine rv_load H.up1 rfl ?_ | refine rv_load H.up2 rfl ?_ | refine rv_load H.up3 rfl ?_ | refine rv_load H.up4 rfl ?_))))
        refine rv (Ops.run_load (op_cell (v := .nilIface) (R3.old H0) ho (j := 1) rfl)) ?_
        refine cond_split (fun h2 => ?_) (fun h2 => ?_)
        · refine rv_index (by omega) (by omega) ?_
          rw [ei]
          refine rv (run_load_agg (cs := o.cs) rfl (ha _ H0)) ?_
          refine writes_spec hoo.1 hoo.2 Rx hx (by omega) (by omega) H.up2.up4.up4 ?_
          intro e' bs' l' w' h3 h4 h5 H
          refine hJ2 _ _ ⟨rfl, e1, bs1, e', bs', l', by omega, ?_, by rw [Nat.add_mul]; exact Nat.le_trans hb1 (Nat.le_add_right _ _), grow _ _ _ _ h3 hx hb2, H.up2.up4.up4⟩
          intro q hq
          rcases h5 q hq with h6 | h6
          · exact hlb q h6
          · omega
        · refine rv_index (by omega) (by omega) ?_
          rw [ei]
          refine rv (run_load_agg (cs := o.cs) rfl (ha _ H0)) ?_
          refine writes_spec hoo.1 hoo.2 Rx hx (by omega) (by omega) H ?_
          intro e' bs' l' w' h3 h4 h5 H
          refine hJ2 _ _ ⟨rfl, e', bs', e2, bs2, l', by omega, ?_, grow _ _ _ _ h3 hx hb1, by rw [Nat.add_mul]; exact Nat.le_trans hb2 (Nat.le_add_right _ _), H⟩
          intro q hq
          rcases h5 q hq with h6 | h6
          · exact hlb q h6
          · omega
    · exact hJ _ _ ⟨e1, bs1, e2, bs2, l, by omega, hlb, by omega, by omega, H.up2⟩
end
end Go.Proofs.Ytpfbpjoknlcbkaa
