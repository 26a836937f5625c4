/-
  WireOne: what is taken off bytes is a number's one form; the walk of the law.
-/
import Derived.Test.YtpfbpjoknlcbkaaWireD
namespace Go.Proofs.Ytpfbpjoknlcbkaa
open Go.Vc Go.Sep Go.Ops
set_option linter.unusedVariables false
set_option linter.unusedSectionVars false
set_option linter.unusedSimpArgs false

theorem numGo_form : ∀ (l : List UInt8) (i v : Nat), (numGo i v l).2.2 = 0 → ∃ x, (numGo i v l).1 = v + x * 128 ^ i ∧ form x = l.take ((numGo i v l).2.1 - i) ∧ i < (numGo i v l).2.1 ∧ (1 ≤ i → x ≠ 0)
  | [], i, v, h => by simp [numGo] at h
  | b :: r, i, v, h => by
    unfold numGo at h ⊢
    have hb := b.toNat_lt
    split at h
    · simp at h
    rename_i hn
    rw [if_neg hn]
    split at h
    · rename_i h1
      rw [if_pos h1]
      refine ⟨b.toNat, ?_, ?_, by simp, ?_⟩
      · rw [Nat.mod_eq_of_lt h1]
      · rw [form_lt h1]
        simp
      · intro hi h0
        refine hn (.inl ⟨by omega, ?_⟩)
        rw [← UInt8.ofNat_toNat (x := b), h0]
        rfl
    · rename_i h1
      rw [if_neg h1]
      obtain ⟨x, e1, e2, e3, e4⟩ := numGo_form r (i + 1) _ h
      have hx := e4 (by omega)
      refine ⟨b.toNat % 128 + 128 * x, ?_, ?_, by omega, fun _ => by omega⟩
      · rw [e1, Nat.pow_succ, Nat.add_mul]
        have : x * (128 ^ i * 128) = 128 * x * 128 ^ i := by
          rw [Nat.mul_comm (128 ^ i) 128, ← Nat.mul_assoc, Nat.mul_comm x 128]
        omega
      · rw [form_ge (by omega)]
        have h2 : (b.toNat % 128 + 128 * x) % 128 + 128 = b.toNat := by omega
        have h3 : (b.toNat % 128 + 128 * x) / 128 = x := by omega
        rw [h2, h3, e2]
        obtain ⟨m, hm⟩ : ∃ m, (numGo (i + 1) (v + b.toNat % 128 * 128 ^ i) r).2.1 - i = m + 1 := ⟨_, (Nat.succ_pred_eq_of_pos (by omega)).symm⟩
        have hm' : (numGo (i + 1) (v + b.toNat % 128 * 128 ^ i) r).2.1 - (i + 1) = m := by omega
        rw [hm, hm', List.take_succ_cons, UInt8.ofNat_toNat]
theorem num_form {l : List UInt8} (h : (num l).2.2 = 0) : form (num l).1 = l.take (num l).2.1 := by
  obtain ⟨x, e1, e2, _, _⟩ := numGo_form l 0 0 h
  have : (num l).1 = x := by unfold num; rw [e1]; simp
  rw [this]
  simpa [num] using e2
theorem zz_back {v : Nat} : zz (back v) = v := by
  unfold zz back
  split <;> split <;> omega
theorem back_zz {n : Int} : back (zz n) = n := by
  unfold zz back
  split <;> split <;> omega
theorem back_bounds {v : Nat} (h : v < 18446744073709551616) : -9223372036854775808 ≤ back v ∧ back v < 9223372036854775808 := by
  unfold back
  split <;> omega
theorem rNum_bounds (bs : List UInt8) (at_ most : Nat) : (rNum 0 bs at_ most).1 < 18446744073709551616 := by
  have := (num_bounds (bs.drop at_)).1
  unfold rNum
  split
  · simp
  · split
    · simp
    · split
      · simp
      · exact this
/-- of a reader that is at the beginning -/
theorem rNum_cases (bs : List UInt8) (most : Nat) :
    ((rNum 0 bs 0 most).2.1 = 0 ∧ 1 ≤ (rNum 0 bs 0 most).2.2 ∧ (rNum 0 bs 0 most).2.2 ≤ 10 ∧ (rNum 0 bs 0 most).2.2 ≤ bs.length ∧ form (rNum 0 bs 0 most).1 = bs.take (rNum 0 bs 0 most).2.2) ∨
    ((rNum 0 bs 0 most).2.2 = 0 ∧ ((rNum 0 bs 0 most).2.1 = 30 ∨ (rNum 0 bs 0 most).2.1 = 31 ∨ ((rNum 0 bs 0 most).2.1 = 12 ∧ most < 18446744073709551615))) := by
  have hb := num_bounds bs
  have hf := @num_form bs
  unfold rNum
  simp only [List.drop_zero]
  rw [if_neg (by simp)]
  by_cases h : (num bs).2.2 ≠ 0
  · right
    rw [if_pos h]
    refine ⟨rfl, ?_⟩
    rcases hb.2.2.2.1 with h0 | h0 | h0
    · exact absurd h0 h
    · exact .inl h0
    · exact .inr (.inl h0)
  · rw [if_neg h]
    by_cases h1 : most < (num bs).1
    · right
      rw [if_pos h1]
      exact ⟨rfl, .inr (.inr ⟨rfl, by omega⟩)⟩
    · left
      rw [if_neg h1]
      have := hf (by omega)
      simp only [Nat.zero_add]
      refine ⟨trivial, ?_, ?_, hb.2.1, this⟩ <;> omega

theorem z8 : ((((0 : UInt8).toNat : Nat) : Int) == 0) = true := rfl
theorem zl : (((([] : List UInt8).length : Nat) : Int) == 0) = true := rfl
theorem bz : (back 0 == 0) = true := rfl
theorem n30_30 : ((((30 : Nat)) : Int) != 30) = false := rfl
theorem n30_31 : ((((30 : Nat)) : Int) != 31) = true := rfl
theorem n30_12 : ((((30 : Nat)) : Int) != 12) = true := rfl
theorem n31_30 : ((((31 : Nat)) : Int) != 30) = true := rfl
theorem n31_31 : ((((31 : Nat)) : Int) != 31) = false := rfl
theorem n31_12 : ((((31 : Nat)) : Int) != 12) = true := rfl
theorem n12_30 : ((((12 : Nat)) : Int) != 30) = true := rfl
theorem n12_31 : ((((12 : Nat)) : Int) != 31) = true := rfl
theorem n12_12 : ((((12 : Nat)) : Int) != 12) = false := rfl
theorem q30_12 : ((((30 : Nat)) : Int) == 12) = false := rfl
theorem q31_12 : ((((31 : Nat)) : Int) == 12) = false := rfl
theorem q12_12 : ((((12 : Nat)) : Int) == 12) = true := rfl
section
variable {W w : World} {L : List HProp} {K : Value → World → Prop} {X : XPost}
theorem one_spec {a : Value} {bs : List UInt8} {most : Nat} {whole : Bool} (hm : most < 18446744073709551616) (R : Rd W a bs.length (bv bs)) (hl : bs.length ≤ 140737488351232) (H : St W w L)
    (k : ∀ w', St W w' L → K (.bool true) w') : FCall Try.prog Fn.sluicelaw07_WireOne #[a, .int .u64 most, .bool whole] w K X := by
  refine sluicelaw07_WireOne_call ?_
  unfold Sh.sluicelaw07_WireOne
  refine taken_spec H ?_
  intro w1 H
  (repeat (first | (with_reducible (first | refine Red.to ?_ | (refine is_rload ?_; (first | refine rv_load H rfl ?_ | refine rv_load H.up1 rfl ?_ | refine rv_load H.up2 rfl ?_ | refine rv_load H.up3 rfl ?_ | refine rv_load H.up4 rfl ?_)) | (refine is_tload ?_; (first | refine tk_load (fun _ H => H) rfl ?_ | refine tk_load (fun _ H => H.up1) rfl ?_ | refine tk_load (fun _ H => H.up2) rfl ?_ | refine tk_load (fun _ H => H.up3) rfl ?_)))) | (refine Share.mk ?_) | (intro _) | (simp only [List.getD_cons_zero, List.getD_cons_succ])))
  refine rv_build0 H ?_
  intro g w2 H
  have H := H.sl_of_cells (size := 1) (n := 0) (cap := 0) rfl (by omega) (by unfold maxLen; omega)
  refine rv_append_rd H (R.old H) (by simp [bv]) bv_one (by unfold maxLen; omega) (by omega) ?_
  intro y w3 H _
  have H : St W w3 (Bs y bs :: L) := by simpa [Bs] using H
  refine NewReader_spec H Kn.here hl ?_
  intro r w4 H
  refine NewWriter_spec H ?_
  intro b w5 H
  refine ⟨?_⟩
  (repeat (first | (with_reducible (first | refine Red.to ?_ | (refine is_rload ?_; (first | refine rv_load H rfl ?_ | refine rv_load H.up1 rfl ?_ | refine rv_load H.up2 rfl ?_ | refine rv_load H.up3 rfl ?_ | refine rv_load H.up4 rfl ?_)) | (refine is_tload ?_; (first | refine tk_load (fun _ H => H) rfl ?_ | refine tk_load (fun _ H => H.up1) rfl ?_ | refine tk_load (fun _ H => H.up2) rfl ?_ | refine tk_load (fun _ H => H.up3) rfl ?_)))) | (intro _) | (simp only [List.getD_cons_zero, List.getD_cons_succ])))
  obtain ⟨m, hmo, hme⟩ : ∃ m, (if whole then 18446744073709551615 else most) = m ∧ m ≤ 18446744073709551615 := ⟨_, rfl, by split <;> omega⟩
  refine share_of (fun vs w => vs = [] ∧ St W w (Wr b 0 (form (rNum 0 bs 0 m).1) :: Rr r (rNum 0 bs 0 m).2.1 bs (rNum 0 bs 0 m).2.2 :: L)) ?_ ?_
  · clear H
    rintro vs w ⟨rfl, H⟩ σ
    have H := H.up1
    refine RErr_spec H ?_
    rcases rNum_cases bs m with ⟨h1, h2, h3, h4, h5⟩ | ⟨h1, h2⟩
    · generalize rNum 0 bs 0 m = q at h1 h2 h3 h4 h5 H ⊢
      obtain ⟨x, e, t⟩ := q
      simp only at h1 h2 h3 h4 h5 H ⊢
      subst h1
      have hr1 : decide (1 ≤ (t : Int)) = true := by simp; omega
      have hr2 : decide ((t : Int) ≤ 10) = true := by simp; omega
      have hr3 : decide ((t : Int) ≤ (bs.length : Int)) = true := by simp; omega
      (repeat (first | (with_reducible (first | refine Red.to ?_ | (refine is_rload ?_; (first | refine rv_load H rfl ?_ | refine rv_load H.up1 rfl ?_ | refine rv_load H.up2 rfl ?_ | refine rv_load H.up3 rfl ?_ | refine rv_load H.up4 rfl ?_)) | (refine is_tload ?_; (first | refine tk_load (fun _ H => H) rfl ?_ | refine tk_load (fun _ H => H.up1) rfl ?_ | refine tk_load (fun _ H => H.up2) rfl ?_ | refine tk_load (fun _ H => H.up3) rfl ?_)))) | (intro _) | (simp only [List.getD_cons_zero, List.getD_cons_succ, ez])))
      refine ⟨fun w => St W w (Rr r ((0 : Nat) : Int) bs t :: Wr b 0 (form x) :: L), H.drew, ?_⟩
      refine RAt_spec H.drew ?_
      first | refine keep_same (H.drew) ?_ | refine ⟨H.drew, ?_⟩
      (repeat (first | (with_reducible (first | refine Red.to ?_ | (refine is_rload ?_; (first | refine rv_load H rfl ?_ | refine rv_load H.up1 rfl ?_ | refine rv_load H.up2 rfl ?_ | refine rv_load H.up3 rfl ?_ | refine rv_load H.up4 rfl ?_)) | (refine is_tload ?_; (first | refine tk_load (fun _ H => H) rfl ?_ | refine tk_load (fun _ H => H.up1) rfl ?_ | refine tk_load (fun _ H => H.up2) rfl ?_ | refine tk_load (fun _ H => H.up3) rfl ?_)))) | (refine Share.mk ?_) | (intro _) | (simp only [List.getD_cons_zero, List.getD_cons_succ, hr1])))
      refine RAt_spec H.drew ?_
      first | refine keep_same (H.drew) ?_ | refine ⟨H.drew, ?_⟩
      (repeat (first | (with_reducible (first | refine Red.to ?_ | (refine is_rload ?_; (first | refine rv_load H rfl ?_ | refine rv_load H.up1 rfl ?_ | refine rv_load H.up2 rfl ?_ | refine rv_load H.up3 rfl ?_ | refine rv_load H.up4 rfl ?_)) | (refine is_tload ?_; (first | refine tk_load (fun _ H => H) rfl ?_ | refine tk_load (fun _ H => H.up1) rfl ?_ | refine tk_load (fun _ H => H.up2) rfl ?_ | refine tk_load (fun _ H => H.up3) rfl ?_)))) | (refine Share.mk ?_) | (intro _) | (simp only [List.getD_cons_zero, List.getD_cons_succ, hr2])))
      refine tp_len_rd R ?_
      refine RAt_spec H.drew ?_
      first | refine keep_same (H.drew) ?_ | refine ⟨H.drew, ?_⟩
      (repeat (first | (with_reducible (first | refine Red.to ?_ | (refine is_rload ?_; (first | refine rv_load H rfl ?_ | refine rv_load H.up1 rfl ?_ | refine rv_load H.up2 rfl ?_ | refine rv_load H.up3 rfl ?_ | refine rv_load H.up4 rfl ?_)) | (refine is_tload ?_; (first | refine tk_load (fun _ H => H) rfl ?_ | refine tk_load (fun _ H => H.up1) rfl ?_ | refine tk_load (fun _ H => H.up2) rfl ?_ | refine tk_load (fun _ H => H.up3) rfl ?_)))) | (refine Share.mk ?_) | (intro _) | (simp only [List.getD_cons_zero, List.getD_cons_succ, hr3])))
      refine Data_spec H.drew.up1 (by rw [h5]; simp; omega) ?_
      intro y2 w6 H2
      refine keep_to (fun w => St W w (Bs y2 (form x) :: Wr b 0 (form x) :: Rr r ((0 : Nat) : Int) bs t :: L)) H2 (fun w' h => h.drop.up1) ?_
      refine tk (fun w h => run_str h.rd) ?_
      refine RAt_spec H2.up2 ?_
      refine keep_same H2 ?_
      rcases R with ⟨_, h, _⟩ | ⟨g1, off, cap, rfl, hn, hc⟩
      · omega
      refine tp_slice_h' (by omega) (by omega) ?_
      have R2 : Rd w6 (.slice (some ⟨g1, off, none⟩) (t : Int).toNat cap) (bs.take t).length (bv (bs.take t)) := by
        refine .inr ⟨g1, off, cap, ?_, ?_, ?_⟩
        · congr 1
          simp
          omega
        · simp; omega
        · intro j u hj
          refine H2.old (hc j u ?_)
          rw [show bv (bs.take t) = (bv bs).take t by simp [bv, List.map_take]] at hj
          by_cases hjt : j < t
          · rwa [List.getElem?_take_of_lt hjt] at hj
          · rw [List.getElem?_take_eq_none (by omega)] at hj
            cases hj
      refine rv_str R2 ?_
      refine keep_same H2 ?_
      refine tp_eql_s ?_
      rw [eql_txt, h5, decide_eq_true rfl]
      (repeat (first | (with_reducible (first | refine Red.to ?_ | (refine is_rload ?_; (first | refine rv_load H rfl ?_ | refine rv_load H.up1 rfl ?_ | refine rv_load H.up2 rfl ?_ | refine rv_load H.up3 rfl ?_ | refine rv_load H.up4 rfl ?_)) | (refine is_tload ?_; (first | refine tk_load (fun _ H => H) rfl ?_ | refine tk_load (fun _ H => H.up1) rfl ?_ | refine tk_load (fun _ H => H.up2) rfl ?_ | refine tk_load (fun _ H => H.up3) rfl ?_)))) | (refine Share.mk ?_) | (intro _) | (simp only [List.getD_cons_zero, List.getD_cons_succ])))
      exact k _ H2.drop.drop.drop
    · generalize rNum 0 bs 0 m = q at h1 h2 H ⊢
      obtain ⟨x, e, t⟩ := q
      simp only at h1 h2 H ⊢
      subst h1
      have he : e ≠ 0 := by omega
      have n0 : ((e : Int) == 0) = false := by simp; omega
      have hw : e = 12 → whole = false := by
        rintro rfl
        cases whole
        · rfl
        · simp only [if_true] at hmo
          omega
      (repeat (first | (with_reducible (first | refine Red.to ?_ | (refine is_rload ?_; (first | refine rv_load H rfl ?_ | refine rv_load H.up1 rfl ?_ | refine rv_load H.up2 rfl ?_ | refine rv_load H.up3 rfl ?_ | refine rv_load H.up4 rfl ?_)) | (refine is_tload ?_; (first | refine tk_load (fun _ H => H) rfl ?_ | refine tk_load (fun _ H => H.up1) rfl ?_ | refine tk_load (fun _ H => H.up2) rfl ?_ | refine tk_load (fun _ H => H.up3) rfl ?_)))) | (intro _) | (simp only [List.getD_cons_zero, List.getD_cons_succ, n0])))
      refine share_of (fun vs w => vs = [] ∧ St W w (Rr r (e : Int) bs 0 :: Wr b 0 (form x) :: L)) ?_ ?_
      · clear H
        rintro vs w ⟨rfl, H⟩ σ
        refine REnd_spec H ?_
        intro w6 H
        rw [if_neg (by omega)] at H
        refine RByte_spec (e := e) H ?_
        intro w7 H
        rw [show rByte e bs 0 = (0, e, 0) by simp [rByte, he]] at H ⊢
        (repeat (first | (with_reducible (first | refine Red.to ?_ | (refine is_rload ?_; (first | refine rv_load H rfl ?_ | refine rv_load H.up1 rfl ?_ | refine rv_load H.up2 rfl ?_ | refine rv_load H.up3 rfl ?_ | refine rv_load H.up4 rfl ?_)) | (refine is_tload ?_; (first | refine tk_load (fun _ H => H) rfl ?_ | refine tk_load (fun _ H => H.up1) rfl ?_ | refine tk_load (fun _ H => H.up2) rfl ?_ | refine tk_load (fun _ H => H.up3) rfl ?_)))) | (refine Share.mk ?_) | (intro _) | (simp only [List.getD_cons_zero, List.getD_cons_succ, z8])))
        refine RBytes_spec (e := e) (by omega) H ?_
        intro y1 w8 H
        rw [show rBytes e bs 0 9 = ([], e, 0) by simp [rBytes, he]] at H
        refine rv_len_rd H.rd ?_
        (repeat (first | (with_reducible (first | refine Red.to ?_ | (refine is_rload ?_; (first | refine rv_load H rfl ?_ | refine rv_load H.up1 rfl ?_ | refine rv_load H.up2 rfl ?_ | refine rv_load H.up3 rfl ?_ | refine rv_load H.up4 rfl ?_)) | (refine is_tload ?_; (first | refine tk_load (fun _ H => H) rfl ?_ | refine tk_load (fun _ H => H.up1) rfl ?_ | refine tk_load (fun _ H => H.up2) rfl ?_ | refine tk_load (fun _ H => H.up3) rfl ?_)))) | (refine Share.mk ?_) | (intro _) | (simp only [List.getD_cons_zero, List.getD_cons_succ, zl])))
        refine RNum_spec (e := e) (most := 9) H.drop ?_
        intro w9 H
        rw [show rNum e bs 0 9 = (0, e, 0) by simp [rNum, he]] at H ⊢
        (repeat (first | (with_reducible (first | refine Red.to ?_ | (refine is_rload ?_; (first | refine rv_load H rfl ?_ | refine rv_load H.up1 rfl ?_ | refine rv_load H.up2 rfl ?_ | refine rv_load H.up3 rfl ?_ | refine rv_load H.up4 rfl ?_)) | (refine is_tload ?_; (first | refine tk_load (fun _ H => H) rfl ?_ | refine tk_load (fun _ H => H.up1) rfl ?_ | refine tk_load (fun _ H => H.up2) rfl ?_ | refine tk_load (fun _ H => H.up3) rfl ?_)))) | (refine Share.mk ?_) | (intro _) | (simp only [List.getD_cons_zero, List.getD_cons_succ, ez])))
        refine RInt_spec (e := e) H ?_
        intro w10 H
        rw [show rNum e bs 0 18446744073709551615 = (0, e, 0) by simp [rNum, he]] at H ⊢
        (repeat (first | (with_reducible (first | refine Red.to ?_ | (refine is_rload ?_; (first | refine rv_load H rfl ?_ | refine rv_load H.up1 rfl ?_ | refine rv_load H.up2 rfl ?_ | refine rv_load H.up3 rfl ?_ | refine rv_load H.up4 rfl ?_)) | (refine is_tload ?_; (first | refine tk_load (fun _ H => H) rfl ?_ | refine tk_load (fun _ H => H.up1) rfl ?_ | refine tk_load (fun _ H => H.up2) rfl ?_ | refine tk_load (fun _ H => H.up3) rfl ?_)))) | (refine Share.mk ?_) | (intro _) | (simp only [List.getD_cons_zero, List.getD_cons_succ, bz])))
        refine RErr_spec H ?_
        (repeat (first | (with_reducible (first | refine Red.to ?_ | (refine is_rload ?_; (first | refine rv_load H rfl ?_ | refine rv_load H.up1 rfl ?_ | refine rv_load H.up2 rfl ?_ | refine rv_load H.up3 rfl ?_ | refine rv_load H.up4 rfl ?_)) | (refine is_tload ?_; (first | refine tk_load (fun _ H => H) rfl ?_ | refine tk_load (fun _ H => H.up1) rfl ?_ | refine tk_load (fun _ H => H.up2) rfl ?_ | refine tk_load (fun _ H => H.up3) rfl ?_)))) | (refine Share.mk ?_) | (intro _) | (simp only [List.getD_cons_zero, List.getD_cons_succ, beq_self_eq_true])))
        refine RAt_spec H ?_
        (repeat (first | (with_reducible (first | refine Red.to ?_ | (refine is_rload ?_; (first | refine rv_load H rfl ?_ | refine rv_load H.up1 rfl ?_ | refine rv_load H.up2 rfl ?_ | refine rv_load H.up3 rfl ?_ | refine rv_load H.up4 rfl ?_)) | (refine is_tload ?_; (first | refine tk_load (fun _ H => H) rfl ?_ | refine tk_load (fun _ H => H.up1) rfl ?_ | refine tk_load (fun _ H => H.up2) rfl ?_ | refine tk_load (fun _ H => H.up3) rfl ?_)))) | (refine Share.mk ?_) | (intro _) | (simp only [List.getD_cons_zero, List.getD_cons_succ, ez])))
        exact k _ H.drop.drop
      · intro J hJ
        refine RAt_spec H ?_
        have out := hJ [] _ ⟨rfl, H⟩
        rcases h2 with rfl | rfl | ⟨rfl, hm2⟩
        · cases whole <;> ((repeat (first | (with_reducible (first | refine Red.to ?_ | (refine is_rload ?_; (first | refine rv_load H rfl ?_ | refine rv_load H.up1 rfl ?_ | refine rv_load H.up2 rfl ?_ | refine rv_load H.up3 rfl ?_ | refine rv_load H.up4 rfl ?_)) | (refine is_tload ?_; (first | refine tk_load (fun _ H => H) rfl ?_ | refine tk_load (fun _ H => H.up1) rfl ?_ | refine tk_load (fun _ H => H.up2) rfl ?_ | refine tk_load (fun _ H => H.up3) rfl ?_)))) | (refine Share.mk ?_) | (intro _) | (simp only [List.getD_cons_zero, List.getD_cons_succ, nz, n30_30, n30_31, n30_12, q30_12]))) ; exact out)
        · cases whole <;> ((repeat (first | (with_reducible (first | refine Red.to ?_ | (refine is_rload ?_; (first | refine rv_load H rfl ?_ | refine rv_load H.up1 rfl ?_ | refine rv_load H.up2 rfl ?_ | refine rv_load H.up3 rfl ?_ | refine rv_load H.up4 rfl ?_)) | (refine is_tload ?_; (first | refine tk_load (fun _ H => H) rfl ?_ | refine tk_load (fun _ H => H.up1) rfl ?_ | refine tk_load (fun _ H => H.up2) rfl ?_ | refine tk_load (fun _ H => H.up3) rfl ?_)))) | (refine Share.mk ?_) | (intro _) | (simp only [List.getD_cons_zero, List.getD_cons_succ, nz, n31_30, n31_31, n31_12, q31_12]))) ; exact out)
        · rw [hw rfl]
          (repeat (first | (with_reducible (first | refine Red.to ?_ | (refine is_rload ?_; (first | refine rv_load H rfl ?_ | refine rv_load H.up1 rfl ?_ | refine rv_load H.up2 rfl ?_ | refine rv_load H.up3 rfl ?_ | refine rv_load H.up4 rfl ?_)) | (refine is_tload ?_; (first | refine tk_load (fun _ H => H) rfl ?_ | refine tk_load (fun _ H => H.up1) rfl ?_ | refine tk_load (fun _ H => H.up2) rfl ?_ | refine tk_load (fun _ H => H.up3) rfl ?_)))) | (refine Share.mk ?_) | (intro _) | (simp only [List.getD_cons_zero, List.getD_cons_succ, nz, n12_30, n12_31, n12_12, q12_12])))
          exact out
  · intro J hJ
    cases whole
    · refine cond_false' ?_
      simp only [Bool.false_eq_true, if_false] at hmo
      subst hmo
      refine RNum_spec (e := 0) H.up1 ?_
      intro w6 H
      refine Num_spec H.up1 (rNum_bounds _ _ _) (by simp) ?_
      intro w7 H
      exact hJ _ _ ⟨rfl, by simpa using H.up2.drop⟩
    · refine cond_true' ?_
      simp only [if_true] at hmo
      subst hmo
      refine RInt_spec (e := 0) H.up1 ?_
      intro w6 H
      have hb := back_bounds (rNum_bounds bs 0 18446744073709551615)
      refine Int_spec H.up1 hb.1 hb.2 (by simp) ?_
      intro w7 H
      rw [zz_back] at H
      exact hJ _ _ ⟨rfl, by simpa using H.up2.drop⟩
end
end Go.Proofs.Ytpfbpjoknlcbkaa
