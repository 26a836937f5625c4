/-
  Bytes as text, and what package wire says of nil objects and of a first small run ('taken').
-/
import Derived.Test.YtpfbpjoknlcbkaaWireC
namespace Go.Proofs.Ytpfbpjoknlcbkaa
open Go.Vc Go.Sep Go.Ops
set_option linter.unusedVariables false
set_option linter.unusedSectionVars false
set_option linter.unusedSimpArgs false

/-- bytes as text -/
def txt (bs : List UInt8) : ByteArray := ⟨bs.toArray⟩
theorem txt_list (bs : List UInt8) : (txt bs).toList = bs := by rw [ByteArray.toList_eq]; simp [txt]
theorem txt_nums (bs : List UInt8) : strOfNums (bs.map fun b => (b.toNat : Int)) = txt bs := by
  have : (bs.map fun b => (b.toNat : Int)).map (fun i => UInt8.ofNat i.toNat) = bs := by
    rw [List.map_map]
    conv => rhs; rw [← List.map_id bs]
    refine List.map_congr_left fun b _ => ?_
    simp
  simp only [strOfNums, txt]
  congr 1
  simpa using congrArg List.toArray this
section
variable {W w : World} {L : List HProp} {K : Value → World → Prop} {X : XPost}
theorem run_str {v : Value} {bs : List UInt8} (R : Rd w v bs.length (bv bs)) : (convert 27 9 v).run Try.prog w = .ok (.string (txt bs)) w := by
  rcases R with ⟨rfl, h, _⟩ | ⟨g, off, cap, rfl, hn, hc⟩
  · have : bs = [] := List.eq_nil_of_length_eq_zero h
    subst this
    exact run_bytes_str_nil (e := 5) (by kernel_rfl)
  · rw [← txt_nums]
    refine run_bytes_str (e := 5) (by kernel_rfl) (by simp) ?_
    intro j hj
    refine hc j _ ?_
    simp [bv, hj]
theorem rv_str {v : Value} {bs : List UInt8} (R : Rd w v bs.length (bv bs)) (k : K (.string (txt bs)) w) : RunV Try.prog (convert 27 9 v) w K X := rv (run_str R) k
theorem eql_txt {a b : List UInt8} : ((txt a).toList == (txt b).toList) = decide (a = b) := by
  rw [txt_list, txt_list]
  by_cases h : a = b <;> simp [h]

theorem nz : ((((0 : Nat) : Int)) != 0) = false := rfl
theorem ez : ((((0 : Nat) : Int)) == 0) = true := rfl
theorem taken_spec (H : St W w L) (k : ∀ w', St W w' L → K (.bool true) w') : FCall Try.prog Fn.sluicelaw07_taken #[] w K X := by
  refine sluicelaw07_taken_call ?_
  unfold Sh.sluicelaw07_taken
  refine NewWriter_spec H ?_
  intro b w1 H
  refine rv_buildSlice (parts := [(0, .int .u8 172), (1, .int .u8 2), (2, .int .u8 7)]) H [.int .u8 172, .int .u8 2, .int .u8 7] (by omega) (by kernel_rfl) ?_
  intro g w2 H
  have H := H.sl_of_cells (size := 1) (n := 3) (cap := 3) rfl (by omega) (by unfold maxLen; omega)
  refine NewReader_spec (bs := [172, 2, 7]) H Kn.here (by simp) ?_
  intro r w3 H
  refine Num_nil ?_
  refine Int_nil ?_
  refine Byte_nil ?_
  refine rv_build1 H rfl (by simp [Value.cells]) ?_
  intro g1 w4 H
  refine Bytes_nil ?_
  refine REnd_nil ?_ H
  intro w5 H
  refine ⟨?_⟩
  (repeat (first | (with_reducible (first | refine Red.to ?_ | (refine is_rload ?_; (first | refine rv_load H rfl ?_ | refine rv_load H.up1 rfl ?_ | refine rv_load H.up2 rfl ?_ | refine rv_load H.up3 rfl ?_ | refine rv_load H.up4 rfl ?_)) | (refine is_tload ?_; (first | refine tk_load (fun _ H => H) rfl ?_ | refine tk_load (fun _ H => H.up1) rfl ?_ | refine tk_load (fun _ H => H.up2) rfl ?_ | refine tk_load (fun _ H => H.up3) rfl ?_)))) | (refine Share.mk ?_) | (intro _) | (simp only [List.getD_cons_zero, List.getD_cons_succ])))
  refine Data_nil ?_
  (repeat (first | (with_reducible (first | refine Red.to ?_ | (refine is_rload ?_; (first | refine rv_load H rfl ?_ | refine rv_load H.up1 rfl ?_ | refine rv_load H.up2 rfl ?_ | refine rv_load H.up3 rfl ?_ | refine rv_load H.up4 rfl ?_)) | (refine is_tload ?_; (first | refine tk_load (fun _ H => H) rfl ?_ | refine tk_load (fun _ H => H.up1) rfl ?_ | refine tk_load (fun _ H => H.up2) rfl ?_ | refine tk_load (fun _ H => H.up3) rfl ?_)))) | (refine Share.mk ?_) | (intro _) | (simp only [List.getD_cons_zero, List.getD_cons_succ, bne_self_eq_false, nz])))
  refine Err_nil ?_
  (repeat (first | (with_reducible (first | refine Red.to ?_ | (refine is_rload ?_; (first | refine rv_load H rfl ?_ | refine rv_load H.up1 rfl ?_ | refine rv_load H.up2 rfl ?_ | refine rv_load H.up3 rfl ?_ | refine rv_load H.up4 rfl ?_)) | (refine is_tload ?_; (first | refine tk_load (fun _ H => H) rfl ?_ | refine tk_load (fun _ H => H.up1) rfl ?_ | refine tk_load (fun _ H => H.up2) rfl ?_ | refine tk_load (fun _ H => H.up3) rfl ?_)))) | (refine Share.mk ?_) | (intro _) | (simp only [List.getD_cons_zero, List.getD_cons_succ, bne_self_eq_false, nz])))
  refine RNum_nil ?_
  (repeat (first | (with_reducible (first | refine Red.to ?_ | (refine is_rload ?_; (first | refine rv_load H rfl ?_ | refine rv_load H.up1 rfl ?_ | refine rv_load H.up2 rfl ?_ | refine rv_load H.up3 rfl ?_ | refine rv_load H.up4 rfl ?_)) | (refine is_tload ?_; (first | refine tk_load (fun _ H => H) rfl ?_ | refine tk_load (fun _ H => H.up1) rfl ?_ | refine tk_load (fun _ H => H.up2) rfl ?_ | refine tk_load (fun _ H => H.up3) rfl ?_)))) | (refine Share.mk ?_) | (intro _) | (simp only [List.getD_cons_zero, List.getD_cons_succ, bne_self_eq_false, nz])))
  refine RInt_nil ?_
  (repeat (first | (with_reducible (first | refine Red.to ?_ | (refine is_rload ?_; (first | refine rv_load H rfl ?_ | refine rv_load H.up1 rfl ?_ | refine rv_load H.up2 rfl ?_ | refine rv_load H.up3 rfl ?_ | refine rv_load H.up4 rfl ?_)) | (refine is_tload ?_; (first | refine tk_load (fun _ H => H) rfl ?_ | refine tk_load (fun _ H => H.up1) rfl ?_ | refine tk_load (fun _ H => H.up2) rfl ?_ | refine tk_load (fun _ H => H.up3) rfl ?_)))) | (refine Share.mk ?_) | (intro _) | (simp only [List.getD_cons_zero, List.getD_cons_succ, bne_self_eq_false, nz])))
  refine RByte_nil ?_
  (repeat (first | (with_reducible (first | refine Red.to ?_ | (refine is_rload ?_; (first | refine rv_load H rfl ?_ | refine rv_load H.up1 rfl ?_ | refine rv_load H.up2 rfl ?_ | refine rv_load H.up3 rfl ?_ | refine rv_load H.up4 rfl ?_)) | (refine is_tload ?_; (first | refine tk_load (fun _ H => H) rfl ?_ | refine tk_load (fun _ H => H.up1) rfl ?_ | refine tk_load (fun _ H => H.up2) rfl ?_ | refine tk_load (fun _ H => H.up3) rfl ?_)))) | (refine Share.mk ?_) | (intro _) | (simp only [List.getD_cons_zero, List.getD_cons_succ, bne_self_eq_false, nz])))
  refine RBytes_nil ?_
  (repeat (first | (with_reducible (first | refine Red.to ?_ | (refine is_rload ?_; (first | refine rv_load H rfl ?_ | refine rv_load H.up1 rfl ?_ | refine rv_load H.up2 rfl ?_ | refine rv_load H.up3 rfl ?_ | refine rv_load H.up4 rfl ?_)) | (refine is_tload ?_; (first | refine tk_load (fun _ H => H) rfl ?_ | refine tk_load (fun _ H => H.up1) rfl ?_ | refine tk_load (fun _ H => H.up2) rfl ?_ | refine tk_load (fun _ H => H.up3) rfl ?_)))) | (refine Share.mk ?_) | (intro _) | (simp only [List.getD_cons_zero, List.getD_cons_succ, bne_self_eq_false, nz])))
  refine RAt_nil ?_
  (repeat (first | (with_reducible (first | refine Red.to ?_ | (refine is_rload ?_; (first | refine rv_load H rfl ?_ | refine rv_load H.up1 rfl ?_ | refine rv_load H.up2 rfl ?_ | refine rv_load H.up3 rfl ?_ | refine rv_load H.up4 rfl ?_)) | (refine is_tload ?_; (first | refine tk_load (fun _ H => H) rfl ?_ | refine tk_load (fun _ H => H.up1) rfl ?_ | refine tk_load (fun _ H => H.up2) rfl ?_ | refine tk_load (fun _ H => H.up3) rfl ?_)))) | (refine Share.mk ?_) | (intro _) | (simp only [List.getD_cons_zero, List.getD_cons_succ, bne_self_eq_false, nz])))
  refine RErr_nil ?_
  (repeat (first | (with_reducible (first | refine Red.to ?_ | (refine is_rload ?_; (first | refine rv_load H rfl ?_ | refine rv_load H.up1 rfl ?_ | refine rv_load H.up2 rfl ?_ | refine rv_load H.up3 rfl ?_ | refine rv_load H.up4 rfl ?_)) | (refine is_tload ?_; (first | refine tk_load (fun _ H => H) rfl ?_ | refine tk_load (fun _ H => H.up1) rfl ?_ | refine tk_load (fun _ H => H.up2) rfl ?_ | refine tk_load (fun _ H => H.up3) rfl ?_)))) | (refine Share.mk ?_) | (intro _) | (simp only [List.getD_cons_zero, List.getD_cons_succ, bne_self_eq_false, nz])))
  replace H := H.drop.up2
  refine Num_spec (v := 300) H (by omega) (by simp) ?_
  intro w6 H
  refine Int_spec H (by omega) (by omega) (by simp; exact Nat.le_trans (form_length10 (by omega)) (by omega)) ?_
  intro w7 H
  have e1 : (if (0 : Int) = 0 then (if (0 : Int) = 0 then [] ++ form 300 else []) ++ form (zz (-1)) else (if (0 : Int) = 0 then [] ++ form 300 else [])) = [172, 2, 1] := by
    rw [form_ge (by omega), form_lt (v := 300 / 128) (by omega), form_lt (v := zz (-1)) (by decide)]
    rfl
  rw [e1] at H
  refine Data_spec H (by simp) ?_
  intro y w8 H
  refine rv_str H.rd ?_
  refine rv_eql_s ?_
  have e2 : (txt [172, 2, 1]).toList == (ByteArray.mk #[172, 2, 1]).toList := by
    rw [txt_list, ByteArray.toList_eq]; rfl
  (repeat (first | (with_reducible (first | refine Red.to ?_ | (refine is_rload ?_; (first | refine rv_load H rfl ?_ | refine rv_load H.up1 rfl ?_ | refine rv_load H.up2 rfl ?_ | refine rv_load H.up3 rfl ?_ | refine rv_load H.up4 rfl ?_)) | (refine is_tload ?_; (first | refine tk_load (fun _ H => H) rfl ?_ | refine tk_load (fun _ H => H.up1) rfl ?_ | refine tk_load (fun _ H => H.up2) rfl ?_ | refine tk_load (fun _ H => H.up3) rfl ?_)))) | (refine Share.mk ?_) | (intro _) | (simp only [List.getD_cons_zero, List.getD_cons_succ, e2])))
  replace H := H.drop.up1
  have e7 : (((7 : UInt8).toNat : Nat) : Int) = 7 := rfl
  have en : num (List.drop 0 [172, 2, 7]) = (300, 2, 0) := by decide
  refine RNum_spec (e := 0) (most := 300) H ?_
  intro w9 H
  rw [show rNum 0 [172, 2, 7] 0 300 = (300, 0, 2) by decide] at H ⊢
  (repeat (first | (with_reducible (first | refine Red.to ?_ | (refine is_rload ?_; (first | refine rv_load H rfl ?_ | refine rv_load H.up1 rfl ?_ | refine rv_load H.up2 rfl ?_ | refine rv_load H.up3 rfl ?_ | refine rv_load H.up4 rfl ?_)) | (refine is_tload ?_; (first | refine tk_load (fun _ H => H) rfl ?_ | refine tk_load (fun _ H => H.up1) rfl ?_ | refine tk_load (fun _ H => H.up2) rfl ?_ | refine tk_load (fun _ H => H.up3) rfl ?_)))) | (refine Share.mk ?_) | (intro _) | (simp only [List.getD_cons_zero, List.getD_cons_succ, beq_self_eq_true, ez, Int.cast_ofNat_Int, e7])))
  refine RAt_spec H ?_
  (repeat (first | (with_reducible (first | refine Red.to ?_ | (refine is_rload ?_; (first | refine rv_load H rfl ?_ | refine rv_load H.up1 rfl ?_ | refine rv_load H.up2 rfl ?_ | refine rv_load H.up3 rfl ?_ | refine rv_load H.up4 rfl ?_)) | (refine is_tload ?_; (first | refine tk_load (fun _ H => H) rfl ?_ | refine tk_load (fun _ H => H.up1) rfl ?_ | refine tk_load (fun _ H => H.up2) rfl ?_ | refine tk_load (fun _ H => H.up3) rfl ?_)))) | (refine Share.mk ?_) | (intro _) | (simp only [List.getD_cons_zero, List.getD_cons_succ, beq_self_eq_true, ez, Int.cast_ofNat_Int, e7])))
  refine RByte_spec (e := 0) H ?_
  intro w10 H
  rw [show rByte 0 [172, 2, 7] 2 = (7, 0, 3) by rfl] at H ⊢
  (repeat (first | (with_reducible (first | refine Red.to ?_ | (refine is_rload ?_; (first | refine rv_load H rfl ?_ | refine rv_load H.up1 rfl ?_ | refine rv_load H.up2 rfl ?_ | refine rv_load H.up3 rfl ?_ | refine rv_load H.up4 rfl ?_)) | (refine is_tload ?_; (first | refine tk_load (fun _ H => H) rfl ?_ | refine tk_load (fun _ H => H.up1) rfl ?_ | refine tk_load (fun _ H => H.up2) rfl ?_ | refine tk_load (fun _ H => H.up3) rfl ?_)))) | (refine Share.mk ?_) | (intro _) | (simp only [List.getD_cons_zero, List.getD_cons_succ, beq_self_eq_true, ez, Int.cast_ofNat_Int, e7])))
  refine RErr_spec H ?_
  (repeat (first | (with_reducible (first | refine Red.to ?_ | (refine is_rload ?_; (first | refine rv_load H rfl ?_ | refine rv_load H.up1 rfl ?_ | refine rv_load H.up2 rfl ?_ | refine rv_load H.up3 rfl ?_ | refine rv_load H.up4 rfl ?_)) | (refine is_tload ?_; (first | refine tk_load (fun _ H => H) rfl ?_ | refine tk_load (fun _ H => H.up1) rfl ?_ | refine tk_load (fun _ H => H.up2) rfl ?_ | refine tk_load (fun _ H => H.up3) rfl ?_)))) | (refine Share.mk ?_) | (intro _) | (simp only [List.getD_cons_zero, List.getD_cons_succ, beq_self_eq_true, ez, Int.cast_ofNat_Int, e7])))
  exact k _ H.drop.drop.drop
end
end Go.Proofs.Ytpfbpjoknlcbkaa
