/-
  Contracts of the document's own answer for package wire: the writer.
-/
import Derived.Test.YtpfbpjoknlcbkaaWireD
namespace Go.Proofs.Ytpfbpjoknlcbkaa
open Go.Vc Go.Sep Go.Ops
set_option linter.unusedVariables false
set_option linter.unusedSectionVars false
set_option linter.unusedSimpArgs false

theorem u64_small {n : Int} (h0 : 0 ≤ n) (h1 : n < 18446744073709551616) : IntKind.u64.wrap n = n := by
  rw [u64_wrap]; omega
/-- the document's writer -/
def Wf (b : Nat) (e : Int) (bs : List UInt8) : HProp := ex fun v => all [cells b 29 [v, .int .i64 e], Bs v bs]
section
theorem Wf.o {W w : World} {L : List HProp} {b : Nat} {e : Int} {bs : List UInt8} (H : St W w (Wf b e bs :: L)) : ∃ v, St W w (cells b 29 [v, .int .i64 e] :: Bs v bs :: L) := H.ex.imp fun v h => h.all
theorem Wf.m {W w : World} {L : List HProp} {b : Nat} {e : Int} {bs : List UInt8} {v : Value} (H : St W w (cells b 29 [v, .int .i64 e] :: Bs v bs :: L)) : St W w (Wf b e bs :: L) := St.ex_mk v (St.all_mk H)
variable {W w : World} {L : List HProp} {K : Value → World → Prop} {X : XPost}

/-- One byte more. -/
theorem snocB {bs : List UInt8} {v : Value} {x : Int} (H : St W w (Bs v bs :: L)) (hx : 0 ≤ x ∧ x < 256) (hl : bs.length ≤ 140737488355000)
    (k : ∀ y w', St W w' (Bs y (bs ++ [UInt8.ofNat x.toNat]) :: L) → K y w') :
    RunV Try.prog (Instr.buildSlice 27 1 #[(0, .int .u8 x)]) w (fun s w => RunV Try.prog (Builtin.append_ #[27, 27] 27 #[v, s]) w K X) X := by
  refine rv_build1 H rfl (by simp [Value.cells]) ?_
  intro g w1 H
  refine rv_append_cells H (news := [.int .u8 x]) rfl (by simp [Value.oneCell']) (by unfold maxLen; omega) (by omega) ?_
  intro y w2 H _
  refine k y w2 ?_
  rw [bv_snoc hx] at H
  simpa [Bs] using H

theorem Form_spec {v : Nat} (H : St W w L) (hv : v < 18446744073709551616) (k : ∀ y w', St W w' (Bs y (form v) :: L) → K y w') : FCall Try.prog Fn.sluiceref07_Form #[.int .u64 v] w K X := by
  refine sluiceref07_Form_call ?_
  unfold Sh.sluiceref07_Form
  refine share_of (fun vs w => ∃ (u : Nat) (y : Value) (bs : List UInt8), vs = [.int .u64 u, y] ∧ u < 128 ∧ bs ++ form u = form v ∧ St W w (Bs y bs :: L)) ?_ ?_
  · clear H
    rintro vs w ⟨u, y, bs, rfl, hu, hb, H⟩ σ
    simp only [List.getD_cons_zero, List.getD_cons_succ]
    (repeat with_reducible (first | refine Red.to ?_ | (refine is_rload ?_; (first | refine rv_load H rfl ?_ | refine rv_load H.up1 rfl ?_ | refine rv_load H.up2 rfl ?_ | refine rv_load H.up3 rfl ?_ | refine rv_load H.up4 rfl ?_))))
    rw [wrap8 (by omega)]
    have := congrArg List.length hb
    simp only [List.length_append] at this
    have h2 := form_length10 hv
    refine snocB H (by omega) (by omega) ?_
    intro y1 w1 H
    refine k y1 w1 ?_
    rw [← hb, form_lt hu]
    exact H
  intro J hJ
  refine loop_of (fun vs w => ∃ (u : Nat) (y : Value) (bs : List UInt8), vs = [.int .u64 u, y] ∧ u < 18446744073709551616 ∧ bs ++ form u = form v ∧ St W w (Bs y bs :: L)) (fun vs _ => match vs with | [.int _ u, _] => u.toNat | _ => 0) ⟨v, _, [], rfl, hv, rfl, H.sl_nil _ _⟩ ?_
  clear H
  rintro vs w kk ⟨u, y, bs, rfl, hu, hb, H⟩ hkk σ
  simp only [List.getD_cons_zero, List.getD_cons_succ]
  (repeat with_reducible (first | refine Red.to ?_ | (refine is_rload ?_; (first | refine rv_load H rfl ?_ | refine rv_load H.up1 rfl ?_ | refine rv_load H.up2 rfl ?_ | refine rv_load H.up3 rfl ?_ | refine rv_load H.up4 rfl ?_))))
  refine cond_split (fun h => ?_) (fun h => ?_)
  · have h : 128 ≤ u := by simp at h; omega
    refine rv_rem (by decide) ?_
    (repeat with_reducible (first | refine Red.to ?_ | (refine is_rload ?_; (first | refine rv_load H rfl ?_ | refine rv_load H.up1 rfl ?_ | refine rv_load H.up2 rfl ?_ | refine rv_load H.up3 rfl ?_ | refine rv_load H.up4 rfl ?_))))
    have e1 : IntKind.u64.wrap ((u : Int).tmod 128 + 128) = ((u % 128 + 128 : Nat) : Int) := by
      rw [Int.tmod_eq_emod_of_nonneg (by omega), u64_wrap]; omega
    rw [e1, wrap8 (by omega)]
    have := congrArg List.length hb
    simp only [List.length_append] at this
    have h2 := form_length10 hv
    refine snocB H (by omega) (by omega) ?_
    intro y1 w1 H
    refine rv_quo (by decide) ?_
    have e2 : IntKind.u64.wrap ((u : Int).tdiv 128) = ((u / 128 : Nat) : Int) := by
      rw [Int.tdiv_eq_ediv_of_nonneg (by omega), u64_wrap]; omega
    rw [e2]
    refine hkk _ _ ⟨u / 128, y1, _, rfl, by omega, ?_, H⟩ ?_
    · rw [← hb, form_ge h, Int.toNat_natCast, List.append_assoc]
      rfl
    · simp; omega
  · have h : u < 128 := by simp at h; omega
    exact hJ _ _ ⟨u, y, bs, rfl, h, hb, H⟩

theorem Whole_spec {n : Int} (h0 : -9223372036854775808 ≤ n) (h1 : n < 9223372036854775808) (k : K (.int .u64 (zz n)) w) : FCall Try.prog Fn.sluiceref07_Whole #[.int .i64 n] w K X := by
  refine sluiceref07_Whole_call ?_
  unfold Sh.sluiceref07_Whole
  (repeat with_reducible (first | refine Red.to ?_ | (refine is_rload ?_; (first | refine rv_load H rfl ?_ | refine rv_load H.up1 rfl ?_ | refine rv_load H.up2 rfl ?_ | refine rv_load H.up3 rfl ?_ | refine rv_load H.up4 rfl ?_))))
  refine cond_split (fun h => ?_) (fun h => ?_)
  · have h : 0 ≤ n := by simpa using h
    (repeat with_reducible (first | refine Red.to ?_ | (refine is_rload ?_; (first | refine rv_load H rfl ?_ | refine rv_load H.up1 rfl ?_ | refine rv_load H.up2 rfl ?_ | refine rv_load H.up3 rfl ?_ | refine rv_load H.up4 rfl ?_))))
    have e : IntKind.u64.wrap (2 * IntKind.u64.wrap n) = ((zz n : Nat) : Int) := by
      unfold zz
      rw [if_pos h, u64_wrap, u64_wrap]; omega
    rw [e]
    exact k
  · have h : ¬ 0 ≤ n := by simpa using h
    (repeat with_reducible (first | refine Red.to ?_ | (refine is_rload ?_; (first | refine rv_load H rfl ?_ | refine rv_load H.up1 rfl ?_ | refine rv_load H.up2 rfl ?_ | refine rv_load H.up3 rfl ?_ | refine rv_load H.up4 rfl ?_))))
    rw [i64_small (n := n + 1) (by omega) (by omega), i64_small (n := 0 - (n + 1)) (by omega) (by omega)]
    have e : IntKind.u64.wrap (IntKind.u64.wrap (2 * IntKind.u64.wrap (0 - (n + 1))) + 1) = ((zz n : Nat) : Int) := by
      unfold zz
      rw [if_neg h, u64_wrap, u64_wrap, u64_wrap]; omega
    rw [e]
    exact k

theorem put_spec {b : Nat} {e : Int} {bs xs : List UInt8} {v : Value} (H : St W w (Wf b e bs :: L)) (R : Kn W L v xs.length (bv xs)) (hl : bs.length + xs.length ≤ 140737488355000)
    (k : ∀ w', St W w' (Wf b e (if e = 0 then bs ++ xs else bs) :: L) → K (.tuple #[]) w') : FCall Try.prog Fn.sluiceref07_Writer_put #[.pointer (some ⟨b, 0, none⟩), v] w K X := by
  refine sluiceref07_Writer_put_call ?_
  unfold Sh.sluiceref07_Writer_put
  obtain ⟨sv, H⟩ := Wf.o H
  (repeat with_reducible (first | refine Red.to ?_ | (refine is_rload ?_; (first | refine rv_load H rfl ?_ | refine rv_load H.up1 rfl ?_ | refine rv_load H.up2 rfl ?_ | refine rv_load H.up3 rfl ?_ | refine rv_load H.up4 rfl ?_))))
  refine cond_split (fun h => ?_) (fun h => ?_)
  · have h : e = 0 := by simpa using h
    rw [if_pos h] at k
    (repeat with_reducible (first | refine Red.to ?_ | (refine is_rload ?_; (first | refine rv_load H rfl ?_ | refine rv_load H.up1 rfl ?_ | refine rv_load H.up2 rfl ?_ | refine rv_load H.up3 rfl ?_ | refine rv_load H.up4 rfl ?_))))
    refine rv_append_rd H.up1 (R.tail _ H.up1.drop) (by simp [bv]) bv_one (by unfold maxLen; omega) (by omega) ?_
    intro y w1 H _
    (repeat with_reducible (first | refine Red.to ?_ | (refine is_rload ?_; (first | refine rv_load H rfl ?_ | refine rv_load H.up1 rfl ?_ | refine rv_load H.up2 rfl ?_ | refine rv_load H.up3 rfl ?_ | refine rv_load H.up4 rfl ?_))))
    refine ru_store H.up1 (by simp) (sl_one H) ?_
    intro w2 H
    refine k w2 (Wf.m (v := y) ?_)
    rw [← bv_append] at H
    simpa [Bs] using H
  · have h : e ≠ 0 := by simpa using h
    rw [if_neg h] at k
    exact k w (Wf.m H)

theorem WfNum_spec {b : Nat} {e : Int} {bs : List UInt8} {v : Nat} (H : St W w (Wf b e bs :: L)) (hv : v < 18446744073709551616) (hl : bs.length ≤ 35184372088832)
    (k : ∀ w', St W w' (Wf b e (if e = 0 then bs ++ form v else bs) :: L) → K (.tuple #[]) w') : FCall Try.prog Fn.sluiceref07_Writer_Num #[.pointer (some ⟨b, 0, none⟩), .int .u64 v] w K X := by
  refine sluiceref07_Writer_Num_call ?_
  unfold Sh.sluiceref07_Writer_Num
  refine Form_spec H hv ?_
  intro y w1 H
  have := form_length10 hv
  refine put_spec H.up1 Kn.here (by omega) ?_
  intro w2 H
  exact k w2 H.up1.drop
theorem WfInt_spec {b : Nat} {e : Int} {bs : List UInt8} {n : Int} (H : St W w (Wf b e bs :: L)) (h0 : -9223372036854775808 ≤ n) (h1 : n < 9223372036854775808) (hl : bs.length ≤ 35184372088832)
    (k : ∀ w', St W w' (Wf b e (if e = 0 then bs ++ form (zz n) else bs) :: L) → K (.tuple #[]) w') : FCall Try.prog Fn.sluiceref07_Writer_Int #[.pointer (some ⟨b, 0, none⟩), .int .i64 n] w K X := by
  refine sluiceref07_Writer_Int_call ?_
  unfold Sh.sluiceref07_Writer_Int
  refine Whole_spec h0 h1 ?_
  have hv := zz_lt h0 h1
  refine Form_spec H hv ?_
  intro y w1 H
  have := form_length10 hv
  refine put_spec H.up1 Kn.here (by omega) ?_
  intro w2 H
  exact k w2 H.up1.drop
theorem WfByte_spec {b : Nat} {e : Int} {bs : List UInt8} {x : Int} (H : St W w (Wf b e bs :: L)) (hx : 0 ≤ x ∧ x < 256) (hl : bs.length ≤ 35184372088832)
    (k : ∀ w', St W w' (Wf b e (if e = 0 then bs ++ [UInt8.ofNat x.toNat] else bs) :: L) → K (.tuple #[]) w') : FCall Try.prog Fn.sluiceref07_Writer_Byte #[.pointer (some ⟨b, 0, none⟩), .int .u8 x] w K X := by
  refine sluiceref07_Writer_Byte_call ?_
  unfold Sh.sluiceref07_Writer_Byte
  refine rv_build1 H rfl (by simp [Value.cells]) ?_
  intro g w1 H
  have H := H.sl_of_cells (size := 1) (n := 1) (cap := 1) rfl (by omega) (by unfold maxLen; omega)
  have e1 : (Value.int .u8 x).cells.toList = bv [UInt8.ofNat x.toNat] := by
    have := bv_snoc (bs := []) hx
    simpa [bv, Value.cells] using this
  rw [e1] at H
  have H : St W w1 (Bs (.slice (some ⟨g, 0, none⟩) 1 1) [UInt8.ofNat x.toNat] :: Wf b e bs :: L) := by simpa [Bs, bv] using H
  refine put_spec H.up1 Kn.here (by simp; omega) ?_
  intro w2 H
  exact k w2 H.up1.drop
theorem WfBytes_spec {b : Nat} {e : Int} {bs xs : List UInt8} {v : Value} (H : St W w (Wf b e bs :: L)) (R : Kn W L v xs.length (bv xs)) (hl : bs.length ≤ 35184372088832) (hx : xs.length ≤ 35184372088832)
    (k : ∀ w', St W w' (Wf b (putBytes e bs xs).1 (putBytes e bs xs).2 :: L) → K (.tuple #[]) w') : FCall Try.prog Fn.sluiceref07_Writer_Bytes #[.pointer (some ⟨b, 0, none⟩), v] w K X := by
  refine sluiceref07_Writer_Bytes_call ?_
  unfold Sh.sluiceref07_Writer_Bytes
  refine share_of (fun vs w => vs = [.bool (decide (e = 0 ∧ 65536 < xs.length))] ∧ St W w (Wf b e bs :: L)) ?_ ?_
  · clear H
    rintro vs w ⟨rfl, H⟩ σ
    simp only [List.getD_cons_zero, List.getD_cons_succ]
    obtain ⟨sv, H⟩ := Wf.o H
    refine cond_split (fun h => ?_) (fun h => ?_)
    · have h := of_decide_eq_true h
      (repeat with_reducible (first | refine Red.to ?_ | (refine is_rload ?_; (first | refine rv_load H rfl ?_ | refine rv_load H.up1 rfl ?_ | refine rv_load H.up2 rfl ?_ | refine rv_load H.up3 rfl ?_ | refine rv_load H.up4 rfl ?_))))
      refine ru_store H (by simp) rfl ?_
      intro w1 H
      refine k w1 ?_
      simp only [putBytes, if_pos h.1, if_pos h.2]
      exact Wf.m H
    · have h := of_decide_eq_false h
      refine rv_len_rd (R _ H.drop.drop) ?_
      (repeat with_reducible (first | refine Red.to ?_ | (refine is_rload ?_; (first | refine rv_load H rfl ?_ | refine rv_load H.up1 rfl ?_ | refine rv_load H.up2 rfl ?_ | refine rv_load H.up3 rfl ?_ | refine rv_load H.up4 rfl ?_))))
      rw [u64_small (n := (xs.length : Int)) (by omega) (by omega)]
      refine Form_spec (Wf.m H) (by omega) ?_
      intro y w1 H
      have hf : (form xs.length).length ≤ 10 := form_length10 (by omega)
      refine put_spec H.up1 Kn.here (by omega) ?_
      intro w2 H
      refine put_spec H (R.tail) (by split <;> (try simp only [List.length_append]) <;> omega) ?_
      intro w3 H
      refine k w3 ?_
      have H := H.up1.drop
      by_cases he : e = 0
      · have hn : ¬ 65536 < xs.length := fun hh => h ⟨he, hh⟩
        subst he
        simp only [putBytes, if_neg hn, if_pos] at H ⊢
        exact H
      · simp only [putBytes, if_neg he] at H ⊢
        exact H
  · intro J hJ
    obtain ⟨sv, H⟩ := Wf.o H
    (repeat with_reducible (first | refine Red.to ?_ | (refine is_rload ?_; (first | refine rv_load H rfl ?_ | refine rv_load H.up1 rfl ?_ | refine rv_load H.up2 rfl ?_ | refine rv_load H.up3 rfl ?_ | refine rv_load H.up4 rfl ?_))))
    refine guard_split (fun h => ?_) (fun h => ?_)
    · have he : e = 0 := by simpa using h
      rw [h]
      refine rv_len_rd (R _ H.drop.drop) ?_
      (repeat with_reducible (first | refine Red.to ?_ | (refine is_rload ?_; (first | refine rv_load H rfl ?_ | refine rv_load H.up1 rfl ?_ | refine rv_load H.up2 rfl ?_ | refine rv_load H.up3 rfl ?_ | refine rv_load H.up4 rfl ?_))))
      refine hJ _ _ ⟨?_, Wf.m H⟩
      simp [he]
      omega
    · have he : e ≠ 0 := by simpa using h
      rw [h]
      (repeat with_reducible (first | refine Red.to ?_ | (refine is_rload ?_; (first | refine rv_load H rfl ?_ | refine rv_load H.up1 rfl ?_ | refine rv_load H.up2 rfl ?_ | refine rv_load H.up3 rfl ?_ | refine rv_load H.up4 rfl ?_))))
      refine hJ _ _ ⟨?_, Wf.m H⟩
      simp [he]
end
end Go.Proofs.Ytpfbpjoknlcbkaa
