/-
  lent, kept and the document's writer once more, for slices that may be odd empty ones (written by m.py out of the texts WireE and WireG).
-/
import Derived.Test.YtpfbpjoknlcbkaaWireL
namespace Go.Proofs.Ytpfbpjoknlcbkaa
open Go.Vc Go.Sep Go.Ops
set_option linter.unusedVariables false
set_option linter.unusedSectionVars false
set_option linter.unusedSimpArgs false

/-- A slice that is read: or it is empty, wherever it points. -/
def Rd0 (w : World) (v : Value) (n : Nat) (cs : List Value) : Prop := Rd w v n cs ∨ ∃ a c, v = .slice (some a) 0 c ∧ n = 0 ∧ cs = []
def Kn0 (W : World) (L : List HProp) (v : Value) (n : Nat) (cs : List Value) : Prop := ∀ w, St W w L → Rd0 w v n cs
section
variable {W w : World} {L : List HProp} {K : Value → World → Prop} {KU : World → Prop} {X : XPost}
theorem Rd0.old {v : Value} {n : Nat} {cs : List Value} (h : Rd0 W v n cs) (H : St W w L) : Rd0 w v n cs := h.imp (fun h => h.old H) id
theorem Kn0.old {v : Value} {n : Nat} {cs : List Value} (h : Rd0 W v n cs) : Kn0 W L v n cs := fun _ H => h.old H
theorem Kn0.tail0 {v : Value} {n : Nat} {cs : List Value} {A : HProp} (h : Kn0 W L v n cs) : Kn0 W (A :: L) v n cs := fun _ H => h _ H.drop
theorem Kn.to0 {v : Value} {n : Nat} {cs : List Value} (h : Kn W L v n cs) : Kn0 W L v n cs := fun _ H => .inl (h _ H)
theorem rv_append_rd0 {t e s b ty : Nat} {z : Value} [TSlice Try.prog t e s b z] {v x : Value} {n m : Nat} {xs news : List Value} (H : St W w (Sl e s v n xs :: L)) (R : Rd0 w x m news) (hl : news.length = m * s)
    (h1 : ∀ u ∈ news, u.oneCell' = true) (hm : n + m ≤ maxLen) (hb : (n + m) * b ≤ 140737488355328)
    (k : ∀ v' w', St W w' (Sl e s v' (n + m) (xs ++ news) :: L) → (v' = .slice none 0 0 ↔ v = .slice none 0 0 ∧ m = 0) → K v' w') : RunV Try.prog (Builtin.append_ #[t, t] ty #[v, x]) w K X := by
  rcases R with R | ⟨a, c, rfl, rfl, rfl⟩
  · exact rv_append_rd H R hl h1 hm hb k
  · exact rv_append H [] (by simp) (fun j u h => by simp at h) (by simp) hm hb k
theorem rv_len_rd0 {t e s b ty : Nat} {z : Value} [TSlice Try.prog t e s b z] {x : Value} {m : Nat} {news : List Value} (R : Rd0 w x m news) (k : K (.int .i64 m) w) : RunV Try.prog (Builtin.len_ #[t] ty #[x]) w K X := by
  rcases R with R | ⟨a, c, rfl, rfl, rfl⟩
  · exact rv_len_rd R k
  · exact rv run_len k
theorem tp_len_rd0 {t e s b ty : Nat} {z : Value} [TSlice Try.prog t e s b z] {x : Value} {m : Nat} {news : List Value} (R : Rd0 w x m news) {KT : Value → Prop} (k : KT (.int .i64 m)) : TakeP Try.prog (Builtin.len_ #[t] ty #[x]) KT := by
  rcases R with R | ⟨a, c, rfl, rfl, rfl⟩
  · exact tp_len_rd R k
  · exact tp (fun _ => run_len) k
theorem rv_str0 {v : Value} {bs : List UInt8} (R : Rd0 w v bs.length (bv bs)) (k : K (.string (txt bs)) w) : RunV Try.prog (convert 27 9 v) w K X := by
  rcases R with R | ⟨a, c, rfl, h, h2⟩
  · exact rv_str R k
  · have : bs = [] := List.eq_nil_of_length_eq_zero h
    subst this
    refine rv ?_ k
    have hl : (loadCells a 0).run Try.prog w = .ok (([] : List Int).map (Value.int .u8)).toArray w := by
      simpa using run_loadCells_list (P := Try.prog) w a [] (fun j v h => by simp at h)
    rw [run_convert_bytes_string w 27 9 5 _ 0 c (by kernel_rfl) (by kernel_rfl) (by kernel_rfl), run_bytesToString w _ 0 c [] hl]
    rfl

theorem lent0_spec {v : Value} {bs : List UInt8} (H : St W w L) (R : Kn0 W L v bs.length (bv bs)) (hl : bs.length ≤ 140737488351232)
    (k : ∀ g cap w', bs.length + 2 ≤ cap → St W w' (Bs (.slice (some ⟨g, 0, none⟩) (bs.length + 2) cap) (bs ++ [0xC3, 0x3C]) :: L) → K (.slice (some ⟨g, 0, none⟩) bs.length cap) w') : FCall Try.prog Fn.sluicelaw07_lent #[v] w K X := by
  refine sluicelaw07_lent_call ?_
  unfold Sh.sluicelaw07_lent
  refine rv_build0 H ?_
  intro g1 w1 H
  have H := H.sl_of_cells (size := 1) (n := 0) (cap := 0) rfl (by omega) (by unfold maxLen; omega)
  refine rv_append_rd0 H (R.tail0 _ H) (by simp [bv]) bv_one (by unfold maxLen; omega) (by omega) ?_
  intro y w2 H _
  have H : St W w2 (Bs y bs :: L) := by simpa [Bs] using H
  refine rv_buildSlice (parts := [(0, .int .u8 195), (1, .int .u8 60)]) H [.int .u8 195, .int .u8 60] (by omega) (by kernel_rfl) ?_
  intro g2 w3 H
  refine rv_append_cells (m := 2) H rfl (by simp [Value.oneCell']) (by unfold maxLen; omega) (by omega) ?_
  intro y2 w4 H hnil
  have H : St W w4 (Bs y2 (bs ++ [0xC3, 0x3C]) :: L) := by
    have e : bv bs ++ [Value.int .u8 195, Value.int .u8 60] = bv (bs ++ [0xC3, 0x3C]) := by rw [bv_append]; rfl
    rw [e] at H
    simpa [Bs] using H
  refine rv_len_rd0 (R _ H.drop) ?_
  rcases H.sl_form.2 with ⟨rfl, hz⟩ | ⟨g, cap, rfl, hn, hc⟩
  · simp at hz
  simp only [List.length_append, List.length_cons, List.length_nil] at hn H ⊢
  refine rv_slice_h' (by omega) (by omega) ?_
  exact k g cap w4 hn H


theorem kept0_spec {g cap : Nat} {v : Value} {bs : List UInt8} (hc : bs.length + 2 ≤ cap) (hl : bs.length ≤ 140737488351232) (H : St W w (Bs (.slice (some ⟨g, 0, none⟩) (bs.length + 2) cap) (bs ++ [0xC3, 0x3C]) :: L)) (R : Kn0 W L v bs.length (bv bs))
    (k : ∀ w', St W w' (Bs (.slice (some ⟨g, 0, none⟩) (bs.length + 2) cap) (bs ++ [0xC3, 0x3C]) :: L) → K (.bool true) w') : FCall Try.prog Fn.sluicelaw07_kept #[.slice (some ⟨g, 0, none⟩) bs.length cap, v] w K X := by
  refine sluicelaw07_kept_call ?_
  unfold Sh.sluicelaw07_kept
  refine rv_len_rd0 (R _ H.drop) ?_
  (repeat with_reducible (first | refine Red.to ?_ | (refine is_rload ?_; (first | refine rv_load H rfl ?_ | refine rv_load H.up1 rfl ?_ | refine rv_load H.up2 rfl ?_ | refine rv_load H.up3 rfl ?_ | refine rv_load H.up4 rfl ?_))))
  rw [i64_small (by omega) (by omega)]
  refine rv_slice_h' (by omega) (by omega) ?_
  have e0 : ((bs.length : Int) + 2).toNat = bs.length + 2 := by omega
  rw [e0]
  refine ⟨fun w => St W w (Bs (.slice (some ⟨g, 0, none⟩) (bs.length + 2) cap) (bs ++ [0xC3, 0x3C]) :: L), H.drew, ?_⟩
  refine tp_len_rd0 (R _ H.drop) ?_
  refine tp_slice_h' (by omega) (by omega) ?_
  have e1 : ((bs.length : Int)).toNat = bs.length := by omega
  rw [e1]
  have RR : ∀ w, St W w (Bs (.slice (some ⟨g, 0, none⟩) (bs.length + 2) cap) (bs ++ [0xC3, 0x3C]) :: L) → Rd w (.slice (some ⟨g, 0, none⟩) bs.length cap) bs.length (bv bs) := by
    intro w h
    have hr := h.rd
    simp only [List.length_append, List.length_cons, List.length_nil] at hr
    have := Rd_take (v := .nilIface) hr (n := bs.length) (by omega)
    rw [bv_append, List.take_append_of_le_length (by simp [bv]), List.take_of_length_le (by simp [bv])] at this
    exact this
  refine tk (fun w h => run_str (RR w h)) ?_
  have H := H.drew
  refine rv_str0 (R _ H.drop) ?_
  first | refine keep_same (H) ?_ | refine ⟨H, ?_⟩
  refine tp_eql_s ?_
  rw [eql_txt, decide_eq_true rfl]
  have c1 : w.drew.cell? ⟨g, bs.length, none⟩ = some (.int .u8 195) := H.sl_cells (g := g) (cap := cap) (by simp) bs.length _ (by simp [bv])
  have c2 : w.drew.cell? ⟨g, bs.length + 1, none⟩ = some (.int .u8 60) := H.sl_cells (g := g) (cap := cap) (by simp) (bs.length + 1) _ (by simp [bv])
  (repeat (first | (with_reducible (first | refine Red.to ?_ | (refine is_rload ?_; (first | refine rv_load H rfl ?_ | refine rv_load H.up1 rfl ?_ | refine rv_load H.up2 rfl ?_ | refine rv_load H.up3 rfl ?_ | refine rv_load H.up4 rfl ?_)) | (refine is_tload ?_; (first | refine tk_load (fun _ H => H) rfl ?_ | refine tk_load (fun _ H => H.up1) rfl ?_ | refine tk_load (fun _ H => H.up2) rfl ?_ | refine tk_load (fun _ H => H.up3) rfl ?_)))) | (refine Share.mk ?_) | (intro _) | (simp only [List.getD_cons_zero, List.getD_cons_succ])))
  refine tp_len_rd0 (R _ H.drop) ?_
  refine tp_index (by omega) (by omega) ?_
  refine rv (Ops.run_load (by simpa using c1)) ?_
  (repeat (first | (with_reducible (first | refine Red.to ?_ | (refine is_rload ?_; (first | refine rv_load H rfl ?_ | refine rv_load H.up1 rfl ?_ | refine rv_load H.up2 rfl ?_ | refine rv_load H.up3 rfl ?_ | refine rv_load H.up4 rfl ?_)) | (refine is_tload ?_; (first | refine tk_load (fun _ H => H) rfl ?_ | refine tk_load (fun _ H => H.up1) rfl ?_ | refine tk_load (fun _ H => H.up2) rfl ?_ | refine tk_load (fun _ H => H.up3) rfl ?_)))) | (refine Share.mk ?_) | (intro _) | (simp only [List.getD_cons_zero, List.getD_cons_succ, beq_self_eq_true])))
  refine tp_len_rd0 (R _ H.drop) ?_
  (repeat (first | (with_reducible (first | refine Red.to ?_ | (refine is_rload ?_; (first | refine rv_load H rfl ?_ | refine rv_load H.up1 rfl ?_ | refine rv_load H.up2 rfl ?_ | refine rv_load H.up3 rfl ?_ | refine rv_load H.up4 rfl ?_)) | (refine is_tload ?_; (first | refine tk_load (fun _ H => H) rfl ?_ | refine tk_load (fun _ H => H.up1) rfl ?_ | refine tk_load (fun _ H => H.up2) rfl ?_ | refine tk_load (fun _ H => H.up3) rfl ?_)))) | (refine Share.mk ?_) | (intro _) | (simp only [List.getD_cons_zero, List.getD_cons_succ])))
  rw [i64_small (by omega) (by omega)]
  refine tp_index (by omega) (by omega) ?_
  have e2 : 0 + ((bs.length : Int) + 1).toNat * 1 = bs.length + 1 := by omega
  rw [e2]
  refine rv (Ops.run_load c2) ?_
  (repeat (first | (with_reducible (first | refine Red.to ?_ | (refine is_rload ?_; (first | refine rv_load H rfl ?_ | refine rv_load H.up1 rfl ?_ | refine rv_load H.up2 rfl ?_ | refine rv_load H.up3 rfl ?_ | refine rv_load H.up4 rfl ?_)) | (refine is_tload ?_; (first | refine tk_load (fun _ H => H) rfl ?_ | refine tk_load (fun _ H => H.up1) rfl ?_ | refine tk_load (fun _ H => H.up2) rfl ?_ | refine tk_load (fun _ H => H.up3) rfl ?_)))) | (refine Share.mk ?_) | (intro _) | (simp only [List.getD_cons_zero, List.getD_cons_succ, beq_self_eq_true])))
  exact k _ H


theorem put0_spec {b : Nat} {e : Int} {bs xs : List UInt8} {v : Value} (H : St W w (Wf b e bs :: L)) (R : Kn0 W L v xs.length (bv xs)) (hl : bs.length + xs.length ≤ 140737488355000)
    (k : ∀ w', St W w' (Wf b e (if e = 0 then bs ++ xs else bs) :: L) → K (.tuple #[]) w') : FCall Try.prog Fn.sluiceref07_Writer_put #[.pointer (some ⟨b, 0, none⟩), v] w K X := by
  refine sluiceref07_Writer_put_call ?_
  unfold Sh.sluiceref07_Writer_put
  obtain ⟨sv, H⟩ := Wf.o H
  (repeat with_reducible (first | refine Red.to ?_ | (refine is_rload ?_; (first | refine rv_load H rfl ?_ | refine rv_load H.up1 rfl ?_ | refine rv_load H.up2 rfl ?_ | refine rv_load H.up3 rfl ?_ | refine rv_load H.up4 rfl ?_))))
  refine cond_split (fun h => ?_) (fun h => ?_)
  · have h : e = 0 := by simpa using h
    rw [if_pos h] at k
    (repeat with_reducible (first | refine Red.to ?_ | (refine is_rload ?_; (first | refine rv_load H rfl ?_ | refine rv_load H.up1 rfl ?_ | refine rv_load H.up2 rfl ?_ | refine rv_load H.up3 rfl ?_ | refine rv_load H.up4 rfl ?_))))
    refine rv_append_rd0 H.up1 (R.tail0 _ H.up1.drop) (by simp [bv]) bv_one (by unfold maxLen; omega) (by omega) ?_
    intro y w1 H _
    (repeat with_reducible (first | refine Red.to ?_ | (refine is_rload ?_; (first | refine rv_load H rfl ?_ | refine rv_load H.up1 rfl ?_ | refine rv_load H.up2 rfl ?_ | refine rv_load H.up3 rfl ?_ | refine rv_load H.up4 rfl ?_))))
    refine ru_store H.up1 (by simp) (sl_one H) ?_
    intro w2 H
    refine k w2 (Wf.m (v := y) ?_)
    rw [← bv_append] at H
    simpa [Bs] using H
  · have h : e ≠ 0 := by simpa using h
    rw [if_neg h] at k
    exact k w (Wf.m H)


theorem WfBytes0_spec {b : Nat} {e : Int} {bs xs : List UInt8} {v : Value} (H : St W w (Wf b e bs :: L)) (R : Kn0 W L v xs.length (bv xs)) (hl : bs.length ≤ 35184372088832) (hx : xs.length ≤ 35184372088832)
    (k : ∀ w', St W w' (Wf b (putBytes e bs xs).1 (putBytes e bs xs).2 :: L) → K (.tuple #[]) w') : FCall Try.prog Fn.sluiceref07_Writer_Bytes #[.pointer (some ⟨b, 0, none⟩), v] w K X := by
  refine sluiceref07_Writer_Bytes_call ?_
  unfold Sh.sluiceref07_Writer_Bytes
  refine share_of (fun vs w => vs = [.bool (decide (e = 0 ∧ 65536 < xs.length))] ∧ St W w (Wf b e bs :: L)) ?_ ?_
  · clear H
    rintro vs w ⟨rfl, H⟩ σ
    simp only [List.getD_cons_zero, List.getD_cons_succ]
    obtain ⟨sv, H⟩ := Wf.o H
    refine cond_split (fun h => ?_) (fun h => ?_)
    · have h := of_decide_eq_true h
      (repeat with_reducible (first | refine Red.to ?_ | (refine is_rload ?_; (first | refine rv_load H rfl ?_ | refine rv_load H.up1 rfl ?_ | refine rv_load H.up2 rfl ?_ | refine rv_load H.up3 rfl ?_ | refine rv_load H.up4 rfl ?_))))
      refine ru_store H (by simp) rfl ?_
      intro w1 H
      refine k w1 ?_
      simp only [putBytes, if_pos h.1, if_pos h.2]
      exact Wf.m H
    · have h := of_decide_eq_false h
      refine rv_len_rd0 (R _ H.drop.drop) ?_
      (repeat with_reducible (first | refine Red.to ?_ | (refine is_rload ?_; (first | refine rv_load H rfl ?_ | refine rv_load H.up1 rfl ?_ | refine rv_load H.up2 rfl ?_ | refine rv_load H.up3 rfl ?_ | refine rv_load H.up4 rfl ?_))))
      rw [u64_small (n := (xs.length : Int)) (by omega) (by omega)]
      refine Form_spec (Wf.m H) (by omega) ?_
      intro y w1 H
      have hf : (form xs.length).length ≤ 10 := form_length10 (by omega)
      refine put_spec H.up1 Kn.here (by omega) ?_
      intro w2 H
      refine put0_spec H (R.tail0) (by split <;> (try simp only [List.length_append]) <;> omega) ?_
      intro w3 H
      refine k w3 ?_
      have H := H.up1.drop
      by_cases he : e = 0
      · have hn : ¬ 65536 < xs.length := fun hh => h ⟨he, hh⟩
        subst he
        simp only [putBytes, if_neg hn, if_pos] at H ⊢
        exact H
      · simp only [putBytes, if_neg he] at H ⊢
        exact H
  · intro J hJ
    obtain ⟨sv, H⟩ := Wf.o H
    (repeat with_reducible (first | refine Red.to ?_ | (refine is_rload ?_; (first | refine rv_load H rfl ?_ | refine rv_load H.up1 rfl ?_ | refine rv_load H.up2 rfl ?_ | refine rv_load H.up3 rfl ?_ | refine rv_load H.up4 rfl ?_))))
    refine guard_split (fun h => ?_) (fun h => ?_)
    · have he : e = 0 := by simpa using h
      rw [h]
      refine rv_len_rd0 (R _ H.drop.drop) ?_
      (repeat with_reducible (first | refine Red.to ?_ | (refine is_rload ?_; (first | refine rv_load H rfl ?_ | refine rv_load H.up1 rfl ?_ | refine rv_load H.up2 rfl ?_ | refine rv_load H.up3 rfl ?_ | refine rv_load H.up4 rfl ?_))))
      refine hJ _ _ ⟨?_, Wf.m H⟩
      simp [he]
      omega
    · have he : e ≠ 0 := by simpa using h
      rw [h]
      (repeat with_reducible (first | refine Red.to ?_ | (refine is_rload ?_; (first | refine rv_load H rfl ?_ | refine rv_load H.up1 rfl ?_ | refine rv_load H.up2 rfl ?_ | refine rv_load H.up3 rfl ?_ | refine rv_load H.up4 rfl ?_))))
      refine hJ _ _ ⟨?_, Wf.m H⟩
      simp [he]
end
end Go.Proofs.Ytpfbpjoknlcbkaa
