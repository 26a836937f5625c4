/-
  Contracts of the laws' own helpers: lent, kept, book.keep.
-/
import Derived.Test.YtpfbpjoknlcbkaaWireF
namespace Go.Proofs.Ytpfbpjoknlcbkaa
open Go.Vc Go.Sep Go.Ops
set_option linter.unusedVariables false
set_option linter.unusedSectionVars false
set_option linter.unusedSimpArgs false

section
variable {W w : World} {L : List HProp} {K : Value → World → Prop} {KU : World → Prop} {X : XPost}

theorem Bs_n {g n cap : Nat} {bs : List UInt8} (H : St W w (Bs (.slice (some ⟨g, 0, none⟩) n cap) bs :: L)) : n = bs.length ∧ n ≤ cap ∧ cap ≤ maxLen := by
  rcases H.sl_form.2 with ⟨h, _⟩ | ⟨g', cap', h, h1, h2⟩
  · cases h
  · cases h; exact ⟨rfl, h1, h2⟩
/-- One byte written. -/
theorem ru_bs {g j cap : Nat} {bs : List UInt8} {x : Int} (H : St W w (Bs (.slice (some ⟨g, 0, none⟩) bs.length cap) bs :: L)) (hj : j < bs.length) (hx : 0 ≤ x ∧ x < 256)
    (k : ∀ w', St W w' (Bs (.slice (some ⟨g, 0, none⟩) bs.length cap) (bs.set j (UInt8.ofNat x.toNat)) :: L) → KU w') : RunU Try.prog (Instr.storeAt 5 (.pointer (some ⟨g, j, none⟩)) (.int .u8 x)) w KU X := by
  obtain ⟨_, h1, h2⟩ := Bs_n H
  obtain ⟨rest, hr, H⟩ := St.cells_of_sl H
  refine ru_store H (by simp [bv]; omega) rfl ?_
  intro w1 H
  refine k w1 ?_
  have hlen : ((bv bs ++ rest).set j (Value.int .u8 x)).length = cap * 1 := by rw [List.length_set]; exact hr
  have H := H.sl_of_cells (size := 1) (n := bs.length) (cap := cap) hlen h1 h2
  have e : ((bv bs ++ rest).set j (Value.int .u8 x)).take (bs.length * 1) = bv (bs.set j (UInt8.ofNat x.toNat)) := by
    have hv : Value.int .u8 x = Value.int .u8 ((UInt8.ofNat x.toNat).toNat : Int) := by congr 1; simp; omega
    rw [List.set_append_left _ _ (by simpa [bv] using hj), Nat.mul_one, List.take_append_of_le_length (by simp [bv]), List.take_of_length_le (by simp [bv]), hv]
    simp [bv, List.map_set]
  rw [e] at H
  simpa [Bs] using H

theorem lent_spec {v : Value} {bs : List UInt8} (H : St W w L) (R : Kn W L v bs.length (bv bs)) (hl : bs.length ≤ 140737488351232)
    (k : ∀ g cap w', bs.length + 2 ≤ cap → St W w' (Bs (.slice (some ⟨g, 0, none⟩) (bs.length + 2) cap) (bs ++ [0xC3, 0x3C]) :: L) → K (.slice (some ⟨g, 0, none⟩) bs.length cap) w') : FCall Try.prog Fn.sluicelaw07_lent #[v] w K X := by
  refine sluicelaw07_lent_call ?_
  unfold Sh.sluicelaw07_lent
  refine rv_build0 H ?_
  intro g1 w1 H
  have H := H.sl_of_cells (size := 1) (n := 0) (cap := 0) rfl (by omega) (by unfold maxLen; omega)
  refine rv_append_rd H (R.tail _ H) (by simp [bv]) bv_one (by unfold maxLen; omega) (by omega) ?_
  intro y w2 H _
  have H : St W w2 (Bs y bs :: L) := by simpa [Bs] using H
  refine rv_buildSlice (parts := [(0, .int .u8 195), (1, .int .u8 60)]) H [.int .u8 195, .int .u8 60] (by omega) (by kernel_rfl) ?_
  intro g2 w3 H
  refine rv_append_cells (m := 2) H rfl (by simp [Value.oneCell']) (by unfold maxLen; omega) (by omega) ?_
  intro y2 w4 H hnil
  have H : St W w4 (Bs y2 (bs ++ [0xC3, 0x3C]) :: L) := by
    have e : bv bs ++ [Value.int .u8 195, Value.int .u8 60] = bv (bs ++ [0xC3, 0x3C]) := by rw [bv_append]; rfl
    rw [e] at H
    simpa [Bs] using H
  refine rv_len_rd (R _ H.drop) ?_
  rcases H.sl_form.2 with ⟨rfl, hz⟩ | ⟨g, cap, rfl, hn, hc⟩
  · simp at hz
  simp only [List.length_append, List.length_cons, List.length_nil] at hn H ⊢
  refine rv_slice_h' (by omega) (by omega) ?_
  exact k g cap w4 hn H

theorem kept_spec {g cap : Nat} {v : Value} {bs : List UInt8} (hc : bs.length + 2 ≤ cap) (hl : bs.length ≤ 140737488351232) (H : St W w (Bs (.slice (some ⟨g, 0, none⟩) (bs.length + 2) cap) (bs ++ [0xC3, 0x3C]) :: L)) (R : Kn W L v bs.length (bv bs))
    (k : ∀ w', St W w' (Bs (.slice (some ⟨g, 0, none⟩) (bs.length + 2) cap) (bs ++ [0xC3, 0x3C]) :: L) → K (.bool true) w') : FCall Try.prog Fn.sluicelaw07_kept #[.slice (some ⟨g, 0, none⟩) bs.length cap, v] w K X := by
  refine sluicelaw07_kept_call ?_
  unfold Sh.sluicelaw07_kept
  refine rv_len_rd (R _ H.drop) ?_
  (repeat with_reducible (first | refine Red.to ?_ | (refine is_rload ?_; (first | refine rv_load H rfl ?_ | refine rv_load H.up1 rfl ?_ | refine rv_load H.up2 rfl ?_ | refine rv_load H.up3 rfl ?_ | refine rv_load H.up4 rfl ?_))))
  rw [i64_small (by omega) (by omega)]
  refine rv_slice_h' (by omega) (by omega) ?_
  have e0 : ((bs.length : Int) + 2).toNat = bs.length + 2 := by omega
  rw [e0]
  refine ⟨fun w => St W w (Bs (.slice (some ⟨g, 0, none⟩) (bs.length + 2) cap) (bs ++ [0xC3, 0x3C]) :: L), H.drew, ?_⟩
  refine tp_len_rd (R _ H.drop) ?_
  refine tp_slice_h' (by omega) (by omega) ?_
  have e1 : ((bs.length : Int)).toNat = bs.length := by omega
  rw [e1]
  have RR : ∀ w, St W w (Bs (.slice (some ⟨g, 0, none⟩) (bs.length + 2) cap) (bs ++ [0xC3, 0x3C]) :: L) → Rd w (.slice (some ⟨g, 0, none⟩) bs.length cap) bs.length (bv bs) := by
    intro w h
    have hr := h.rd
    simp only [List.length_append, List.length_cons, List.length_nil] at hr
    have := Rd_take (v := .nilIface) hr (n := bs.length) (by omega)
    rw [bv_append, List.take_append_of_le_length (by simp [bv]), List.take_of_length_le (by simp [bv])] at this
    exact this
  refine tk (fun w h => run_str (RR w h)) ?_
  have H := H.drew
  refine rv_str (R _ H.drop) ?_
  first | refine keep_same (H) ?_ | refine ⟨H, ?_⟩
  refine tp_eql_s ?_
  rw [eql_txt, decide_eq_true rfl]
  have c1 : w.drew.cell? ⟨g, bs.length, none⟩ = some (.int .u8 195) := H.sl_cells (g := g) (cap := cap) (by simp) bs.length _ (by simp [bv])
  have c2 : w.drew.cell? ⟨g, bs.length + 1, none⟩ = some (.int .u8 60) := H.sl_cells (g := g) (cap := cap) (by simp) (bs.length + 1) _ (by simp [bv])
  (repeat (first | (with_reducible (first | refine Red.to ?_ | (refine is_rload ?_; (first | refine rv_load H rfl ?_ | refine rv_load H.up1 rfl ?_ | refine rv_load H.up2 rfl ?_ | refine rv_load H.up3 rfl ?_ | refine rv_load H.up4 rfl ?_)) | (refine is_tload ?_; (first | refine tk_load (fun _ H => H) rfl ?_ | refine tk_load (fun _ H => H.up1) rfl ?_ | refine tk_load (fun _ H => H.up2) rfl ?_ | refine tk_load (fun _ H => H.up3) rfl ?_)))) | (refine Share.mk ?_) | (intro _) | (simp only [List.getD_cons_zero, List.getD_cons_succ])))
  refine tp_len_rd (R _ H.drop) ?_
  refine tp_index (by omega) (by omega) ?_
  refine rv (Ops.run_load (by simpa using c1)) ?_
  (repeat (first | (with_reducible (first | refine Red.to ?_ | (refine is_rload ?_; (first | refine rv_load H rfl ?_ | refine rv_load H.up1 rfl ?_ | refine rv_load H.up2 rfl ?_ | refine rv_load H.up3 rfl ?_ | refine rv_load H.up4 rfl ?_)) | (refine is_tload ?_; (first | refine tk_load (fun _ H => H) rfl ?_ | refine tk_load (fun _ H => H.up1) rfl ?_ | refine tk_load (fun _ H => H.up2) rfl ?_ | refine tk_load (fun _ H => H.up3) rfl ?_)))) | (refine Share.mk ?_) | (intro _) | (simp only [List.getD_cons_zero, List.getD_cons_succ, beq_self_eq_true])))
  refine tp_len_rd (R _ H.drop) ?_
  (repeat (first | (with_reducible (first | refine Red.to ?_ | (refine is_rload ?_; (first | refine rv_load H rfl ?_ | refine rv_load H.up1 rfl ?_ | refine rv_load H.up2 rfl ?_ | refine rv_load H.up3 rfl ?_ | refine rv_load H.up4 rfl ?_)) | (refine is_tload ?_; (first | refine tk_load (fun _ H => H) rfl ?_ | refine tk_load (fun _ H => H.up1) rfl ?_ | refine tk_load (fun _ H => H.up2) rfl ?_ | refine tk_load (fun _ H => H.up3) rfl ?_)))) | (refine Share.mk ?_) | (intro _) | (simp only [List.getD_cons_zero, List.getD_cons_succ])))
  rw [i64_small (by omega) (by omega)]
  refine tp_index (by omega) (by omega) ?_
  have e2 : 0 + ((bs.length : Int) + 1).toNat * 1 = bs.length + 1 := by omega
  rw [e2]
  refine rv (Ops.run_load c2) ?_
  (repeat (first | (with_reducible (first | refine Red.to ?_ | (refine is_rload ?_; (first | refine rv_load H rfl ?_ | refine rv_load H.up1 rfl ?_ | refine rv_load H.up2 rfl ?_ | refine rv_load H.up3 rfl ?_ | refine rv_load H.up4 rfl ?_)) | (refine is_tload ?_; (first | refine tk_load (fun _ H => H) rfl ?_ | refine tk_load (fun _ H => H.up1) rfl ?_ | refine tk_load (fun _ H => H.up2) rfl ?_ | refine tk_load (fun _ H => H.up3) rfl ?_)))) | (refine Share.mk ?_) | (intro _) | (simp only [List.getD_cons_zero, List.getD_cons_succ, beq_self_eq_true])))
  exact k _ H

/-- the book -/
def Bk (k : Nat) (l : List (Value × List UInt8)) : HProp := ex fun (p : Value × Value) =>
  all (cells k 34 [p.1, p.2] :: Sl 27 1 p.1 l.length (l.map (·.1)) :: Sl 9 1 p.2 l.length (l.map fun q => .string (txt q.2)) :: l.map fun q => Bs q.1 q.2)
theorem Bk.o {b : Nat} {l : List (Value × List UInt8)} (H : St W w (Bk b l :: L)) : ∃ vl vw, St W w (cells b 34 [vl, vw] :: Sl 27 1 vl l.length (l.map (·.1)) :: Sl 9 1 vw l.length (l.map fun q => .string (txt q.2)) :: (l.map (fun q => Bs q.1 q.2) ++ L)) := by
  obtain ⟨⟨vl, vw⟩, H⟩ := H.ex
  exact ⟨vl, vw, by simpa using H.all⟩
theorem Bk.m {b : Nat} {l : List (Value × List UInt8)} {vl vw : Value} (H : St W w (cells b 34 [vl, vw] :: Sl 27 1 vl l.length (l.map (·.1)) :: Sl 9 1 vw l.length (l.map fun q => .string (txt q.2)) :: (l.map (fun q => Bs q.1 q.2) ++ L))) : St W w (Bk b l :: L) :=
  St.ex_mk (vl, vw) (St.all_mk (by simpa using H))
theorem Bs_cell {y : Value} {bs : List UInt8} (H : St W w (Bs y bs :: L)) : y.cells = #[y] := by
  rcases H.sl_form.2 with ⟨rfl, _⟩ | ⟨g, cap, rfl, _, _⟩ <;> rfl

theorem keep_spec {b : Nat} {y : Value} {bs : List UInt8} {l : List (Value × List UInt8)} (H : St W w (Bs y bs :: Bk b l :: L)) (hl : l.length ≤ 4000000000000)
    (k : ∀ w', St W w' (Bk b (l ++ [(y, bs)]) :: L) → K (.tuple #[]) w') : FCall Try.prog Fn.sluicelaw07_book_keep #[.pointer (some ⟨b, 0, none⟩), y] w K X := by
  refine sluicelaw07_book_keep_call ?_
  unfold Sh.sluicelaw07_book_keep
  have hy := Bs_cell H
  have hy1 : y.oneCell' = true := sl_one H
  obtain ⟨vl, vw, H⟩ := Bk.o H.up1
  (repeat with_reducible (first | refine Red.to ?_ | (refine is_rload ?_; (first | refine rv_load H rfl ?_ | refine rv_load H.up1 rfl ?_ | refine rv_load H.up2 rfl ?_ | refine rv_load H.up3 rfl ?_ | refine rv_load H.up4 rfl ?_))))
  refine rv_build1 H (by rw [hy]; rfl) (by omega) ?_
  intro g w1 H
  rw [hy] at H
  refine rv_append_cells (m := 1) H.up2.up1 rfl (by simpa using hy1) (by unfold maxLen; omega) (by omega) ?_
  intro y1 w2 H _
  (repeat with_reducible (first | refine Red.to ?_ | (refine is_rload ?_; (first | refine rv_load H rfl ?_ | refine rv_load H.up1 rfl ?_ | refine rv_load H.up2 rfl ?_ | refine rv_load H.up3 rfl ?_ | refine rv_load H.up4 rfl ?_))))
  refine ru_store H.up1 (by simp) (sl_one H) ?_
  intro w3 H
  have H : St W w3 (cells b 34 [y1, vw] :: Sl 27 1 y1 (l.length + 1) (l.map (·.1) ++ [y]) :: Sl 9 1 vw l.length (l.map fun q => .string (txt q.2)) :: Bs y bs :: (l.map (fun q => Bs q.1 q.2) ++ L)) := by
    refine St.perm ?_ (((List.perm_middle.cons _).cons _).cons _)
    simpa using H
  refine ⟨fun w => St W w (cells b 34 [y1, vw] :: Sl 27 1 y1 (l.length + 1) (l.map (·.1) ++ [y]) :: Sl 9 1 vw l.length (l.map fun q => .string (txt q.2)) :: Bs y bs :: (l.map (fun q => Bs q.1 q.2) ++ L)), H.drew, ?_⟩
  (repeat with_reducible (first | refine Red.to ?_ | (refine is_tload ?_; (first | refine tk_load (fun _ H => H) rfl ?_ | refine tk_load (fun _ H => H.up1) rfl ?_ | refine tk_load (fun _ H => H.up2) rfl ?_ | refine tk_load (fun _ H => H.up3) rfl ?_))))
  replace H := H.drew
  refine rv_str H.up3.rd ?_
  first | refine keep_same (H) ?_ | refine ⟨H, ?_⟩
  refine rv_build1 H rfl (by simp [Value.cells]) ?_
  intro g2 w4 H
  first | refine keep_same (H.drop) ?_ | refine ⟨H.drop, ?_⟩
  refine rv_append_cells (m := 1) H.up3.up1 rfl (by simp [Value.cells, Value.oneCell']) (by unfold maxLen; omega) (by omega) ?_
  intro y2 w5 H _
  (repeat with_reducible (first | refine Red.to ?_ | (refine is_tload ?_; (first | refine tk_load (fun _ H => H) rfl ?_ | refine tk_load (fun _ H => H.up1) rfl ?_ | refine tk_load (fun _ H => H.up2) rfl ?_ | refine tk_load (fun _ H => H.up3) rfl ?_))))
  refine ru_store H.up1 (by simp) (sl_one H) ?_
  intro w6 H
  refine k w6 (Bk.m (vl := y1) (vw := y2) ?_)
  have e : (l ++ [(y, bs)]).map (fun q => Bs q.1 q.2) ++ L = l.map (fun q => Bs q.1 q.2) ++ (Bs y bs :: L) := by simp
  rw [e]
  refine St.perm ?_ (((List.perm_middle.symm.cons _).cons _).cons _)
  have := H.up1.up2.up2
  simpa [Value.cells] using this
end
end Go.Proofs.Ytpfbpjoknlcbkaa
