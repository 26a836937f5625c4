
/-
  Draft's laws: known.
-/
import Derived.Test.YtdmocobabpmoeaaDraftJ
namespace Go.Proofs.Ytdmocobabpmoeaa
open Go.Vc Go.Sep Go.Ops
set_option linter.unusedVariables false
set_option linter.unusedSectionVars false
set_option linter.unusedSimpArgs false

def kNodes : List NodeV := [⟨1, 0, 1, [], .slice none 0 0, 0, 0, 0, 0, [], .slice none 0 0, false⟩, ⟨7, 1, 0, [], .slice none 0 0, 0, 0, 0, 0, [], .slice none 0 0, false⟩]
def kEdges : List EdgeD := [⟨0, 0, 1, 0, false⟩]
def kBytes : List UInt8 := [2, 2, 1, 7, 1, 0, 0, 1, 0, 0]
theorem kRead : pGraph kBytes = .ok (gd 2 (kNodes.map NodeV.er) kEdges) 10 := by rfl
theorem kShort : pGraph [1] = .bad 30 1 := by rfl
section
variable {W w : World} {L : List HProp} {K : Value → World → Prop} {KU : World → Prop} {X : XPost}
theorem rd0_nil : Rd0 w (.slice none 0 0) 0 [] := .inl (.inl ⟨rfl, rfl, rfl⟩)
/-- A graph of its own, read. -/
theorem gkn_own {g : GraphV} {M : List HProp} : GKn W (GraphH g ++ M) g := by
  intro w H
  refine ⟨.inl (St.rd H), .inl (St.rd (St.drop H)), fun n hn => ?_⟩
  have H := St.drop (St.drop H)
  have key : ∀ (l : List NodeV) {M : List HProp}, St W w (NodesH l ++ M) → n ∈ l → NRd w n := by
    intro l
    induction l with
    | nil => intro M _ h; cases h
    | cons m r ih =>
      intro M H h
      rcases List.mem_cons.1 h with rfl | h
      · exact ⟨.inl (St.rd H), .inl (St.rd (St.drop H))⟩
      · exact ih (St.drop (St.drop H)) h
  exact key _ H hn
theorem pair_er {g h : GraphV} {p q : Nat} {r : Rs GraphV} (h1 : r = .ok g.er p) (h2 : r = .ok h.er q) : g.er = h.er ∧ p = q := by
  rw [h1] at h2
  simp only [Rs.ok.injEq] at h2
  exact h2
theorem known_spec (H : St W w L) (k : ∀ w', St W w' L → K (.bool true) w') : FCall Try.prog Fn.sluicelaw08_known #[] w K X := by
  refine sluicelaw08_known_call ?_
  unfold Sh.sluicelaw08_known
  refine rv (v := .agg (NodeV.cs ⟨1, 0, 1, [], .slice none 0 0, 0, 0, 0, 0, [], .slice none 0 0, false⟩).toArray) (w' := w) (by kernel_rfl) ?_
  refine rv (v := .agg (NodeV.cs ⟨7, 1, 0, [], .slice none 0 0, 0, 0, 0, 0, [], .slice none 0 0, false⟩).toArray) (w' := w) (by kernel_rfl) ?_
  refine rv_buildSlice (parts := [(0, .agg (NodeV.cs ⟨1, 0, 1, [], .slice none 0 0, 0, 0, 0, 0, [], .slice none 0 0, false⟩).toArray), (1, .agg (NodeV.cs ⟨7, 1, 0, [], .slice none 0 0, 0, 0, 0, 0, [], .slice none 0 0, false⟩).toArray)]) H (fl NodeV.cs kNodes) (by omega) (by kernel_rfl) ?_
  clear H
  intro g1 w1 H
  refine rv (v := .agg (EdgeD.cs ⟨0, 0, 1, 0, false⟩).toArray) (w' := w1) (by kernel_rfl) ?_
  refine rv_buildSlice (parts := [(0, .agg (EdgeD.cs ⟨0, 0, 1, 0, false⟩).toArray)]) H (fl EdgeD.cs kEdges) (by omega) (by kernel_rfl) ?_
  clear H
  intro g2 w2 H
  have H := H.sl_of_cells (size := 5) (n := 1) (cap := 1) rfl (by omega) (by unfold maxLen; omega)
  have H := H.up1.sl_of_cells (size := 10) (n := 2) (cap := 2) rfl (by omega) (by unfold maxLen; omega)
  refine rv (v := .agg #[.int .i64 2, .slice (some ⟨g1, 0, none⟩) 2 2, .slice (some ⟨g2, 0, none⟩) 1 1]) (w' := w2) (by kernel_rfl) ?_
  refine rv_new (c' := [.int .i64 2, .slice (some ⟨g1, 0, none⟩) 2 2, .slice (some ⟨g2, 0, none⟩) 1 1]) H (by rfl) (by rfl) (by intro u hu; simp at hu; rcases hu with rfl | rfl | rfl <;> rfl) ?_
  clear H
  intro x1 w3 H
  have hcs : GraphV.cs ⟨2, kNodes, .slice (some ⟨g1, 0, none⟩) 2 2, kEdges, .slice (some ⟨g2, 0, none⟩) 1 1⟩ = [.int .i64 2, .slice (some ⟨g1, 0, none⟩) 2 2, .slice (some ⟨g2, 0, none⟩) 1 1] := rfl
  generalize hG : (⟨2, kNodes, .slice (some ⟨g1, 0, none⟩) 2 2, kEdges, .slice (some ⟨g2, 0, none⟩) 1 1⟩ : GraphV) = G at hcs
  have hok : G.ok := by
    subst hG
    refine ⟨by constructor <;> simp, ?_, ?_, by simp [kNodes], by simp [kEdges]⟩
    · intro n hn
      simp only [kNodes, List.mem_cons, List.not_mem_nil, or_false] at hn
      rcases hn with rfl | rfl <;> simp [NodeV.ok, i64r]
    · intro e he
      simp only [kEdges, List.mem_cons, List.not_mem_nil, or_false] at he
      subst he
      simp [EdgeD.ok, i64r]
  have hE : graphE G = 0 := by subst hG; rfl
  have hN : fb (graphN G) = kBytes := by
    subst hG
    simp [graphN, kNodes, kEdges, nodeN, edgeN, boolN, fb, form_lt, kBytes]
  have her : G.er = gd 2 (kNodes.map NodeV.er) kEdges := by subst hG; rfl
  have R0 : GKn W (Sl 59 10 (.slice (some ⟨g1, 0, none⟩) 2 2) 2 (List.take (2 * 10) (fl NodeV.cs kNodes)) :: Sl 65 5 (.slice (some ⟨g2, 0, none⟩) 1 1) 1 (List.take (1 * 5) (fl EdgeD.cs kEdges)) :: L) G := by
    intro w H
    subst hG
    refine ⟨.inl (St.rd H), .inl (St.rd (St.drop H)), fun n hn => ?_⟩
    simp only [kNodes, List.mem_cons, List.not_mem_nil, or_false] at hn
    rcases hn with rfl | rfl <;> exact ⟨rd0_nil, rd0_nil⟩
  refine rv_loada H (cs := G.cs) (by rw [hcs]; rfl) (by rw [hcs]; rfl) ?_
  refine put_spec hok R0.tail H (fun _ => ?_) (fun h => absurd hE h)
  clear H
  intro y w4 H
  rw [hN] at H
  (repeat with_reducible (first | refine Red.to ?_ | (refine is_rload ?_; (first | refine rv_load H rfl ?_ | refine rv_load H.up1 rfl ?_ | refine rv_load H.up2 rfl ?_ | refine rv_load H.up3 rfl ?_ | refine rv_load H.up4 rfl ?_))))
  refine rv_bytes_const (n := 10) (parts := [(0, .int .u8 2), (1, .int .u8 2), (2, .int .u8 1), (3, .int .u8 7), (4, .int .u8 1), (5, .int .u8 0), (6, .int .u8 0), (7, .int .u8 1), (8, .int .u8 0), (9, .int .u8 0)]) H (bv kBytes) (by kernel_rfl) (by omega) (by kernel_rfl) ?_
  clear H
  intro g3 w5 H
  refine get_spec (bs := kBytes) (v := .slice (some ⟨g3, 0, none⟩) 10 10) (fun w h => rdF h (Nat.le_refl _)) (by decide) H (fun h p w' hg H => ?_) (fun e a w' hg H => by rw [kRead] at hg; cases hg)
  have hhe : G.er = h.er := by rw [kRead] at hg; simp only [Rs.ok.injEq] at hg; rw [her]; exact hg.1
  (repeat with_reducible (first | refine Red.to ?_ | (refine is_rload ?_; (first | refine rv_load H rfl ?_ | refine rv_load H.up1 rfl ?_ | refine rv_load H.up2 rfl ?_ | refine rv_load H.up3 rfl ?_ | refine rv_load H.up4 rfl ?_))))
  have hone : ∀ u ∈ h.cs, u.oneCell' = true := by
    have o1 := sl_one H
    have o2 := sl_one (St.drop H)
    intro u hu
    simp only [GraphV.cs, List.mem_cons, List.not_mem_nil, or_false] at hu
    rcases hu with rfl | rfl | rfl
    · rfl
    · exact o1
    · exact o2
  refine rv_new (c' := h.cs) H (by rfl) (by rfl) hone ?_
  clear H
  intro x4 w6 H
  refine rv_build1 H rfl (by simp [Value.cells]) ?_
  clear H
  intro g4 w7 H
  have H := H.sl_of_cells (size := 1) (n := 1) (cap := 1) rfl (by omega) (by unfold maxLen; omega)
  refine get_spec (bs := [1]) (fun w h => h.rd) (by decide) H (fun h p w' hg H => by rw [kShort] at hg; cases hg) (fun e a w' hg H => ?_)
  rw [kShort] at hg
  cases hg
  replace H := H.drop
  (repeat with_reducible (first | refine Red.to ?_ | (refine is_rload ?_; (first | refine rv_load H rfl ?_ | refine rv_load H.up1 rfl ?_ | refine rv_load H.up2 rfl ?_ | refine rv_load H.up3 rfl ?_ | refine rv_load H.up4 rfl ?_))))
  refine rv_new (c' := Z3) H (by rfl) (by rfl) (by intro u hu; simp [Z3] at hu; rcases hu with rfl | rfl <;> rfl) ?_
  clear H
  intro x7 w8 H
  have H1 : ∀ {w}, St W w (cells x7 25 Z3 :: cells x4 25 h.cs :: (GraphH h ++ (cellsF g3 5 (bv kBytes) ((bv kBytes).length, (bv kBytes).length + 1) :: Bs y kBytes :: cells x1 25 [.int .i64 2, .slice (some ⟨g1, 0, none⟩) 2 2, .slice (some ⟨g2, 0, none⟩) 1 1] :: Sl 59 10 (.slice (some ⟨g1, 0, none⟩) 2 2) 2 (List.take (2 * 10) (fl NodeV.cs kNodes)) :: Sl 65 5 (.slice (some ⟨g2, 0, none⟩) 1 1) 1 (List.take (1 * 5) (fl EdgeD.cs kEdges)) :: L))) →
      St W w (Bs y kBytes :: cells x1 25 [.int .i64 2, .slice (some ⟨g1, 0, none⟩) 2 2, .slice (some ⟨g2, 0, none⟩) 1 1] :: Sl 59 10 (.slice (some ⟨g1, 0, none⟩) 2 2) 2 (List.take (2 * 10) (fl NodeV.cs kNodes)) :: Sl 65 5 (.slice (some ⟨g2, 0, none⟩) 1 1) 1 (List.take (1 * 5) (fl EdgeD.cs kEdges)) :: L) :=
    fun H => St.drop (St.dropL (A := GraphH h) H.drop.drop)
  (repeat (first | (with_reducible (first | refine Red.to ?_ | (refine is_rload ?_; (first | refine rv_load H rfl ?_ | refine rv_load H.up1 rfl ?_ | refine rv_load H.up2 rfl ?_ | refine rv_load H.up3 rfl ?_ | refine rv_load H.up4 rfl ?_)) | (refine is_tload ?_; (first | refine tk_load (fun _ H => H) rfl ?_ | refine tk_load (fun _ H => H.up1) rfl ?_ | refine tk_load (fun _ H => H.up2) rfl ?_ | refine tk_load (fun _ H => H.up3) rfl ?_)))) | (refine Share.mk ?_) | (intro _) | (simp only [List.getD_cons_zero, List.getD_cons_succ, beq_self_eq_true])))
  refine rv_str (St.rd (H1 H)) ?_
  have e2 : (txt kBytes).toList == (ByteArray.mk #[2, 2, 1, 7, 1, 0, 0, 1, 0, 0]).toList := by
    rw [txt_list, ByteArray.toList_eq]; rfl
  (repeat (first | (with_reducible (first | refine Red.to ?_ | (refine is_rload ?_; (first | refine rv_load H rfl ?_ | refine rv_load H.up1 rfl ?_ | refine rv_load H.up2 rfl ?_ | refine rv_load H.up3 rfl ?_ | refine rv_load H.up4 rfl ?_)) | (refine is_tload ?_; (first | refine tk_load (fun _ H => H) rfl ?_ | refine tk_load (fun _ H => H.up1) rfl ?_ | refine tk_load (fun _ H => H.up2) rfl ?_ | refine tk_load (fun _ H => H.up3) rfl ?_)))) | (refine Share.mk ?_) | (intro _) | (simp only [List.getD_cons_zero, List.getD_cons_succ, e2, beq_self_eq_true])))
  refine rv_loada (H1 H).drop (cs := G.cs) (by rw [hcs]; rfl) (by rw [hcs]; rfl) ?_
  refine rv_loada H.up1 (cs := h.cs) rfl rfl ?_
  refine same_spec hhe (fun w h => R0 w (H1 h).drop.drop) (fun w h => gkn_own w h.drop.drop) hok H ?_
  clear H
  intro w9 H
  (repeat (first | (with_reducible (first | refine Red.to ?_ | (refine is_rload ?_; (first | refine rv_load H rfl ?_ | refine rv_load H.up1 rfl ?_ | refine rv_load H.up2 rfl ?_ | refine rv_load H.up3 rfl ?_ | refine rv_load H.up4 rfl ?_)) | (refine is_tload ?_; (first | refine tk_load (fun _ H => H) rfl ?_ | refine tk_load (fun _ H => H.up1) rfl ?_ | refine tk_load (fun _ H => H.up2) rfl ?_ | refine tk_load (fun _ H => H.up3) rfl ?_)))) | (refine Share.mk ?_) | (intro _) | (simp only [List.getD_cons_zero, List.getD_cons_succ, beq_self_eq_true, Int.cast_ofNat_Int])))
  exact k _ (H1 H).drop.drop.drop.drop
end
end Go.Proofs.Ytdmocobabpmoeaa
