
/-
  DraftPuts: the walk.
-/
import Derived.Test.YtdmocobabpmoeaaDraftW
namespace Go.Proofs.Ytdmocobabpmoeaa
open Go.Vc Go.Sep Go.Ops
set_option linter.unusedVariables false
set_option linter.unusedSectionVars false
set_option linter.unusedSimpArgs false

section
variable {W w : World} {L : List HProp} {K : Value → World → Prop} {KU : World → Prop} {X : XPost}
/-- a graph's bytes, or none -/
def gb (g : GraphV) : List UInt8 := if graphE g = 0 then fb (graphN g) else []
theorem put_both {g : GraphV} (hok : g.ok) (R : GKn W L g) (H : St W w L) (k : ∀ y w', St W w' (Bs y (gb g) :: L) → K (.tuple #[y, .int .i64 (graphE g : Nat)]) w') : FCall Try.prog Fn.draft_Put #[.agg g.cs.toArray] w K X := by
  refine put_spec hok R H (fun h => ?_) (fun h => ?_)
  · intro y w' H
    have k := k y w'
    unfold gb at k
    rw [if_pos h, h] at k
    exact k H
  · intro w' H
    have k := k (.slice none 0 0) w'
    unfold gb at k
    rw [if_neg h] at k
    exact k (H.sl_nil _ _)
theorem rput_both {g : GraphV} (hok : g.ok) (R : GKn W L g) (H : St W w L) (k : ∀ y w', St W w' (Bs y (gb g) :: L) → K (.tuple #[y, .int .i64 (graphE g : Nat)]) w') : FCall Try.prog Fn.sluiceref08_Put #[.agg g.cs.toArray] w K X := by
  refine rput_spec hok R H (fun h => ?_) (fun h => ?_)
  · intro y w' H
    have k := k y w'
    unfold gb at k
    rw [if_pos h, h] at k
    exact k H
  · intro w' H
    have k := k (.slice none 0 0) w'
    unfold gb at k
    rw [if_neg h] at k
    exact k (H.sl_nil _ _)
theorem gb_er {g h : GraphV} (he : g.er = h.er) : gb g = gb h ∧ graphE g = graphE h := by
  have h1 : graphE g = graphE h := by rw [← er_E g, ← er_E h, he]
  have h2 : graphN g = graphN h := by rw [← er_N g, ← er_N h, he]
  exact ⟨by unfold gb; rw [h1, h2], h1⟩
theorem gb_len {g : GraphV} (hok : g.ok) : (gb g).length ≤ 900000 := by
  unfold gb
  by_cases hE : graphE g = 0
  · rw [if_pos hE]
    have hE' := hE
    unfold graphE at hE'
    split at hE'
    · cases hE'
    rename_i h1
    split at hE'
    · cases hE'
    rename_i h2
    split at hE'
    · rename_i h3
      exact absurd hE' h3
    rename_i h3
    split at hE'
    · cases hE'
    rename_i h4
    have hl : g.nodes.length ≤ 24 ∧ g.edges.length ≤ 48 := by omega
    have a1 := take_good hok.2.1 (i := g.nodes.length) (by rw [List.take_length]; omega)
    have a2 := take_edges hok.2.2.1 (i := g.edges.length) (by rw [List.take_length]; simpa using h4)
    rw [List.take_length] at a1 a2
    have hr := hok.1
    unfold i64r at hr
    have b1 := form_length10 (v := g.ar.toNat) (by omega)
    have b2 := form_length10 (v := g.nodes.length) (by omega)
    have b3 := form_length10 (v := g.edges.length) (by omega)
    have e : fb (graphN g) = form g.ar.toNat ++ form g.nodes.length ++ fb (g.nodes.flatMap nodeN) ++ form g.edges.length ++ fb (g.edges.flatMap edgeN) := by simp [graphN, fb]
    rw [e]
    simp only [List.length_append]
    omega
  · rw [if_neg hE]
    simp
theorem bs_form {a : Value} {xs : List UInt8} (H : St W w (Bs a xs :: L)) : ∃ p n c, a = .slice p n c := by
  rcases H.sl_form.2 with ⟨rfl, _⟩ | ⟨g, cap, rfl, _, _⟩ <;> exact ⟨_, _, _, rfl⟩
theorem puts_spec {g h : GraphV} (hok : g.ok) (hf : g.fits) (R : GRd W g) (hokh : h.ok) (Rh : GRd W h) (hone : ∀ u ∈ g.cs, u.oneCell' = true) (honeh : ∀ u ∈ h.cs, u.oneCell' = true) (H : St W w L) (k : ∀ w', St W w' L → K (.bool true) w') :
    FCall Try.prog Fn.sluicelaw08_DraftPuts #[.agg g.cs.toArray, .agg h.cs.toArray] w K X := by
  refine sluicelaw08_DraftPuts_call ?_
  unfold Sh.sluicelaw08_DraftPuts
  refine rv_box (c := g.cs) H rfl ?_
  clear H
  intro b2 w1 H
  refine rv_box (c := h.cs) H rfl ?_
  clear H
  intro b3 w2 H
  refine rv_loada H.up1 (cs := g.cs) rfl rfl ?_
  refine roomy_spec hok hf (GKn.old R) H ?_
  clear H
  intro gr w3 her H
  obtain ⟨eb, eE⟩ := gb_er her
  have hgk : gr.ok := er_ok.1 (her ▸ er_ok.2 hok)
  have RX := roomx H
  have go1 : ∀ u ∈ gr.cs, u.oneCell' = true := by
    intro u hu
    simp only [GraphV.cs, List.mem_cons, List.not_mem_nil, or_false] at hu
    rcases hu with rfl | rfl | rfl
    · rfl
    · exact RX.rd.1.one
    · exact RX.rd.2.1.one
  clear RX
  replace H : St W w3 (cells b3 25 h.cs :: cells b2 25 g.cs :: (RoomG gr ++ L)) := H.perm (List.perm_append_comm_assoc _ [cells b3 25 h.cs, cells b2 25 g.cs] L)
  refine rv_new (c' := gr.cs) H (by rfl) (by rfl) go1 ?_
  clear H
  intro b5 w4 H
  refine rv_loada H (cs := gr.cs) rfl rfl ?_
  refine put_both hgk (fun w h => (roomx h.drop.drop.drop).rd) H ?_
  clear H
  intro a w5 H
  rw [eE]
  rw [eb] at H
  (repeat (first | (with_reducible (first | refine Red.to ?_ | (refine is_rload ?_; (first | refine rv_load H rfl ?_ | refine rv_load H.up1 rfl ?_ | refine rv_load H.up2 rfl ?_ | refine rv_load H.up3 rfl ?_ | refine rv_load H.up4 rfl ?_)) | (refine is_tload ?_; (first | refine tk_load (fun _ H => H) rfl ?_ | refine tk_load (fun _ H => H.up1) rfl ?_ | refine tk_load (fun _ H => H.up2) rfl ?_ | refine tk_load (fun _ H => H.up3) rfl ?_)))) | (refine Share.mk ?_) | (intro _) | (simp only [List.getD_cons_zero, List.getD_cons_succ])))
  replace H := H.dn3
  refine rv_loada H.up2 (cs := g.cs) rfl rfl ?_
  refine rput_both hok (GKn.old R) H ?_
  clear H
  intro want w6 H
  (repeat (first | (with_reducible (first | refine Red.to ?_ | (refine is_rload ?_; (first | refine rv_load H rfl ?_ | refine rv_load H.up1 rfl ?_ | refine rv_load H.up2 rfl ?_ | refine rv_load H.up3 rfl ?_ | refine rv_load H.up4 rfl ?_)) | (refine is_tload ?_; (first | refine tk_load (fun _ H => H) rfl ?_ | refine tk_load (fun _ H => H.up1) rfl ?_ | refine tk_load (fun _ H => H.up2) rfl ?_ | refine tk_load (fun _ H => H.up3) rfl ?_)))) | (refine Share.mk ?_) | (intro _) | (simp only [List.getD_cons_zero, List.getD_cons_succ])))
  replace H := H.dn3
  refine rv_loada H (cs := gr.cs) rfl rfl ?_
  refine put_both hgk (fun w h => (roomx h.drop.drop.drop.drop.drop).rd) H ?_
  clear H
  intro b w7 H
  rw [eb] at H
  (repeat (first | (with_reducible (first | refine Red.to ?_ | (refine is_rload ?_; (first | refine rv_load H rfl ?_ | refine rv_load H.up1 rfl ?_ | refine rv_load H.up2 rfl ?_ | refine rv_load H.up3 rfl ?_ | refine rv_load H.up4 rfl ?_)) | (refine is_tload ?_; (first | refine tk_load (fun _ H => H) rfl ?_ | refine tk_load (fun _ H => H.up1) rfl ?_ | refine tk_load (fun _ H => H.up2) rfl ?_ | refine tk_load (fun _ H => H.up3) rfl ?_)))) | (refine Share.mk ?_) | (intro _) | (simp only [List.getD_cons_zero, List.getD_cons_succ])))
  replace H := H.dn3
  refine rv_loada H.up1 (cs := h.cs) rfl rfl ?_
  refine put_both hokh (GKn.old Rh) H ?_
  clear H
  intro c w8 H
  (repeat (first | (with_reducible (first | refine Red.to ?_ | (refine is_rload ?_; (first | refine rv_load H rfl ?_ | refine rv_load H.up1 rfl ?_ | refine rv_load H.up2 rfl ?_ | refine rv_load H.up3 rfl ?_ | refine rv_load H.up4 rfl ?_)) | (refine is_tload ?_; (first | refine tk_load (fun _ H => H) rfl ?_ | refine tk_load (fun _ H => H.up1) rfl ?_ | refine tk_load (fun _ H => H.up2) rfl ?_ | refine tk_load (fun _ H => H.up3) rfl ?_)))) | (refine Share.mk ?_) | (intro _) | (simp only [List.getD_cons_zero, List.getD_cons_succ])))
  replace H := H.dn3
  refine rv_loada H.up1 (cs := h.cs) rfl rfl ?_
  refine rput_both hokh (GKn.old Rh) H ?_
  clear H
  intro far w9 H
  (repeat (first | (with_reducible (first | refine Red.to ?_ | (refine is_rload ?_; (first | refine rv_load H rfl ?_ | refine rv_load H.up1 rfl ?_ | refine rv_load H.up2 rfl ?_ | refine rv_load H.up3 rfl ?_ | refine rv_load H.up4 rfl ?_)) | (refine is_tload ?_; (first | refine tk_load (fun _ H => H) rfl ?_ | refine tk_load (fun _ H => H.up1) rfl ?_ | refine tk_load (fun _ H => H.up2) rfl ?_ | refine tk_load (fun _ H => H.up3) rfl ?_)))) | (refine Share.mk ?_) | (intro _) | (simp only [List.getD_cons_zero, List.getD_cons_succ])))
  replace H := H.dn3
  refine rv_loada H (cs := gr.cs) rfl rfl ?_
  refine put_both hgk (fun w h => (roomx h.drop.drop.drop.drop.drop.drop.drop.drop).rd) H ?_
  clear H
  intro d w10 H
  rw [eb] at H
  refine Red.to ?_
  refine Red.to ?_
  replace H := H.dn3
  refine share_of (fun vs w => vs = [] ∧ St W w (cells b5 25 gr.cs :: cells b3 25 h.cs :: cells b2 25 g.cs :: Bs d (gb g) :: Bs far (gb h) :: Bs c (gb h) :: Bs b (gb g) :: Bs want (gb g) :: Bs a (gb g) :: (RoomG gr ++ L))) ?_ ?_
  · clear H
    rintro vs w ⟨rfl, H⟩ σ
    obtain ⟨p1, n1, c1, rfl⟩ := bs_form H.drop.drop.drop
    obtain ⟨p2, n2, c2, rfl⟩ := bs_form H.drop.drop.drop.drop.drop
    obtain ⟨p3, n3, c3, rfl⟩ := bs_form H.drop.drop.drop.drop.drop.drop
    obtain ⟨p4, n4, c4, rfl⟩ := bs_form H.drop.drop.drop.drop.drop.drop.drop.drop
    refine rv_buildSlice (parts := [(0, .slice p4 n4 c4), (1, .slice p3 n3 c3), (2, .slice p2 n2 c2), (3, .slice p1 n1 c1)]) H [.slice p4 n4 c4, .slice p3 n3 c3, .slice p2 n2 c2, .slice p1 n1 c1] (by omega) (by kernel_rfl) ?_
    clear H
    intro g9 w11 H
    have H := (St.pm (P := [_, _, _, _, _, _, _, _, _, _]) [1, 2, 3, 5, 8, 0, 9, 7, 6, 4] H rfl).drop.drop.drop.drop.drop
    have H := H.sl_of_cells (size := 1) (n := 4) (cap := 4) rfl (by omega) (by unfold maxLen; omega)
    have l1 := gb_len hok
    have l2 := gb_len hokh
    refine apart_spec (l := [(.slice p4 n4 c4, gb g), (.slice p3 n3 c3, gb g), (.slice p2 n2 c2, gb h), (.slice p1 n1 c1, gb g)]) (by simp) ?_ H ?_
    · intro q hq
      simp only [List.mem_cons, List.not_mem_nil, or_false] at hq
      rcases hq with rfl | rfl | rfl | rfl <;> (simp only; omega)
    · clear H
      intro w12 H
      exact k _ (St.dropL (A := RoomG gr) H)
  intro J hJ
  refine known_spec H ?_
  clear H
  intro w11 H
  have H3 := H.drop.drop.drop
  have Rd_ := St.rd H3
  have Rfar := St.rd H3.drop
  have Rc := St.rd H3.drop.drop
  have Rb := St.rd H3.drop.drop.drop
  have Rwant := St.rd H3.drop.drop.drop.drop
  have Ra := St.rd H3.drop.drop.drop.drop.drop
  clear H3
  have tt : ∀ xs : List UInt8, (!((txt xs).toList == (txt xs).toList)) = false := fun xs => by rw [beq_self_eq_true]; rfl
  (repeat (first | (with_reducible (first | refine Red.to ?_ | (refine is_rload ?_; (first | refine rv_load H rfl ?_ | refine rv_load H.up1 rfl ?_ | refine rv_load H.up2 rfl ?_ | refine rv_load H.up3 rfl ?_ | refine rv_load H.up4 rfl ?_)) | (refine is_tload ?_; (first | refine tk_load (fun _ H => H) rfl ?_ | refine tk_load (fun _ H => H.up1) rfl ?_ | refine tk_load (fun _ H => H.up2) rfl ?_ | refine tk_load (fun _ H => H.up3) rfl ?_)))) | (refine Share.mk ?_) | (intro _) | (simp only [List.getD_cons_zero, List.getD_cons_succ])))
  refine rv_str Ra ?_
  refine rv_str Rwant ?_
  (repeat (first | (with_reducible (first | refine Red.to ?_ | (refine is_rload ?_; (first | refine rv_load H rfl ?_ | refine rv_load H.up1 rfl ?_ | refine rv_load H.up2 rfl ?_ | refine rv_load H.up3 rfl ?_ | refine rv_load H.up4 rfl ?_)) | (refine is_tload ?_; (first | refine tk_load (fun _ H => H) rfl ?_ | refine tk_load (fun _ H => H.up1) rfl ?_ | refine tk_load (fun _ H => H.up2) rfl ?_ | refine tk_load (fun _ H => H.up3) rfl ?_)))) | (refine Share.mk ?_) | (intro _) | (simp only [List.getD_cons_zero, List.getD_cons_succ, tt, bne_self_eq_false])))
  refine rv_str Rb ?_
  refine rv_str Rwant ?_
  (repeat (first | (with_reducible (first | refine Red.to ?_ | (refine is_rload ?_; (first | refine rv_load H rfl ?_ | refine rv_load H.up1 rfl ?_ | refine rv_load H.up2 rfl ?_ | refine rv_load H.up3 rfl ?_ | refine rv_load H.up4 rfl ?_)) | (refine is_tload ?_; (first | refine tk_load (fun _ H => H) rfl ?_ | refine tk_load (fun _ H => H.up1) rfl ?_ | refine tk_load (fun _ H => H.up2) rfl ?_ | refine tk_load (fun _ H => H.up3) rfl ?_)))) | (refine Share.mk ?_) | (intro _) | (simp only [List.getD_cons_zero, List.getD_cons_succ, tt])))
  refine rv_str Rc ?_
  refine rv_str Rfar ?_
  (repeat (first | (with_reducible (first | refine Red.to ?_ | (refine is_rload ?_; (first | refine rv_load H rfl ?_ | refine rv_load H.up1 rfl ?_ | refine rv_load H.up2 rfl ?_ | refine rv_load H.up3 rfl ?_ | refine rv_load H.up4 rfl ?_)) | (refine is_tload ?_; (first | refine tk_load (fun _ H => H) rfl ?_ | refine tk_load (fun _ H => H.up1) rfl ?_ | refine tk_load (fun _ H => H.up2) rfl ?_ | refine tk_load (fun _ H => H.up3) rfl ?_)))) | (refine Share.mk ?_) | (intro _) | (simp only [List.getD_cons_zero, List.getD_cons_succ, tt])))
  refine rv_str Rd_ ?_
  refine rv_str Rwant ?_
  (repeat (first | (with_reducible (first | refine Red.to ?_ | (refine is_rload ?_; (first | refine rv_load H rfl ?_ | refine rv_load H.up1 rfl ?_ | refine rv_load H.up2 rfl ?_ | refine rv_load H.up3 rfl ?_ | refine rv_load H.up4 rfl ?_)) | (refine is_tload ?_; (first | refine tk_load (fun _ H => H) rfl ?_ | refine tk_load (fun _ H => H.up1) rfl ?_ | refine tk_load (fun _ H => H.up2) rfl ?_ | refine tk_load (fun _ H => H.up3) rfl ?_)))) | (refine Share.mk ?_) | (intro _) | (simp only [List.getD_cons_zero, List.getD_cons_succ, tt])))
  refine rv_loada H (cs := gr.cs) rfl rfl ?_
  refine rv_loada H.up2 (cs := g.cs) rfl rfl ?_
  refine untouched_spec (M := [cells b5 25 gr.cs, cells b3 25 h.cs, cells b2 25 g.cs, Bs d (gb g), Bs far (gb h), Bs c (gb h), Bs b (gb g), Bs want (gb g), Bs a (gb g)] ++ L) her hok (GKn.old R) (H.perm (List.perm_append_comm_assoc [cells b5 25 gr.cs, cells b3 25 h.cs, cells b2 25 g.cs, Bs d (gb g), Bs far (gb h), Bs c (gb h), Bs b (gb g), Bs want (gb g), Bs a (gb g)] (RoomG gr) L)) ?_
  clear H
  intro w12 H
  have H := H.perm (List.perm_append_comm_assoc _ [cells b5 25 gr.cs, cells b3 25 h.cs, cells b2 25 g.cs, Bs d (gb g), Bs far (gb h), Bs c (gb h), Bs b (gb g), Bs want (gb g), Bs a (gb g)] L)
  (repeat (first | (with_reducible (first | refine Red.to ?_ | (refine is_rload ?_; (first | refine rv_load H rfl ?_ | refine rv_load H.up1 rfl ?_ | refine rv_load H.up2 rfl ?_ | refine rv_load H.up3 rfl ?_ | refine rv_load H.up4 rfl ?_)) | (refine is_tload ?_; (first | refine tk_load (fun _ H => H) rfl ?_ | refine tk_load (fun _ H => H.up1) rfl ?_ | refine tk_load (fun _ H => H.up2) rfl ?_ | refine tk_load (fun _ H => H.up3) rfl ?_)))) | (refine Share.mk ?_) | (intro _) | (simp only [List.getD_cons_zero, List.getD_cons_succ])))
  exact hJ _ _ ⟨rfl, H⟩
end
end Go.Proofs.Ytdmocobabpmoeaa
