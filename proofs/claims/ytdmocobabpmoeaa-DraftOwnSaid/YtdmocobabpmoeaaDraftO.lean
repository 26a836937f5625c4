
/-
  DraftSole and DraftBack: the walks.
-/
import Derived.Test.YtdmocobabpmoeaaDraftN
namespace Go.Proofs.Ytdmocobabpmoeaa
open Go.Vc Go.Sep Go.Ops
set_option linter.unusedVariables false
set_option linter.unusedSectionVars false
set_option linter.unusedSimpArgs false

section
variable {W w : World} {L : List HProp} {K : Value → World → Prop} {KU : World → Prop} {X : XPost}
theorem rv_str0 {v : Value} {bs : List UInt8} (R : Rd0 w v bs.length (bv bs)) (k : K (.string (txt bs)) w) : RunV Try.prog (convert 27 9 v) w K X := by
  rcases R with R | ⟨a, c, rfl, h, h2⟩
  · exact rv_str R k
  · have : bs = [] := List.eq_nil_of_length_eq_zero h
    subst this
    refine rv ?_ k
    have hl : (loadCells a 0).run Try.prog w = .ok (([] : List Int).map (Value.int .u8)).toArray w := by
      simpa using run_loadCells_list (P := Try.prog) w a [] (fun j v h => by simp at h)
    rw [run_convert_bytes_string w 27 9 5 _ 0 c (by kernel_rfl) (by kernel_rfl) (by kernel_rfl), run_bytesToString w _ 0 c [] hl]
    rfl
/-- One byte more. -/
theorem snocB {bs : List UInt8} {v : Value} {x : Int} (H : St W w (Bs v bs :: L)) (hx : 0 ≤ x ∧ x < 256) (hl : bs.length ≤ 140737488355000)
    (k : ∀ y w', St W w' (Bs y (bs ++ [UInt8.ofNat x.toNat]) :: L) → K y w') :
    RunV Try.prog (Instr.buildSlice 27 1 #[(0, .int .u8 x)]) w (fun s w => RunV Try.prog (Builtin.append_ #[27, 27] 27 #[v, s]) w K X) X := by
  refine rv_build1 H rfl (by simp [Value.cells]) ?_
  intro g w1 H
  refine rv_append_cells H (news := [.int .u8 x]) rfl (by simp [Value.oneCell']) (by unfold maxLen; omega) (by omega) ?_
  intro y w2 H _
  refine k y w2 ?_
  rw [bv_snoc hx] at H
  simpa [Bs] using H
def gz : GraphV := ⟨0, [], .slice none 0 0, [], .slice none 0 0⟩
theorem gz_cs : gz.cs = Z3 := rfl
theorem gz_kn : GKn W L gz := fun w H => ⟨rd0_nil, rd0_nil, fun n hn => by cases hn⟩
theorem gz_ok : gz.ok := ⟨⟨by simp [gz], by simp [gz]⟩, fun n hn => (by cases hn), fun e he => (by cases he), by simp [gz], by simp [gz]⟩
theorem own_one {g : GraphV} {M : List HProp} (H : St W w (GraphH g ++ M)) : ∀ u ∈ g.cs, u.oneCell' = true := by
  have o1 := sl_one H
  have o2 := sl_one (St.drop H)
  intro u hu
  simp only [GraphV.cs, List.mem_cons, List.not_mem_nil, or_false] at hu
  rcases hu with rfl | rfl | rfl
  · rfl
  · exact o1
  · exact o2
theorem z3_one : ∀ u ∈ Z3, u.oneCell' = true := by intro u hu; simp [Z3] at hu; rcases hu with rfl | rfl <;> rfl
/-- an empty list of bytes, and some behind it -/
theorem rv_copy {v : Value} {bs : List UInt8} (H : St W w L) (R : Kn0 W L v bs.length (bv bs)) (hl : bs.length ≤ 140737488351232) (k : ∀ y w', St W w' (Bs y bs :: L) → K y w') :
    RunV Try.prog (Instr.buildSlice 27 0 #[]) w (fun x w => RunV Try.prog (Builtin.append_ #[27, 27] 27 #[x, v]) w K X) X := by
  refine rv_build0 H ?_
  clear H
  intro g w1 H
  have H := H.sl_of_cells (size := 1) (n := 0) (cap := 0) rfl (by omega) (by unfold maxLen; omega)
  refine rv_append_rd0 H (R _ H.drop) (by simp [bv]) bv_one (by unfold maxLen; omega) (by omega) ?_
  intro y w2 H _
  exact k y w2 (by simpa [Bs] using H)

theorem sole_spec {a : Value} {bs : List UInt8} (R : Rd0 W a bs.length (bv bs)) (hl : bs.length ≤ 140737488351232) (H : St W w L) (k : ∀ w', St W w' L → K (.bool true) w') : FCall Try.prog Fn.sluicelaw08_DraftSole #[a] w K X := by
  refine sluicelaw08_DraftSole_call ?_
  unfold Sh.sluicelaw08_DraftSole
  refine rv_copy H (Kn0.old R) hl ?_
  clear H
  intro y w1 H
  refine get_spec Kn.here hl H (fun g p w' hg H => ?_) (fun e x w' hg H => ?_)
  · obtain ⟨hgo, hgE⟩ := graph_good hg
    have hsole := graph_sole hg
    rw [er_ok] at hgo
    rw [er_E] at hgE
    rw [er_N] at hsole
    (repeat with_reducible (first | refine Red.to ?_ | (refine is_rload ?_; (first | refine rv_load H rfl ?_ | refine rv_load H.up1 rfl ?_ | refine rv_load H.up2 rfl ?_ | refine rv_load H.up3 rfl ?_ | refine rv_load H.up4 rfl ?_))))
    refine rv_new (c' := g.cs) H (by rfl) (by rfl) (own_one H) ?_
    clear H
    intro x3 w2 H
    refine known_spec H ?_
    clear H
    intro w3 H
    (repeat (first | (with_reducible (first | refine Red.to ?_ | (refine is_rload ?_; (first | refine rv_load H rfl ?_ | refine rv_load H.up1 rfl ?_ | refine rv_load H.up2 rfl ?_ | refine rv_load H.up3 rfl ?_ | refine rv_load H.up4 rfl ?_)) | (refine is_tload ?_; (first | refine tk_load (fun _ H => H) rfl ?_ | refine tk_load (fun _ H => H.up1) rfl ?_ | refine tk_load (fun _ H => H.up2) rfl ?_ | refine tk_load (fun _ H => H.up3) rfl ?_)))) | (refine Share.mk ?_) | (intro _) | (simp only [List.getD_cons_zero, List.getD_cons_succ, bne_self_eq_false])))
    refine rv_loada H (cs := g.cs) rfl rfl ?_
    refine put_spec hgo (gkn_own (M := Bs y bs :: L)).tail H (fun _ => ?_) (fun h => absurd hgE h)
    clear H
    intro z w4 H
    rw [hsole] at H
    (repeat (first | (with_reducible (first | refine Red.to ?_ | (refine is_rload ?_; (first | refine rv_load H rfl ?_ | refine rv_load H.up1 rfl ?_ | refine rv_load H.up2 rfl ?_ | refine rv_load H.up3 rfl ?_ | refine rv_load H.up4 rfl ?_)) | (refine is_tload ?_; (first | refine tk_load (fun _ H => H) rfl ?_ | refine tk_load (fun _ H => H.up1) rfl ?_ | refine tk_load (fun _ H => H.up2) rfl ?_ | refine tk_load (fun _ H => H.up3) rfl ?_)))) | (refine Share.mk ?_) | (intro _) | (simp only [List.getD_cons_zero, List.getD_cons_succ, beq_self_eq_true])))
    refine rv_str (St.rd H) ?_
    refine rv_str0 (R.old (St.drop (St.dropL (A := GraphH g) H.drop.drop))) ?_
    refine rv_eql_s ?_
    rw [eql_txt, decide_eq_true rfl]
    (repeat (first | (with_reducible (first | refine Red.to ?_ | (refine is_rload ?_; (first | refine rv_load H rfl ?_ | refine rv_load H.up1 rfl ?_ | refine rv_load H.up2 rfl ?_ | refine rv_load H.up3 rfl ?_ | refine rv_load H.up4 rfl ?_)) | (refine is_tload ?_; (first | refine tk_load (fun _ H => H) rfl ?_ | refine tk_load (fun _ H => H.up1) rfl ?_ | refine tk_load (fun _ H => H.up2) rfl ?_ | refine tk_load (fun _ H => H.up3) rfl ?_)))) | (refine Share.mk ?_) | (intro _) | (simp only [List.getD_cons_zero, List.getD_cons_succ])))
    exact k _ (St.drop (St.dropL (A := GraphH g) H.drop.drop))
  · obtain ⟨hle, hne⟩ := graph_bad hg
    (repeat with_reducible (first | refine Red.to ?_ | (refine is_rload ?_; (first | refine rv_load H rfl ?_ | refine rv_load H.up1 rfl ?_ | refine rv_load H.up2 rfl ?_ | refine rv_load H.up3 rfl ?_ | refine rv_load H.up4 rfl ?_))))
    refine rv_new (c' := Z3) H (by rfl) (by rfl) z3_one ?_
    clear H
    intro x3 w2 H
    refine known_spec H ?_
    clear H
    intro w3 H
    have e1 : (((e : Nat) : Int) != 0) = true := by rw [bne_iff_ne]; omega
    (repeat (first | (with_reducible (first | refine Red.to ?_ | (refine is_rload ?_; (first | refine rv_load H rfl ?_ | refine rv_load H.up1 rfl ?_ | refine rv_load H.up2 rfl ?_ | refine rv_load H.up3 rfl ?_ | refine rv_load H.up4 rfl ?_)) | (refine is_tload ?_; (first | refine tk_load (fun _ H => H) rfl ?_ | refine tk_load (fun _ H => H.up1) rfl ?_ | refine tk_load (fun _ H => H.up2) rfl ?_ | refine tk_load (fun _ H => H.up3) rfl ?_)))) | (refine Share.mk ?_) | (intro _) | (simp only [List.getD_cons_zero, List.getD_cons_succ, e1])))
    have e2 : decide ((0 : Int) ≤ ((x : Nat) : Int)) = true := decide_eq_true (by omega)
    (repeat (first | (with_reducible (first | refine Red.to ?_ | (refine is_rload ?_; (first | refine rv_load H rfl ?_ | refine rv_load H.up1 rfl ?_ | refine rv_load H.up2 rfl ?_ | refine rv_load H.up3 rfl ?_ | refine rv_load H.up4 rfl ?_)) | (refine is_tload ?_; (first | refine tk_load (fun _ H => H) rfl ?_ | refine tk_load (fun _ H => H.up1) rfl ?_ | refine tk_load (fun _ H => H.up2) rfl ?_ | refine tk_load (fun _ H => H.up3) rfl ?_)))) | (refine Share.mk ?_) | (intro _) | (simp only [List.getD_cons_zero, List.getD_cons_succ, e2])))
    refine rv_len_rd0 (R.old H.drop.drop) ?_
    have e3 : decide (((x : Nat) : Int) ≤ ((bs.length : Nat) : Int)) = true := decide_eq_true (by omega)
    (repeat (first | (with_reducible (first | refine Red.to ?_ | (refine is_rload ?_; (first | refine rv_load H rfl ?_ | refine rv_load H.up1 rfl ?_ | refine rv_load H.up2 rfl ?_ | refine rv_load H.up3 rfl ?_ | refine rv_load H.up4 rfl ?_)) | (refine is_tload ?_; (first | refine tk_load (fun _ H => H) rfl ?_ | refine tk_load (fun _ H => H.up1) rfl ?_ | refine tk_load (fun _ H => H.up2) rfl ?_ | refine tk_load (fun _ H => H.up3) rfl ?_)))) | (refine Share.mk ?_) | (intro _) | (simp only [List.getD_cons_zero, List.getD_cons_succ, e3])))
    refine rv_loada H (cs := Z3) rfl rfl ?_
    refine rv (v := .agg Z3.toArray) (w' := w3) (by kernel_rfl) ?_
    refine same_spec (g := gz) (h := gz) rfl gz_kn gz_kn gz_ok H ?_
    clear H
    intro w4 H
    (repeat (first | (with_reducible (first | refine Red.to ?_ | (refine is_rload ?_; (first | refine rv_load H rfl ?_ | refine rv_load H.up1 rfl ?_ | refine rv_load H.up2 rfl ?_ | refine rv_load H.up3 rfl ?_ | refine rv_load H.up4 rfl ?_)) | (refine is_tload ?_; (first | refine tk_load (fun _ H => H) rfl ?_ | refine tk_load (fun _ H => H.up1) rfl ?_ | refine tk_load (fun _ H => H.up2) rfl ?_ | refine tk_load (fun _ H => H.up3) rfl ?_)))) | (refine Share.mk ?_) | (intro _) | (simp only [List.getD_cons_zero, List.getD_cons_succ])))
    exact k _ H.drop.drop

theorem back_spec {g : GraphV} {more : Int} (hok : g.ok) (R : GRd W g) (hm : 0 ≤ more ∧ more < 256) (hone : ∀ u ∈ g.cs, u.oneCell' = true) (H : St W w L) (k : ∀ w', St W w' L → K (.bool true) w') : FCall Try.prog Fn.sluicelaw08_DraftBack #[.agg g.cs.toArray, .int .u8 more] w K X := by
  refine sluicelaw08_DraftBack_call ?_
  unfold Sh.sluicelaw08_DraftBack
  refine rv_box (c := g.cs) H rfl ?_
  clear H
  intro x2 w1 H
  refine rv_loada H (cs := g.cs) rfl rfl ?_
  refine put_spec hok (GKn.old R) H (fun hE => ?_) (fun hE => ?_)
  rotate_left
  · clear H
    intro w2 H
    (repeat with_reducible (first | refine Red.to ?_ | (refine is_rload ?_; (first | refine rv_load H rfl ?_ | refine rv_load H.up1 rfl ?_ | refine rv_load H.up2 rfl ?_ | refine rv_load H.up3 rfl ?_ | refine rv_load H.up4 rfl ?_))))
    refine known_spec H ?_
    clear H
    intro w3 H
    have e1 : (((graphE g : Nat) : Int) != 0) = true := by rw [bne_iff_ne]; omega
    (repeat (first | (with_reducible (first | refine Red.to ?_ | (refine is_rload ?_; (first | refine rv_load H rfl ?_ | refine rv_load H.up1 rfl ?_ | refine rv_load H.up2 rfl ?_ | refine rv_load H.up3 rfl ?_ | refine rv_load H.up4 rfl ?_)) | (refine is_tload ?_; (first | refine tk_load (fun _ H => H) rfl ?_ | refine tk_load (fun _ H => H.up1) rfl ?_ | refine tk_load (fun _ H => H.up2) rfl ?_ | refine tk_load (fun _ H => H.up3) rfl ?_)))) | (refine Share.mk ?_) | (intro _) | (simp only [List.getD_cons_zero, List.getD_cons_succ, e1])))
    exact k _ H.drop
  clear H
  intro y w2 H
  have hrd := graph_back hok hE
  have hlen : (fb (graphN g)).length ≤ 900000 := by
    unfold graphE at hE
    split at hE
    · cases hE
    rename_i hl
    split at hE
    · cases hE
    split at hE
    · rename_i h; exact absurd hE h
    rename_i hns
    split at hE
    · cases hE
    rename_i hes
    have hns : nodesE g.nodes = 0 := by omega
    have hes : g.edges.any edgeBad = false := by simpa using hes
    have h1 := fb_nodes (fun n hn => ⟨hok.2.1 n hn, nodesE_mem hns n hn⟩) g.nodes.length
    have h2 := fb_edges (l := g.edges) (fun e he => ⟨hok.2.2.1 e he, by simpa using List.any_eq_false.1 hes e he⟩) g.edges.length
    rw [List.take_length] at h1 h2
    have hok := hok
    unfold GraphV.ok i64r at hok
    have l0 : (fb [g.ar.toNat, g.nodes.length]).length ≤ 20 := fb_len (l := [g.ar.toNat, g.nodes.length]) (by intro y hy; simp at hy; omega)
    have l1 := fb1_len (n := g.edges.length) (by omega)
    have e : fb (graphN g) = fb [g.ar.toNat, g.nodes.length] ++ fb (g.nodes.flatMap nodeN) ++ fb [g.edges.length] ++ fb (g.edges.flatMap edgeN) := by
      simp [graphN, fb]
    rw [e]
    simp only [List.length_append]
    omega
  generalize fb (graphN g) = bs at H hrd hlen
  (repeat with_reducible (first | refine Red.to ?_ | (refine is_rload ?_; (first | refine rv_load H rfl ?_ | refine rv_load H.up1 rfl ?_ | refine rv_load H.up2 rfl ?_ | refine rv_load H.up3 rfl ?_ | refine rv_load H.up4 rfl ?_))))
  refine known_spec H ?_
  clear H
  intro w3 H
  (repeat (first | (with_reducible (first | refine Red.to ?_ | (refine is_rload ?_; (first | refine rv_load H rfl ?_ | refine rv_load H.up1 rfl ?_ | refine rv_load H.up2 rfl ?_ | refine rv_load H.up3 rfl ?_ | refine rv_load H.up4 rfl ?_)) | (refine is_tload ?_; (first | refine tk_load (fun _ H => H) rfl ?_ | refine tk_load (fun _ H => H.up1) rfl ?_ | refine tk_load (fun _ H => H.up2) rfl ?_ | refine tk_load (fun _ H => H.up3) rfl ?_)))) | (refine Share.mk ?_) | (intro _) | (simp only [List.getD_cons_zero, List.getD_cons_succ, bne_self_eq_false])))
  refine rv_copy H (Kn.to0 Kn.here) (by omega) ?_
  clear H
  intro z w4 H
  refine get_spec Kn.here (by omega) H (fun h p w' hg H => ?_) (fun e x w' hg H => by rw [hrd] at hg; cases hg)
  have hgh : g.er = h.er := by rw [hrd] at hg; exact (ok_inj hg).1
  (repeat with_reducible (first | refine Red.to ?_ | (refine is_rload ?_; (first | refine rv_load H rfl ?_ | refine rv_load H.up1 rfl ?_ | refine rv_load H.up2 rfl ?_ | refine rv_load H.up3 rfl ?_ | refine rv_load H.up4 rfl ?_))))
  refine rv_new (c' := h.cs) H (by rfl) (by rfl) (own_one H) ?_
  clear H
  intro x7 w4 H
  have H1 : ∀ {w}, St W w (cells x7 25 h.cs :: (GraphH h ++ (Bs z bs :: Bs y bs :: cells x2 25 g.cs :: L))) → St W w (Bs y bs :: cells x2 25 g.cs :: L) := fun H => St.drop (St.dropL (A := GraphH h) H.drop)
  refine share_of (fun vs w => vs = [] ∧ St W w (Bs y bs :: cells x2 25 g.cs :: L)) ?_ ?_
  · clear H H1
    rintro vs w ⟨rfl, H⟩ σ
    refine share_of (fun vs w => vs = [] ∧ St W w (Bs y bs :: cells x2 25 g.cs :: L)) ?_ ?_
    · clear H
      rintro vs w ⟨rfl, H⟩ σ
      refine rv_copy H (Kn.to0 Kn.here) (by omega) ?_
      clear H
      intro u w5 H
      refine snocB H hm (by omega) ?_
      clear H
      intro u2 w6 H
      refine get_spec Kn.here (by simp; omega) H (fun h p w' hg H => by rw [graph_rest hrd] at hg; cases hg) (fun e x w' hg H => ?_)
      rw [graph_rest hrd] at hg
      cases hg
      (repeat with_reducible (first | refine Red.to ?_ | (refine is_rload ?_; (first | refine rv_load H rfl ?_ | refine rv_load H.up1 rfl ?_ | refine rv_load H.up2 rfl ?_ | refine rv_load H.up3 rfl ?_ | refine rv_load H.up4 rfl ?_))))
      refine rv_new (c' := Z3) H (by rfl) (by rfl) z3_one ?_
      clear H
      intro x14 w7 H
      (repeat (first | (with_reducible (first | refine Red.to ?_ | (refine is_rload ?_; (first | refine rv_load H rfl ?_ | refine rv_load H.up1 rfl ?_ | refine rv_load H.up2 rfl ?_ | refine rv_load H.up3 rfl ?_ | refine rv_load H.up4 rfl ?_)) | (refine is_tload ?_; (first | refine tk_load (fun _ H => H) rfl ?_ | refine tk_load (fun _ H => H.up1) rfl ?_ | refine tk_load (fun _ H => H.up2) rfl ?_ | refine tk_load (fun _ H => H.up3) rfl ?_)))) | (refine Share.mk ?_) | (intro _) | (simp only [List.getD_cons_zero, List.getD_cons_succ, beq_self_eq_true, Int.cast_ofNat_Int])))
      refine rv_len_rd (St.rd H.drop.drop) ?_
      (repeat (first | (with_reducible (first | refine Red.to ?_ | (refine is_rload ?_; (first | refine rv_load H rfl ?_ | refine rv_load H.up1 rfl ?_ | refine rv_load H.up2 rfl ?_ | refine rv_load H.up3 rfl ?_ | refine rv_load H.up4 rfl ?_)) | (refine is_tload ?_; (first | refine tk_load (fun _ H => H) rfl ?_ | refine tk_load (fun _ H => H.up1) rfl ?_ | refine tk_load (fun _ H => H.up2) rfl ?_ | refine tk_load (fun _ H => H.up3) rfl ?_)))) | (refine Share.mk ?_) | (intro _) | (simp only [List.getD_cons_zero, List.getD_cons_succ, beq_self_eq_true])))
      refine rv_loada H (cs := Z3) rfl rfl ?_
      refine rv (v := .agg Z3.toArray) (w' := w7) (by kernel_rfl) ?_
      refine same_spec (g := gz) (h := gz) rfl gz_kn gz_kn gz_ok H ?_
      clear H
      intro w8 H
      (repeat (first | (with_reducible (first | refine Red.to ?_ | (refine is_rload ?_; (first | refine rv_load H rfl ?_ | refine rv_load H.up1 rfl ?_ | refine rv_load H.up2 rfl ?_ | refine rv_load H.up3 rfl ?_ | refine rv_load H.up4 rfl ?_)) | (refine is_tload ?_; (first | refine tk_load (fun _ H => H) rfl ?_ | refine tk_load (fun _ H => H.up1) rfl ?_ | refine tk_load (fun _ H => H.up2) rfl ?_ | refine tk_load (fun _ H => H.up3) rfl ?_)))) | (refine Share.mk ?_) | (intro _) | (simp only [List.getD_cons_zero, List.getD_cons_succ])))
      exact k _ H.drop.drop.drop.drop
    · intro J hJ
      refine rv_len_rd (St.rd H) ?_
      refine loop_of (fun vs w => ∃ i : Nat, vs = [.int .i64 i] ∧ i ≤ bs.length ∧ St W w (Bs y bs :: cells x2 25 g.cs :: L)) (fun vs _ => match vs with | [.int _ i] => bs.length - i.toNat | _ => 0) ⟨0, rfl, by omega, H⟩ ?_
      clear H
      rintro vs w kk ⟨i, rfl, hi, H⟩ hkk σ
      simp only [List.getD_cons_zero, List.getD_cons_succ]
      (repeat with_reducible (first | refine Red.to ?_ | (refine is_rload ?_; (first | refine rv_load H rfl ?_ | refine rv_load H.up1 rfl ?_ | refine rv_load H.up2 rfl ?_ | refine rv_load H.up3 rfl ?_ | refine rv_load H.up4 rfl ?_))))
      refine cond_split (fun hc => ?_) (fun hc => ?_)
      · have hlt : i < bs.length := by have := of_decide_eq_true hc; omega
        refine share_of (fun vs w => vs = [] ∧ St W w (Bs y bs :: cells x2 25 g.cs :: L)) ?_ ?_
        · clear H
          rintro vs w ⟨rfl, H⟩ σ
          (repeat with_reducible (first | refine Red.to ?_ | (refine is_rload ?_; (first | refine rv_load H rfl ?_ | refine rv_load H.up1 rfl ?_ | refine rv_load H.up2 rfl ?_ | refine rv_load H.up3 rfl ?_ | refine rv_load H.up4 rfl ?_))))
          rw [i64_small (by omega) (by omega)]
          exact hkk _ _ ⟨i + 1, rfl, by omega, H⟩ (by simp; omega)
        intro J2 hJ2
        obtain ⟨a, hsa, hai⟩ := graph_short hrd hlt
        rcases H.sl_form.2 with ⟨_, hz⟩ | ⟨gy, capy, hy, hn, _⟩
        · omega
        have hti : (bs.take i).length = i := by simp; omega
        refine rv_build0 H ?_
        clear H
        intro g5 w5 H
        rw [hy]
        refine rv_slice_h' (by omega) (by omega) ?_
        have ei : ((i : Nat) : Int).toNat = i := by simp
        rw [ei]
        have H := H.sl_of_cells (size := 1) (n := 0) (cap := 0) rfl (by omega) (by unfold maxLen; omega)
        have Rt : Rd w5 (.slice (some ⟨gy, 0, none⟩) i capy) (bs.take i).length (bv (bs.take i)) := by
          have hr := St.rd H.drop
          rw [hy] at hr
          have hb := hr
          refine .inr ⟨gy, 0, capy, by rw [hti], by rw [hti]; omega, fun j u hj => ?_⟩
          rcases hr with ⟨h0, _⟩ | ⟨g', off', cap', hv', hn', hc'⟩
          · cases h0
          · cases hv'
            refine hc' j u ?_
            simp only [bv, List.map_take] at hj
            by_cases hji : j < i
            · rw [List.getElem?_take_of_lt hji] at hj; exact hj
            · rw [List.getElem?_take_eq_none (by omega)] at hj; cases hj
        refine rv_append_rd0 H (.inl Rt) (by simp [bv]) bv_one (by unfold maxLen; omega) (by omega) ?_
        clear H
        intro u w6 H _
        have H : St W w6 (Bs u (bs.take i) :: Bs y bs :: cells x2 25 g.cs :: L) := by simpa [Bs] using H
        refine get_spec Kn.here (by omega) H (fun h p w' hg H => by rw [hsa] at hg; cases hg) (fun e x w' hg H => ?_)
        rw [hsa] at hg
        cases hg
        (repeat with_reducible (first | refine Red.to ?_ | (refine is_rload ?_; (first | refine rv_load H rfl ?_ | refine rv_load H.up1 rfl ?_ | refine rv_load H.up2 rfl ?_ | refine rv_load H.up3 rfl ?_ | refine rv_load H.up4 rfl ?_))))
        refine rv_new (c' := Z3) H (by rfl) (by rfl) z3_one ?_
        clear H
        intro x11 w7 H
        have e1 : ((((30 : Nat) : Int)) != 30) = false := rfl
        have e2 : decide (((a : Nat) : Int) < 0) = false := decide_eq_false (by omega)
        have e3 : decide (((i : Nat) : Int) < ((a : Nat) : Int)) = false := decide_eq_false (by omega)
        (repeat (first | (with_reducible (first | refine Red.to ?_ | (refine is_rload ?_; (first | refine rv_load H rfl ?_ | refine rv_load H.up1 rfl ?_ | refine rv_load H.up2 rfl ?_ | refine rv_load H.up3 rfl ?_ | refine rv_load H.up4 rfl ?_)) | (refine is_tload ?_; (first | refine tk_load (fun _ H => H) rfl ?_ | refine tk_load (fun _ H => H.up1) rfl ?_ | refine tk_load (fun _ H => H.up2) rfl ?_ | refine tk_load (fun _ H => H.up3) rfl ?_)))) | (refine Share.mk ?_) | (intro _) | (simp only [List.getD_cons_zero, List.getD_cons_succ, e1, e2, e3])))
        refine rv_loada H (cs := Z3) rfl rfl ?_
        refine rv (v := .agg Z3.toArray) (w' := w7) (by kernel_rfl) ?_
        refine same_spec (g := gz) (h := gz) rfl gz_kn gz_kn gz_ok H ?_
        clear H
        intro w8 H
        (repeat (first | (with_reducible (first | refine Red.to ?_ | (refine is_rload ?_; (first | refine rv_load H rfl ?_ | refine rv_load H.up1 rfl ?_ | refine rv_load H.up2 rfl ?_ | refine rv_load H.up3 rfl ?_ | refine rv_load H.up4 rfl ?_)) | (refine is_tload ?_; (first | refine tk_load (fun _ H => H) rfl ?_ | refine tk_load (fun _ H => H.up1) rfl ?_ | refine tk_load (fun _ H => H.up2) rfl ?_ | refine tk_load (fun _ H => H.up3) rfl ?_)))) | (intro _) | (simp only [List.getD_cons_zero, List.getD_cons_succ])))
        exact hJ2 _ _ ⟨rfl, H.drop.drop⟩
      · exact hJ _ _ ⟨rfl, H⟩
  · intro J hJ
    (repeat (first | (with_reducible (first | refine Red.to ?_ | (refine is_rload ?_; (first | refine rv_load H rfl ?_ | refine rv_load H.up1 rfl ?_ | refine rv_load H.up2 rfl ?_ | refine rv_load H.up3 rfl ?_ | refine rv_load H.up4 rfl ?_)) | (refine is_tload ?_; (first | refine tk_load (fun _ H => H) rfl ?_ | refine tk_load (fun _ H => H.up1) rfl ?_ | refine tk_load (fun _ H => H.up2) rfl ?_ | refine tk_load (fun _ H => H.up3) rfl ?_)))) | (intro _) | (simp only [List.getD_cons_zero, List.getD_cons_succ, bne_self_eq_false])))
    refine Share.mk ?_
    (repeat (first | (with_reducible (first | refine Red.to ?_ | (refine is_rload ?_; (first | refine rv_load H rfl ?_ | refine rv_load H.up1 rfl ?_ | refine rv_load H.up2 rfl ?_ | refine rv_load H.up3 rfl ?_ | refine rv_load H.up4 rfl ?_)) | (refine is_tload ?_; (first | refine tk_load (fun _ H => H) rfl ?_ | refine tk_load (fun _ H => H.up1) rfl ?_ | refine tk_load (fun _ H => H.up2) rfl ?_ | refine tk_load (fun _ H => H.up3) rfl ?_)))) | (refine Share.mk ?_) | (intro _) | (simp only [List.getD_cons_zero, List.getD_cons_succ, bne_self_eq_false])))
    refine rv_loada (H1 H).drop (cs := g.cs) rfl rfl ?_
    refine rv_loada H (cs := h.cs) rfl rfl ?_
    refine same_spec hgh (GKn.old R) (fun w hh => gkn_own w hh.drop) hok H ?_
    clear H
    intro w5 H
    (repeat (first | (with_reducible (first | refine Red.to ?_ | (refine is_rload ?_; (first | refine rv_load H rfl ?_ | refine rv_load H.up1 rfl ?_ | refine rv_load H.up2 rfl ?_ | refine rv_load H.up3 rfl ?_ | refine rv_load H.up4 rfl ?_)) | (refine is_tload ?_; (first | refine tk_load (fun _ H => H) rfl ?_ | refine tk_load (fun _ H => H.up1) rfl ?_ | refine tk_load (fun _ H => H.up2) rfl ?_ | refine tk_load (fun _ H => H.up3) rfl ?_)))) | (intro _) | (simp only [List.getD_cons_zero, List.getD_cons_succ])))
    exact hJ _ _ ⟨rfl, H1 H⟩
end
end Go.Proofs.Ytdmocobabpmoeaa
