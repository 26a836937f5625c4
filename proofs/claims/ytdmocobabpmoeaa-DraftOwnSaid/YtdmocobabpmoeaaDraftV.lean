
/-
  The law's helper roomy: what it makes.
-/
import Derived.Test.YtdmocobabpmoeaaDraftU
namespace Go.Proofs.Ytdmocobabpmoeaa
open Go.Vc Go.Sep Go.Ops
set_option linter.unusedVariables false
set_option linter.unusedSectionVars false
set_option linter.unusedSimpArgs false

section
variable {W w : World} {L : List HProp} {K : Value → World → Prop} {KU : World → Prop} {X : XPost}
theorem roomy_spec {g : GraphV} (hok : g.ok) (hf : g.fits) (R : GKn W L g) (H : St W w L) (k : ∀ (gr : GraphV) w', gr.er = g.er → St W w' (RoomG gr ++ L) → K (.agg gr.cs.toArray) w') : FCall Try.prog Fn.sluicelaw08_roomy #[.agg g.cs.toArray] w K X := by
  refine sluicelaw08_roomy_call ?_
  unfold Sh.sluicelaw08_roomy
  refine rv_box (c := g.cs) H rfl ?_
  clear H
  intro b1 w1 H
  unfold GraphV.cs at H
  refine rv_allocz H ?_
  clear H
  intro b2 w2 H
  (repeat with_reducible (first | refine Red.to ?_ | (refine is_rload ?_; (first | refine rv_load H rfl ?_ | refine rv_load H.up1 rfl ?_ | refine rv_load H.up2 rfl ?_ | refine rv_load H.up3 rfl ?_ | refine rv_load H.up4 rfl ?_))))
  refine rv (v := .agg #[.int .i64 g.ar, .slice none 0 0, .slice none 0 0]) (w' := w2) (by kernel_rfl) ?_
  refine rv_new (c' := [.int .i64 g.ar, .slice none 0 0, .slice none 0 0]) H (by rfl) (by rfl) (zone rfl) ?_
  clear H
  intro b3 w3 H
  obtain ⟨f1, f2, f3⟩ := hf
  refine share_of (fun vs w => ∃ (rs : List NodeV) (nv : Value), vs = [] ∧ rs.map NodeV.er = g.nodes.map NodeV.er ∧ St W w (Sl 59 10 nv g.nodes.length (fl NodeV.cs rs) :: cells b3 25 [.int .i64 g.ar, nv, .slice none 0 0] :: cells b2 25 Z3 :: cells b1 25 [.int .i64 g.ar, g.nv, g.ev] :: (RNodes rs ++ L))) ?_ ?_
  · clear H
    rintro vs w ⟨rs, nv, rfl, her, H⟩ σ
    have hrl : rs.length = g.nodes.length := by simpa using congrArg List.length her
    replace H := H.drew
    refine ⟨fun w => St W w (cells b3 25 [.int .i64 g.ar, nv, .slice none 0 0] :: cells b2 25 Z3 :: cells b1 25 [.int .i64 g.ar, g.nv, g.ev] :: (RNodes rs ++ L)), H.drop, ?_⟩
    (repeat with_reducible (first | refine Red.to ?_ | (refine is_tload ?_; (first | refine tk_load (fun _ H => H) rfl ?_ | refine tk_load (fun _ H => H.up1) rfl ?_ | refine tk_load (fun _ H => H.up2) rfl ?_ | refine tk_load (fun _ H => H.up3) rfl ?_))))
    refine tp (v := .agg zNode.toArray) (fun _ => by kernel_rfl) ?_
    (repeat with_reducible (first | refine Red.to ?_ | (refine is_tload ?_; (first | refine tk_load (fun _ H => H) rfl ?_ | refine tk_load (fun _ H => H.up1) rfl ?_ | refine tk_load (fun _ H => H.up2) rfl ?_ | refine tk_load (fun _ H => H.up3) rfl ?_))))
    refine tp_len_rd0 (R _ (St.dropL H.drop.drop.drop.drop)).1 ?_
    refine rv_build1 H (by rfl) (by omega) ?_
    clear H
    intro b4 w4 H
    first | refine keep_same (H.drop.drop) ?_ | refine ⟨H.drop.drop, ?_⟩
    refine room_app (n := g.nodes.length) (xs := fl NodeV.cs rs) (z := zNode) H.up1 rfl (zone rfl) (by unfold maxLen; omega) (by omega) ?_
    clear H
    intro g5 cap5 w5 hcap5 H
    first | refine keep_same (H.drop) ?_ | refine ⟨H.drop, ?_⟩
    refine tp_slice_h' (by omega) (by omega) ?_
    rw [Int.toNat_natCast]
    (repeat with_reducible (first | refine Red.to ?_ | (refine is_tload ?_; (first | refine tk_load (fun _ H => H) rfl ?_ | refine tk_load (fun _ H => H.up1) rfl ?_ | refine tk_load (fun _ H => H.up2) rfl ?_ | refine tk_load (fun _ H => H.up3) rfl ?_))))
    refine ru_store H.up1 (by simp) rfl ?_
    clear H
    intro w6 H
    simp only [List.set_cons_succ, List.set_cons_zero] at H
    replace H := H.drew
    refine ⟨fun w => St W w (cells b3 25 [.int .i64 g.ar, .slice (some ⟨g5, 0, none⟩) g.nodes.length cap5, .slice none 0 0] :: Rm 59 10 (.slice (some ⟨g5, 0, none⟩) g.nodes.length cap5) g.nodes.length (fl NodeV.cs rs) zNode :: cells b2 25 Z3 :: cells b1 25 [.int .i64 g.ar, g.nv, g.ev] :: (RNodes rs ++ L)), H, ?_⟩
    (repeat with_reducible (first | refine Red.to ?_ | (refine is_tload ?_; (first | refine tk_load (fun _ H => H) rfl ?_ | refine tk_load (fun _ H => H.up1) rfl ?_ | refine tk_load (fun _ H => H.up2) rfl ?_ | refine tk_load (fun _ H => H.up3) rfl ?_))))
    refine tp (v := .agg zEdge.toArray) (fun _ => by kernel_rfl) ?_
    (repeat with_reducible (first | refine Red.to ?_ | (refine is_tload ?_; (first | refine tk_load (fun _ H => H) rfl ?_ | refine tk_load (fun _ H => H.up1) rfl ?_ | refine tk_load (fun _ H => H.up2) rfl ?_ | refine tk_load (fun _ H => H.up3) rfl ?_))))
    refine tp_len_rd0 (R _ (St.dropL H.drop.drop.drop.drop)).2.1 ?_
    refine share_of (fun vs w => ∃ x g', vs = [x, .slice (some ⟨g', 0, none⟩) 1 1] ∧ St W w (Sl 65 5 x g.edges.length (fl EdgeD.cs g.edges) :: cells g' 65 zEdge :: cells b3 25 [.int .i64 g.ar, .slice (some ⟨g5, 0, none⟩) g.nodes.length cap5, .slice none 0 0] :: Rm 59 10 (.slice (some ⟨g5, 0, none⟩) g.nodes.length cap5) g.nodes.length (fl NodeV.cs rs) zNode :: cells b2 25 Z3 :: cells b1 25 [.int .i64 g.ar, g.nv, g.ev] :: (RNodes rs ++ L))) ?_ ?_
    · clear H
      rintro vs w ⟨x, g', rfl, H⟩ σ
      simp only [List.getD_cons_zero, List.getD_cons_succ]
      refine room_app (z := zEdge) H rfl (zone rfl) (by unfold maxLen; omega) (by omega) ?_
      clear H
      intro g6 cap6 w7 hcap6 H
      first | refine keep_same (H.drop) ?_ | refine ⟨H.drop, ?_⟩
      refine tp_slice_h' (by omega) (by omega) ?_
      rw [Int.toNat_natCast]
      (repeat with_reducible (first | refine Red.to ?_ | (refine is_tload ?_; (first | refine tk_load (fun _ H => H) rfl ?_ | refine tk_load (fun _ H => H.up1) rfl ?_ | refine tk_load (fun _ H => H.up2) rfl ?_ | refine tk_load (fun _ H => H.up3) rfl ?_))))
      refine ru_store H.up1 (by simp) rfl ?_
      clear H
      intro w8 H
      simp only [List.set_cons_succ, List.set_cons_zero] at H
      refine rv_loada H rfl rfl ?_
      have H := H.up3
      refine ru_store_whole (c' := [.int .i64 g.ar, .slice (some ⟨g5, 0, none⟩) g.nodes.length cap5, .slice (some ⟨g6, 0, none⟩) g.edges.length cap6]) (by kernel_rfl) H (by rfl) (zone rfl) ?_
      clear H
      intro w9 H
      refine ld_agg H rfl rfl ?_
      refine k ⟨g.ar, rs, .slice (some ⟨g5, 0, none⟩) g.nodes.length cap5, g.edges, .slice (some ⟨g6, 0, none⟩) g.edges.length cap6⟩ _ ?_ ?_
      · show gd g.ar (rs.map NodeV.er) g.edges = gd g.ar (g.nodes.map NodeV.er) g.edges
        rw [her]
      · unfold RoomG
        simp only [hrl]
        exact H.drop.drop.up2.drop.up1
    · intro J hJ
      exact tree2 (fun _ h => h) H (fun w h => (R _ (St.dropL h.drop.drop.drop.drop)).2.1) (fl_len EdgeD.len _) (fl_one (fun e => e.one) _) (by unfold maxLen; omega) (by omega) (by rfl) (by omega) (fun x g w' h => hJ _ _ ⟨x, g, rfl, h⟩)
  intro J hJ
  (repeat with_reducible (first | refine Red.to ?_ | (refine is_rload ?_; (first | refine rv_load H rfl ?_ | refine rv_load H.up1 rfl ?_ | refine rv_load H.up2 rfl ?_ | refine rv_load H.up3 rfl ?_ | refine rv_load H.up4 rfl ?_))))
  refine rv_len_rd0 (R _ H.drop.drop.drop).1 ?_
  refine loop_of (fun vs w => ∃ (i : Nat) (rs : List NodeV) (nv : Value), vs = [.int .i64 i] ∧ i ≤ g.nodes.length ∧ rs.map NodeV.er = (g.nodes.take i).map NodeV.er ∧ St W w (Sl 59 10 nv i (fl NodeV.cs rs) :: cells b3 25 [.int .i64 g.ar, nv, .slice none 0 0] :: cells b2 25 Z3 :: cells b1 25 [.int .i64 g.ar, g.nv, g.ev] :: (RNodes rs ++ L))) (fun vs _ => match vs with | [.int _ i] => g.nodes.length - i.toNat | _ => 0) ⟨0, [], _, rfl, by omega, rfl, H.sl_nil _ _⟩ ?_
  clear H
  rintro vs w kk ⟨i, rs, nv, rfl, hi, her, H⟩ hkk σ
  simp only [List.getD_cons_zero, List.getD_cons_succ]
  (repeat with_reducible (first | refine Red.to ?_ | (refine is_rload ?_; (first | refine rv_load H rfl ?_ | refine rv_load H.up1 rfl ?_ | refine rv_load H.up2 rfl ?_ | refine rv_load H.up3 rfl ?_ | refine rv_load H.up4 rfl ?_))))
  refine cond_split (fun hc => ?_) (fun hc => ?_)
  · have hlt : i < g.nodes.length := by have := of_decide_eq_true hc; omega
    obtain ⟨o, ho⟩ : ∃ o, g.nodes[i]? = some o := ⟨_, List.getElem?_eq_getElem hlt⟩
    have hno := hok.2.1 o (List.mem_of_getElem? ho)
    have hfo := f3 o (List.mem_of_getElem? ho)
    unfold NodeV.fits at hfo
    have hrl : rs.length = i := by
      have := congrArg List.length her
      simp only [List.length_map, List.length_take] at this
      omega
    generalize hM : (Sl 59 10 nv i (fl NodeV.cs rs) :: cells b3 25 [.int .i64 g.ar, nv, .slice none 0 0] :: cells b2 25 Z3 :: cells b1 25 [.int .i64 g.ar, g.nv, g.ev] :: (RNodes rs ++ L)) = M at H
    have HL : ∀ {w}, St W w M → St W w L := fun h => by
      subst hM
      exact St.dropL h.drop.drop.drop.drop
    have Rn : ∀ {w}, St W w M → NRd w o := fun h => (R _ (HL h)).2.2 o (List.mem_of_getElem? ho)
    obtain ⟨gg, off, cap, hv, hcell⟩ := Kn0.form (fun w h => (R w h).1) (HL H) (by omega)
    have o1 := NodeV.one (Rn H)
    refine rv_row (cs := o.cs) H hv hlt (fun j v hj => hcell w (HL H) _ v (fl_get NodeV.len _ i j o v ho hj)) (by rfl) (by rfl) o1 ?_
    clear H
    intro b5 w4 H
    refine rv_loada H (cs := o.cs) (by rfl) (by rfl) ?_
    refine rv_new (c' := o.cs) H (by rfl) (by rfl) o1 ?_
    clear H
    intro b6 w5 H
    simp only [NodeV.cs] at H
    replace H := H.drew
    refine ⟨fun w => St W w (cells b6 59 [.int .i64 o.kd, .int .i64 o.ins, .int .i64 o.outs, o.cv, .int .u64 o.a, .int .u64 o.b, .int .u64 o.c, .int .u64 o.bd, o.kv, .bool o.st] :: cells b5 59 [.int .i64 o.kd, .int .i64 o.ins, .int .i64 o.outs, o.cv, .int .u64 o.a, .int .u64 o.b, .int .u64 o.c, .int .u64 o.bd, o.kv, .bool o.st] :: M), H, ?_⟩
    (repeat with_reducible (first | refine Red.to ?_ | (refine is_tload ?_; (first | refine tk_load (fun _ H => H) rfl ?_ | refine tk_load (fun _ H => H.up1) rfl ?_ | refine tk_load (fun _ H => H.up2) rfl ?_ | refine tk_load (fun _ H => H.up3) rfl ?_))))
    refine tp (v := .agg zOp.toArray) (fun _ => by kernel_rfl) ?_
    (repeat with_reducible (first | refine Red.to ?_ | (refine is_tload ?_; (first | refine tk_load (fun _ H => H) rfl ?_ | refine tk_load (fun _ H => H.up1) rfl ?_ | refine tk_load (fun _ H => H.up2) rfl ?_ | refine tk_load (fun _ H => H.up3) rfl ?_))))
    refine tp_len_rd0 (Rn H.drop.drop).1 ?_
    refine share_of (fun vs w => ∃ x g', vs = [x, .slice (some ⟨g', 0, none⟩) 1 1] ∧ St W w (Sl 61 2 x o.code.length (fl OpD.cs o.code) :: cells g' 61 zOp :: cells b6 59 [.int .i64 o.kd, .int .i64 o.ins, .int .i64 o.outs, o.cv, .int .u64 o.a, .int .u64 o.b, .int .u64 o.c, .int .u64 o.bd, o.kv, .bool o.st] :: cells b5 59 [.int .i64 o.kd, .int .i64 o.ins, .int .i64 o.outs, o.cv, .int .u64 o.a, .int .u64 o.b, .int .u64 o.c, .int .u64 o.bd, o.kv, .bool o.st] :: M)) ?_ ?_
    rotate_left
    · intro J2 hJ2
      exact tree3 (fun _ h => h) H (fun w h => (Rn h.drop.drop).1) (fl_len OpD.len _) (fl_one (fun e => e.one) _) (by unfold maxLen; omega) (by omega) (by rfl) (by omega) (fun x g w' h => hJ2 _ _ ⟨x, g, rfl, h⟩)
    clear H
    rintro vs w ⟨x, g', rfl, H⟩ σ
    simp only [List.getD_cons_zero, List.getD_cons_succ]
    refine room_app (z := zOp) H rfl (zone rfl) (by unfold maxLen; omega) (by omega) ?_
    clear H
    intro g6 cap6 w7 hcap6 H
    first | refine keep_same (H.drop) ?_ | refine ⟨H.drop, ?_⟩
    refine tp_slice_h' (by omega) (by omega) ?_
    rw [Int.toNat_natCast]
    (repeat with_reducible (first | refine Red.to ?_ | (refine is_tload ?_; (first | refine tk_load (fun _ H => H) rfl ?_ | refine tk_load (fun _ H => H.up1) rfl ?_ | refine tk_load (fun _ H => H.up2) rfl ?_ | refine tk_load (fun _ H => H.up3) rfl ?_))))
    refine ru_store H.up1 (by simp) rfl ?_
    clear H
    intro w8 H
    simp only [List.set_cons_succ, List.set_cons_zero] at H
    replace H := H.drew
    refine ⟨fun w => St W w (cells b6 59 [.int .i64 o.kd, .int .i64 o.ins, .int .i64 o.outs, .slice (some ⟨g6, 0, none⟩) o.code.length cap6, .int .u64 o.a, .int .u64 o.b, .int .u64 o.c, .int .u64 o.bd, o.kv, .bool o.st] :: Rm 61 2 (.slice (some ⟨g6, 0, none⟩) o.code.length cap6) o.code.length (fl OpD.cs o.code) zOp :: cells b5 59 [.int .i64 o.kd, .int .i64 o.ins, .int .i64 o.outs, o.cv, .int .u64 o.a, .int .u64 o.b, .int .u64 o.c, .int .u64 o.bd, o.kv, .bool o.st] :: M), H, ?_⟩
    (repeat with_reducible (first | refine Red.to ?_ | (refine is_tload ?_; (first | refine tk_load (fun _ H => H) rfl ?_ | refine tk_load (fun _ H => H.up1) rfl ?_ | refine tk_load (fun _ H => H.up2) rfl ?_ | refine tk_load (fun _ H => H.up3) rfl ?_))))
    refine tp (v := .agg zConn.toArray) (fun _ => by kernel_rfl) ?_
    (repeat with_reducible (first | refine Red.to ?_ | (refine is_tload ?_; (first | refine tk_load (fun _ H => H) rfl ?_ | refine tk_load (fun _ H => H.up1) rfl ?_ | refine tk_load (fun _ H => H.up2) rfl ?_ | refine tk_load (fun _ H => H.up3) rfl ?_))))
    refine tp_len_rd0 (Rn H.drop.drop.drop).2 ?_
    refine share_of (fun vs w => ∃ x g', vs = [x, .slice (some ⟨g', 0, none⟩) 1 1] ∧ St W w (Sl 63 5 x o.conns.length (fl ConnD.cs o.conns) :: cells g' 63 zConn :: cells b6 59 [.int .i64 o.kd, .int .i64 o.ins, .int .i64 o.outs, .slice (some ⟨g6, 0, none⟩) o.code.length cap6, .int .u64 o.a, .int .u64 o.b, .int .u64 o.c, .int .u64 o.bd, o.kv, .bool o.st] :: Rm 61 2 (.slice (some ⟨g6, 0, none⟩) o.code.length cap6) o.code.length (fl OpD.cs o.code) zOp :: cells b5 59 [.int .i64 o.kd, .int .i64 o.ins, .int .i64 o.outs, o.cv, .int .u64 o.a, .int .u64 o.b, .int .u64 o.c, .int .u64 o.bd, o.kv, .bool o.st] :: M)) ?_ ?_
    rotate_left
    · intro J2 hJ2
      exact tree3 (fun _ h => h) H (fun w h => (Rn h.drop.drop.drop).2) (fl_len ConnD.len _) (fl_one (fun e => e.one) _) (by unfold maxLen; omega) (by omega) (by rfl) (by omega) (fun x g w' h => hJ2 _ _ ⟨x, g, rfl, h⟩)
    clear H
    rintro vs w ⟨x, g', rfl, H⟩ σ
    simp only [List.getD_cons_zero, List.getD_cons_succ]
    refine room_app (z := zConn) H rfl (zone rfl) (by unfold maxLen; omega) (by omega) ?_
    clear H
    intro g7 cap7 w9 hcap7 H
    first | refine keep_same (H.drop) ?_ | refine ⟨H.drop, ?_⟩
    refine tp_slice_h' (by omega) (by omega) ?_
    rw [Int.toNat_natCast]
    (repeat with_reducible (first | refine Red.to ?_ | (refine is_tload ?_; (first | refine tk_load (fun _ H => H) rfl ?_ | refine tk_load (fun _ H => H.up1) rfl ?_ | refine tk_load (fun _ H => H.up2) rfl ?_ | refine tk_load (fun _ H => H.up3) rfl ?_))))
    refine ru_store H.up1 (by simp) rfl ?_
    clear H
    intro w10 H
    simp only [List.set_cons_succ, List.set_cons_zero] at H
    subst hM
    have H : St W w10 (cells b6 59 [.int .i64 o.kd, .int .i64 o.ins, .int .i64 o.outs, .slice (some ⟨g6, 0, none⟩) o.code.length cap6, .int .u64 o.a, .int .u64 o.b, .int .u64 o.c, .int .u64 o.bd, .slice (some ⟨g7, 0, none⟩) o.conns.length cap7, .bool o.st] :: cells b3 25 [.int .i64 g.ar, nv, .slice none 0 0] :: Sl 59 10 nv i (fl NodeV.cs rs) :: Rm 61 2 (.slice (some ⟨g6, 0, none⟩) o.code.length cap6) o.code.length (fl OpD.cs o.code) zOp :: Rm 63 5 (.slice (some ⟨g7, 0, none⟩) o.conns.length cap7) o.conns.length (fl ConnD.cs o.conns) zConn :: cells b2 25 Z3 :: cells b1 25 [.int .i64 g.ar, g.nv, g.ev] :: (RNodes rs ++ L)) :=
      (St.pm (P := [_, _, _, _, _, _]) [3, 0, 5, 4, 2, 1] H rfl).drop
    (repeat with_reducible (first | refine Red.to ?_ | (refine is_rload ?_; (first | refine rv_load H rfl ?_ | refine rv_load H.up1 rfl ?_ | refine rv_load H.up2 rfl ?_ | refine rv_load H.up3 rfl ?_ | refine rv_load H.up4 rfl ?_))))
    refine rv_loada H (cs := NodeV.cs ⟨o.kd, o.ins, o.outs, o.code, .slice (some ⟨g6, 0, none⟩) o.code.length cap6, o.a, o.b, o.c, o.bd, o.conns, .slice (some ⟨g7, 0, none⟩) o.conns.length cap7, o.st⟩) rfl rfl ?_
    refine rv_build1 H (by rfl) (by omega) ?_
    clear H
    intro g8 w11 H
    replace H := H.up3.up1
    refine rv_append_cells (m := 1) (t := 22) (news := NodeV.cs ⟨o.kd, o.ins, o.outs, o.code, .slice (some ⟨g6, 0, none⟩) o.code.length cap6, o.a, o.b, o.c, o.bd, o.conns, .slice (some ⟨g7, 0, none⟩) o.conns.length cap7, o.st⟩) (n := i) H (by rfl) (zone rfl) (by unfold maxLen; omega) (by omega) ?_
    clear H
    intro nv' w12 H hnv
    have hnv1 : nv'.oneCell' = true := sl_one H
    replace H := H.up1.drop.up1
    (repeat with_reducible (first | refine Red.to ?_ | (refine is_rload ?_; (first | refine rv_load H rfl ?_ | refine rv_load H.up1 rfl ?_ | refine rv_load H.up2 rfl ?_ | refine rv_load H.up3 rfl ?_ | refine rv_load H.up4 rfl ?_))))
    refine ru_store H (by simp) hnv1 ?_
    clear H
    intro w13 H
    simp only [List.set_cons_succ, List.set_cons_zero] at H
    (repeat with_reducible (first | refine Red.to ?_ | (refine is_rload ?_; (first | refine rv_load H rfl ?_ | refine rv_load H.up1 rfl ?_ | refine rv_load H.up2 rfl ?_ | refine rv_load H.up3 rfl ?_ | refine rv_load H.up4 rfl ?_))))
    rw [i64_small (by omega) (by omega)]
    refine hkk _ _ ⟨i + 1, rs ++ [⟨o.kd, o.ins, o.outs, o.code, .slice (some ⟨g6, 0, none⟩) o.code.length cap6, o.a, o.b, o.c, o.bd, o.conns, .slice (some ⟨g7, 0, none⟩) o.conns.length cap7, o.st⟩], nv', rfl, by omega, ?_, ?_⟩ (by simp; omega)
    · rw [List.take_add_one, ho, List.map_append, List.map_append, her]
      rfl
    · rw [fl_snoc]
      have H := St.pm (P := [_, _, _, _, _, _]) [1, 0, 4, 5, 2, 3] H rfl
      exact H.perm (List.Perm.append_left [_, _, _, _] (rnodes_in (L := L) (ns := rs) (n := ⟨o.kd, o.ins, o.outs, o.code, .slice (some ⟨g6, 0, none⟩) o.code.length cap6, o.a, o.b, o.c, o.bd, o.conns, .slice (some ⟨g7, 0, none⟩) o.conns.length cap7, o.st⟩)))
  · have hi : i = g.nodes.length := by have := of_decide_eq_false hc; omega
    subst hi
    rw [List.take_length] at her
    exact hJ _ _ ⟨rs, nv, rfl, her, H⟩
end
end Go.Proofs.Ytdmocobabpmoeaa
