
/-
  Package draft: Get.
-/
import Derived.Test.YtdmocobabpmoeaaDraftH
namespace Go.Proofs.Ytdmocobabpmoeaa
open Go.Vc Go.Sep Go.Ops
set_option linter.unusedVariables false
set_option linter.unusedSectionVars false
set_option linter.unusedSimpArgs false

def NodesH (l : List NodeV) : List HProp := l.flatMap fun n => [OpsH n.cv n.code, ConnsH n.kv n.conns]
def GraphH (g : GraphV) : List HProp := Sl 59 10 g.nv g.nodes.length (fl NodeV.cs g.nodes) :: Sl 65 5 g.ev g.edges.length (fl EdgeD.cs g.edges) :: NodesH g.nodes
def GraphV.er (g : GraphV) : GraphV := gd g.ar (g.nodes.map NodeV.er) g.edges
def Z3 : List Value := [.int .i64 0, .slice none 0 0, .slice none 0 0]
section
variable {W w : World} {L : List HProp} {K : Value → World → Prop} {KU : World → Prop} {X : XPost}
theorem nodesH_in {P : List HProp} {ns : List NodeV} {n : NodeV} (H : St W w (P ++ (OpsH n.cv n.code :: ConnsH n.kv n.conns :: (NodesH ns ++ L)))) : St W w (P ++ (NodesH (ns ++ [n]) ++ L)) := by
  refine H.perm (List.Perm.append_left _ ?_)
  have e : NodesH (ns ++ [n]) = NodesH ns ++ [OpsH n.cv n.code, ConnsH n.kv n.conns] := by simp [NodesH]
  rw [e]
  have : (OpsH n.cv n.code :: ConnsH n.kv n.conns :: (NodesH ns ++ L)) = [OpsH n.cv n.code, ConnsH n.kv n.conns] ++ NodesH ns ++ L := by simp
  rw [this]
  exact List.Perm.append_right _ List.perm_append_comm
theorem NodeV.one' {n : NodeV} (h1 : n.cv.oneCell' = true) (h2 : n.kv.oneCell' = true) : ∀ u ∈ n.cs, u.oneCell' = true := by
  intro u hu
  simp only [NodeV.cs, List.mem_cons, List.not_mem_nil, or_false] at hu
  rcases hu with rfl | rfl | rfl | rfl | rfl | rfl | rfl | rfl | rfl | rfl
  case inr.inr.inr.inl => exact h1
  case inr.inr.inr.inr.inr.inr.inr.inr.inl => exact h2
  all_goals rfl
/-- Get, where it gives up. -/
theorem get_fail {bg pe pa : Nat} {e a e0 a0 : Int} {M : List HProp} (H : St W w (cells pe 28 [.int .i64 e0] :: cells pa 3 [.int .i64 a0] :: cells bg 25 Z3 :: (M ++ L)))
    (k : ∀ w', St W w' L → K (.tuple #[.agg Z3.toArray, .int .i64 e, .int .i64 a]) w') : Sh.draft_Get_X5 Try.prog K X (.pointer (some ⟨bg, 0, none⟩)) (.pointer (some ⟨pe, 0, none⟩)) (.pointer (some ⟨pa, 0, none⟩)) (wrongE e a) w := by
  unfold Sh.draft_Get_X5 lv
  refine ⟨by simp, caught_bad H ?_⟩
  clear H
  intro w' H
  unfold lv
  refine ⟨by simp, draft_Get_1_def (a0 := .pointer (some ⟨pe, 0, none⟩)) (a1 := .pointer (some ⟨bg, 0, none⟩)) ?_ rfl⟩
  unfold Sh.draft_Get_1
  have fin : ∀ w', St W w' (cells pe 28 [.int .i64 e] :: cells pa 3 [.int .i64 a] :: cells bg 25 Z3 :: (M ++ L)) → lv Try.prog [RV.cell (.pointer (some ⟨bg, 0, none⟩)) 25, RV.cell (.pointer (some ⟨pe, 0, none⟩)) 28, RV.cell (.pointer (some ⟨pa, 0, none⟩)) 3] K X [] (settle .returning) w' := by
    intro w' H
    simp only [settle]
    unfold lv rdRes rdRes rdRes rdRes
    refine ld_agg H.up2 (cs := Z3) rfl rfl ?_
    refine ld_one H rfl ?_
    refine ld_one H.up1 rfl ?_
    exact k _ (St.dropL H.drop.drop.drop)
  (repeat with_reducible (first | refine Red.to ?_ | (refine is_rload ?_; (first | refine rv_load H rfl ?_ | refine rv_load H.up1 rfl ?_ | refine rv_load H.up2 rfl ?_ | refine rv_load H.up3 rfl ?_ | refine rv_load H.up4 rfl ?_))))
  refine cond_split (fun h => ?_) (fun h => ?_)
  · refine rv (v := .agg Z3.toArray) (w' := w') (by kernel_rfl) ?_
    refine ru_store_whole (c' := Z3) (show _ = some 3 by kernel_rfl) H.up2 rfl (by intro u hu; simp [Z3] at hu; rcases hu with rfl | rfl <;> rfl) ?_
    clear H
    intro w2 H
    exact fin _ H.dn2
  · exact fin _ H

theorem get_spec {v : Value} {bs : List UInt8} (R : Kn W L v bs.length (bv bs)) (hl : bs.length ≤ 140737488351232) (H : St W w L) (k : ∀ (g : GraphV) p w', pGraph bs = .ok g.er p → St W w' (GraphH g ++ L) → K (.tuple #[.agg g.cs.toArray, .int .i64 0, .int .i64 0]) w')
    (ke : ∀ e a w', pGraph bs = .bad e a → St W w' L → K (.tuple #[.agg Z3.toArray, .int .i64 (e : Nat), .int .i64 (a : Nat)]) w') : FCall Try.prog Fn.draft_Get #[v] w K X := by
  refine draft_Get_call ?_
  unfold Sh.draft_Get
  refine rv_allocz H ?_
  clear H
  intro bg w1 H
  refine rv_allocz H ?_
  clear H
  intro pe w2 H
  refine rv_allocz H ?_
  clear H
  intro pa w3 H
  refine NewReader_spec H (Kn.tail (Kn.tail (Kn.tail R))) hl ?_
  clear H
  intro r w4 H
  refine rv (v := .agg #[.pointer (some ⟨r, 0, none⟩)]) (w' := w4) (by kernel_rfl) ?_
  refine rv_new (c' := [.pointer (some ⟨r, 0, none⟩)]) H (by rfl) (by rfl) (by intro u hu; simp at hu; subst hu; rfl) ?_
  clear H
  intro b5 w5 H
  refine rv_allocz H ?_
  clear H
  intro b6 w6 H
  replace H : St W w6 (Rr r 0 bs 0 :: cells b6 25 [.int .i64 0, .slice none 0 0, .slice none 0 0] :: Sl 59 10 (.slice none 0 0) 0 (fl NodeV.cs []) :: Sl 65 5 (.slice none 0 0) 0 (fl EdgeD.cs []) :: cells b5 85 [.pointer (some ⟨r, 0, none⟩)] :: cells pe 28 [.int .i64 0] :: cells pa 3 [.int .i64 0] :: cells bg 25 Z3 :: (NodesH [] ++ L)) :=
    St.pm (P := [_, _, _, _, _, _, _, _]) [4, 2, 0, 1, 3, 6, 5, 7] ((H.sl_nil 65 5).sl_nil 59 10) rfl
  have bad : ∀ {e a : Nat} {w' : World} {A B C D : HProp} {M : List HProp}, pGraph bs = .bad e a → St W w' (A :: B :: C :: D :: cells pe 28 [.int .i64 0] :: cells pa 3 [.int .i64 0] :: cells bg 25 Z3 :: (M ++ L)) → Sh.draft_Get_X5 Try.prog K X (.pointer (some ⟨bg, 0, none⟩)) (.pointer (some ⟨pe, 0, none⟩)) (.pointer (some ⟨pa, 0, none⟩)) (wrongE (e : Nat) (a : Nat)) w' := by
    intro e a w' A B C D M h H
    refine get_fail (e0 := 0) (a0 := 0) (M := [A, B, C, D] ++ M) ?_ (fun w' H => ke e a w' h H)
    exact St.pm (P := [_, _, _, _, _, _, _]) [4, 5, 6, 0, 1, 2, 3] H rfl
  unfold pGraph at k ke bad
  refine rv_loada H.up4 rfl rfl ?_
  refine int_spec H (fun ar p1 w' h hi H => ?_) (fun e a w' h H => bad (M := NodesH []) (by rw [h]; rfl) H)
  simp only [h, Rs.bind] at k ke bad
  (repeat with_reducible (first | refine Red.to ?_ | (refine is_rload ?_; (first | refine rv_load H rfl ?_ | refine rv_load H.up1 rfl ?_ | refine rv_load H.up2 rfl ?_ | refine rv_load H.up3 rfl ?_ | refine rv_load H.up4 rfl ?_))))
  refine ru_store H.up1 (by simp) rfl ?_
  clear H
  intro w7 H
  replace H : St W w7 (Rr r 0 bs p1 :: cells b6 25 [.int .i64 ar, .slice none 0 0, .slice none 0 0] :: Sl 59 10 (.slice none 0 0) 0 (fl NodeV.cs []) :: Sl 65 5 (.slice none 0 0) 0 (fl EdgeD.cs []) :: cells b5 85 [.pointer (some ⟨r, 0, none⟩)] :: cells pe 28 [.int .i64 0] :: cells pa 3 [.int .i64 0] :: cells bg 25 Z3 :: (NodesH [] ++ L)) := H.up1
  -- behind the nodes
  refine share_of (fun vs w => vs = [] ∧ ∃ (nn : Nat) (ns : List NodeV) (nv : Value) (p2 p3 : Nat), pN bs 24 2 p1 = .ok nn p2 ∧ pL (pNode bs) nn p2 = .ok (ns.map NodeV.er) p3 ∧ St W w (Rr r 0 bs p3 :: cells b6 25 [.int .i64 ar, nv, .slice none 0 0] :: Sl 59 10 nv ns.length (fl NodeV.cs ns) :: Sl 65 5 (.slice none 0 0) 0 (fl EdgeD.cs []) :: cells b5 85 [.pointer (some ⟨r, 0, none⟩)] :: cells pe 28 [.int .i64 0] :: cells pa 3 [.int .i64 0] :: cells bg 25 Z3 :: (NodesH ns ++ L))) ?_ ?_
  · clear H
    rintro vs w ⟨rfl, nn, ns, nv, p2, p3, h2, h3, H⟩ σ
    simp only [h2, h3] at k ke bad
    -- behind the edges
    refine share_of (fun vs w => vs = [] ∧ ∃ (ne : Nat) (es : List EdgeD) (ev : Value) (p4 p5 : Nat), pN bs 48 2 p3 = .ok ne p4 ∧ pL (pEdge bs) ne p4 = .ok es p5 ∧ St W w (Rr r 0 bs p5 :: cells b6 25 [.int .i64 ar, nv, ev] :: Sl 59 10 nv ns.length (fl NodeV.cs ns) :: Sl 65 5 ev es.length (fl EdgeD.cs es) :: cells b5 85 [.pointer (some ⟨r, 0, none⟩)] :: cells pe 28 [.int .i64 0] :: cells pa 3 [.int .i64 0] :: cells bg 25 Z3 :: (NodesH ns ++ L))) ?_ ?_
    · clear H
      rintro vs w ⟨rfl, ne, es, ev, p4, p5, h4, h5, H⟩ σ
      simp only [h4, h5] at k ke bad
      (repeat with_reducible (first | refine Red.to ?_ | (refine is_rload ?_; (first | refine rv_load H rfl ?_ | refine rv_load H.up1 rfl ?_ | refine rv_load H.up2 rfl ?_ | refine rv_load H.up3 rfl ?_ | refine rv_load H.up4 rfl ?_))))
      refine REnd_spec H ?_
      clear H
      intro w8 H
      replace H := H.drew
      have H0 : St W w8.drew [cells b5 85 [.pointer (some ⟨r, 0, none⟩)]] := St.head H.up4
      refine ⟨fun w => St W w [cells b5 85 [.pointer (some ⟨r, 0, none⟩)]], H0, ?_⟩
      (repeat with_reducible (first | refine Red.to ?_ | (refine is_tload ?_; (first | refine tk_load (fun _ H => H) rfl ?_ | refine tk_load (fun _ H => H.up1) rfl ?_ | refine tk_load (fun _ H => H.up2) rfl ?_ | refine tk_load (fun _ H => H.up3) rfl ?_))))
      refine RErr_spec H ?_
      first | refine keep_same (H0) ?_ | refine ⟨H0, ?_⟩
      refine tp_eql ?_
      refine RErr_spec H ?_
      first | refine keep_same (H0) ?_ | refine ⟨H0, ?_⟩
      refine RAt_spec H ?_
      by_cases hp : p5 < bs.length
      · rw [if_pos ⟨rfl, hp⟩] at H ⊢
        refine must_spec (fun hm => by simp at hm) (fun hm => bad (M := NodesH ns) (e := 32) (a := p5) (by simp only [if_pos hp]) H.drop)
      · rw [if_neg (by simp [hp])] at H ⊢
        refine must_spec (fun hm => ?_) (fun hm => by simp at hm)
        simp only [if_neg hp] at k
        refine rv_loada H.up1 rfl rfl ?_
        have o1 := sl_one H.up2
        have o2 := sl_one H.up3
        refine ru_store_whole (c' := [.int .i64 ar, nv, ev]) (show _ = some 3 by kernel_rfl) (St.pm (P := [_, _, _, _, _, _, _, _]) [7, 0, 1, 2, 3, 4, 5, 6] H rfl) rfl (by intro u hu; simp at hu; rcases hu with rfl | rfl | rfl; rfl; exact o1; exact o2) ?_
        clear H H0
        intro w9 H
        replace H : St W w9 (cells pe 28 [.int .i64 0] :: cells pa 3 [.int .i64 0] :: cells bg 25 [.int .i64 ar, nv, ev] :: Sl 59 10 nv ns.length (fl NodeV.cs ns) :: Sl 65 5 ev es.length (fl EdgeD.cs es) :: Rr r ((0 : Nat) : Int) bs p5 :: cells b6 25 [.int .i64 ar, nv, ev] :: cells b5 85 [.pointer (some ⟨r, 0, none⟩)] :: (NodesH ns ++ L)) := St.pm (P := [_, _, _, _, _, _, _, _]) [6, 7, 0, 3, 4, 1, 2, 5] H rfl
        refine ru_store H (by simp) rfl ?_
        clear H
        intro w10 H
        refine ru_store H.up1 (by simp) rfl ?_
        clear H
        intro w11 H
        replace H := H.up1
        unfold lv
        refine ⟨by simp, caught_ok ?_⟩
        unfold lv
        refine ⟨by simp, draft_Get_1_def (a0 := .pointer (some ⟨pe, 0, none⟩)) (a1 := .pointer (some ⟨bg, 0, none⟩)) ?_ rfl⟩
        unfold Sh.draft_Get_1
        (repeat with_reducible (first | refine Red.to ?_ | (refine is_rload ?_; (first | refine rv_load H rfl ?_ | refine rv_load H.up1 rfl ?_ | refine rv_load H.up2 rfl ?_ | refine rv_load H.up3 rfl ?_ | refine rv_load H.up4 rfl ?_))))
        refine cond_false' ?_
        simp only [settle]
        unfold lv rdRes rdRes rdRes rdRes
        refine ld_agg H.up2 (cs := [.int .i64 ar, nv, ev]) rfl rfl ?_
        refine ld_one H rfl ?_
        refine ld_one H.up1 rfl ?_
        refine k ⟨ar, ns, nv, es, ev⟩ _ _ rfl ?_
        have H := H.drop.drop.drop
        have H : St W w11 (Rr r ((0 : Nat) : Int) bs p5 :: cells b6 25 [.int .i64 ar, nv, ev] :: cells b5 85 [.pointer (some ⟨r, 0, none⟩)] :: Sl 59 10 nv ns.length (fl NodeV.cs ns) :: Sl 65 5 ev es.length (fl EdgeD.cs es) :: (NodesH ns ++ L)) := St.pm (P := [_, _, _, _, _]) [2, 3, 4, 0, 1] H rfl
        exact H.drop.drop.drop
    · intro J hJ
      refine rv_loada H.up4 rfl rfl ?_
      refine many_spec (most := 48) (by omega) H (fun ne p4 w' h4 hne H => ?_) (fun e a w' h H => bad (M := NodesH ns) (by rw [h]) H)
      simp only [h4] at k ke bad
      refine loop_of (fun vs w => ∃ (i : Nat) (es : List EdgeD) (ev : Value) (q : Nat), vs = [.int .i64 i] ∧ i ≤ ne ∧ pL (pEdge bs) i p4 = .ok es q ∧ St W w (Rr r 0 bs q :: cells b6 25 [.int .i64 ar, nv, ev] :: Sl 59 10 nv ns.length (fl NodeV.cs ns) :: Sl 65 5 ev es.length (fl EdgeD.cs es) :: cells b5 85 [.pointer (some ⟨r, 0, none⟩)] :: cells pe 28 [.int .i64 0] :: cells pa 3 [.int .i64 0] :: cells bg 25 Z3 :: (NodesH ns ++ L)))
        (fun vs _ => match vs with | [.int _ i] => ne - i.toNat | _ => 0) ⟨0, [], _, p4, rfl, by omega, rfl, H⟩ ?_
      clear H
      rintro vs w kk ⟨i, es, ev, q, rfl, hi, hes, H⟩ hkk σ
      simp only [List.getD_cons_zero, List.getD_cons_succ]
      (repeat with_reducible (first | refine Red.to ?_ | (refine is_rload ?_; (first | refine rv_load H rfl ?_ | refine rv_load H.up1 rfl ?_ | refine rv_load H.up2 rfl ?_ | refine rv_load H.up3 rfl ?_ | refine rv_load H.up4 rfl ?_))))
      refine cond_split (fun h => ?_) (fun h => ?_)
      · have h : i < ne := by have := of_decide_eq_true h; omega
        have hs := pL_snoc (pEdge bs) i p4
        rw [hes] at hs
        simp only [Rs.bind] at hs
        replace H := H.drew
        refine ⟨fun w => St W w [cells b6 25 [.int .i64 ar, nv, ev]], St.head H.up1, ?_⟩
        (repeat with_reducible (first | refine Red.to ?_ | (refine is_tload ?_; (first | refine tk_load (fun _ H => H) rfl ?_ | refine tk_load (fun _ H => H.up1) rfl ?_ | refine tk_load (fun _ H => H.up2) rfl ?_ | refine tk_load (fun _ H => H.up3) rfl ?_))))
        refine rv_loada H.up4 rfl rfl ?_
        first | refine keep_same (St.head H.up1) ?_ | refine ⟨St.head H.up1, ?_⟩
        refine tedge_spec H (fun e q2 w' h6 he heb H => ?_) (fun e a w' h H => bad (M := NodesH ns) (by rw [pL_bad (i := i + 1) (n := ne) (by rw [hs, h]) (by omega)]) H)
        simp only [h6] at hs
        first | refine keep_same (St.head H.up1) ?_ | refine ⟨St.head H.up1, ?_⟩
        refine rv_build1 H rfl (by simp [Value.cells, EdgeD.cs]) ?_
        clear H
        intro g w8 H
        first | refine keep_same (St.head H.up2) ?_ | refine ⟨St.head H.up2, ?_⟩
        have hll := pL_len hes
        refine rv_append_cells (n := es.length) (m := 1) (xs := fl EdgeD.cs es) (news := e.cs) (St.pm (P := [_, _, _, _, _]) [0, 4, 1, 2, 3] H rfl) rfl (EdgeD.one _) (by unfold maxLen; omega) (by omega) ?_
        clear H
        intro ev' w9 H _
        have hone := sl_one H
        (repeat with_reducible (first | refine Red.to ?_ | (refine is_tload ?_; (first | refine tk_load (fun _ H => H) rfl ?_ | refine tk_load (fun _ H => H.up1) rfl ?_ | refine tk_load (fun _ H => H.up2) rfl ?_ | refine tk_load (fun _ H => H.up3) rfl ?_))))
        refine ru_store H.up2 (by simp) hone ?_
        clear H
        intro w10 H
        (repeat with_reducible (first | refine Red.to ?_ | (refine is_rload ?_; (first | refine rv_load H rfl ?_ | refine rv_load H.up1 rfl ?_ | refine rv_load H.up2 rfl ?_ | refine rv_load H.up3 rfl ?_ | refine rv_load H.up4 rfl ?_))))
        rw [i64_small (by omega) (by omega)]
        refine hkk _ _ ⟨i + 1, es ++ [e], ev', q2, rfl, by omega, hs, ?_⟩ (by simp; omega)
        rw [← fl_snoc] at H
        have H : St W w10 (Rr r 0 bs q2 :: cells b6 25 [.int .i64 ar, nv, ev'] :: Sl 59 10 nv ns.length (fl NodeV.cs ns) :: Sl 65 5 ev' (es.length + 1) (fl EdgeD.cs (es ++ [e])) :: _) := St.pm (P := [_, _, _, _]) [2, 0, 3, 1] H rfl
        simpa using H
      · have h : i = ne := by have := of_decide_eq_false h; omega
        subst h
        exact hJ _ _ ⟨rfl, _, es, ev, _, q, h4, hes, H⟩
  · intro J hJ
    refine rv_loada H.up4 rfl rfl ?_
    refine many_spec (most := 24) (by omega) H (fun nn p2 w' h2 hnn H => ?_) (fun e a w' h H => bad (M := NodesH []) (by rw [h]) H)
    simp only [h2] at k ke bad
    refine loop_of (fun vs w => ∃ (i : Nat) (ns : List NodeV) (nv : Value) (q : Nat), vs = [.int .i64 i] ∧ i ≤ nn ∧ pL (pNode bs) i p2 = .ok (ns.map NodeV.er) q ∧ St W w (Rr r 0 bs q :: cells b6 25 [.int .i64 ar, nv, .slice none 0 0] :: Sl 59 10 nv ns.length (fl NodeV.cs ns) :: Sl 65 5 (.slice none 0 0) 0 (fl EdgeD.cs []) :: cells b5 85 [.pointer (some ⟨r, 0, none⟩)] :: cells pe 28 [.int .i64 0] :: cells pa 3 [.int .i64 0] :: cells bg 25 Z3 :: (NodesH ns ++ L)))
      (fun vs _ => match vs with | [.int _ i] => nn - i.toNat | _ => 0) ⟨0, [], _, p2, rfl, by omega, rfl, H⟩ ?_
    clear H
    rintro vs w kk ⟨i, ns, nv, q, rfl, hi, hns, H⟩ hkk σ
    simp only [List.getD_cons_zero, List.getD_cons_succ]
    (repeat with_reducible (first | refine Red.to ?_ | (refine is_rload ?_; (first | refine rv_load H rfl ?_ | refine rv_load H.up1 rfl ?_ | refine rv_load H.up2 rfl ?_ | refine rv_load H.up3 rfl ?_ | refine rv_load H.up4 rfl ?_))))
    refine cond_split (fun h => ?_) (fun h => ?_)
    · have h : i < nn := by have := of_decide_eq_true h; omega
      have hs := pL_snoc (pNode bs) i p2
      rw [hns] at hs
      simp only [Rs.bind] at hs
      replace H := H.drew
      refine ⟨fun w => St W w [cells b6 25 [.int .i64 ar, nv, .slice none 0 0]], St.head H.up1, ?_⟩
      (repeat with_reducible (first | refine Red.to ?_ | (refine is_tload ?_; (first | refine tk_load (fun _ H => H) rfl ?_ | refine tk_load (fun _ H => H.up1) rfl ?_ | refine tk_load (fun _ H => H.up2) rfl ?_ | refine tk_load (fun _ H => H.up3) rfl ?_))))
      refine rv_loada H.up4 rfl rfl ?_
      first | refine keep_same (St.head H.up1) ?_ | refine ⟨St.head H.up1, ?_⟩
      refine tnode_spec H (fun n q2 w' h6 H => ?_) (fun e a w' h H => bad (M := NodesH ns) (by rw [pL_bad (i := i + 1) (n := nn) (by rw [hs, h]) (by omega)]) H)
      simp only [h6] at hs
      have o1 := sl_one H
      have o2 := sl_one H.up1
      first | refine keep_same (St.head H.up3) ?_ | refine ⟨St.head H.up3, ?_⟩
      refine rv_build1 H rfl (by simp [Value.cells, NodeV.cs]) ?_
      clear H
      intro g w8 H
      first | refine keep_same (St.head H.up4) ?_ | refine ⟨St.head H.up4, ?_⟩
      have hll := pL_len hns
      simp only [List.length_map] at hll
      refine rv_append_cells (n := ns.length) (m := 1) (xs := fl NodeV.cs ns) (news := n.cs) (St.pm (P := [_, _, _, _, _, _]) [0, 5, 1, 2, 3, 4] H rfl) rfl (NodeV.one' o1 o2) (by unfold maxLen; omega) (by omega) ?_
      clear H
      intro nv' w9 H _
      have hone := sl_one H
      (repeat with_reducible (first | refine Red.to ?_ | (refine is_tload ?_; (first | refine tk_load (fun _ H => H) rfl ?_ | refine tk_load (fun _ H => H.up1) rfl ?_ | refine tk_load (fun _ H => H.up2) rfl ?_ | refine tk_load (fun _ H => H.up3) rfl ?_))))
      refine ru_store H.up4 (by simp) hone ?_
      clear H
      intro w10 H
      (repeat with_reducible (first | refine Red.to ?_ | (refine is_rload ?_; (first | refine rv_load H rfl ?_ | refine rv_load H.up1 rfl ?_ | refine rv_load H.up2 rfl ?_ | refine rv_load H.up3 rfl ?_ | refine rv_load H.up4 rfl ?_))))
      rw [i64_small (by omega) (by omega)]
      refine hkk _ _ ⟨i + 1, ns ++ [n], nv', q2, rfl, by omega, by rw [hs]; simp, ?_⟩ (by simp; omega)
      rw [← fl_snoc] at H
      have H : St W w10 ([Rr r 0 bs q2, cells b6 25 [.int .i64 ar, nv', .slice none 0 0], Sl 59 10 nv' (ns.length + 1) (fl NodeV.cs (ns ++ [n])), Sl 65 5 (.slice none 0 0) 0 (fl EdgeD.cs []), cells b5 85 [.pointer (some ⟨r, 0, none⟩)], cells pe 28 [.int .i64 0], cells pa 3 [.int .i64 0], cells bg 25 Z3] ++ (OpsH n.cv n.code :: ConnsH n.kv n.conns :: (NodesH ns ++ L))) :=
        St.pm (P := [_, _, _, _, _, _, _, _, _, _]) [4, 0, 1, 5, 6, 7, 8, 9, 2, 3] H rfl
      have H := nodesH_in H
      simpa using H
    · have h : i = nn := by have := of_decide_eq_false h; omega
      subst h
      exact hJ _ _ ⟨rfl, _, ns, nv, _, q, h2, hns, H⟩
end
end Go.Proofs.Ytdmocobabpmoeaa
