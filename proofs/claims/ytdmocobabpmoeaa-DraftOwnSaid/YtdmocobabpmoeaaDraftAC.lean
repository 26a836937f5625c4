
/-
  The document's own reader: a graph.
-/
import Derived.Test.YtdmocobabpmoeaaDraftAB
namespace Go.Proofs.Ytdmocobabpmoeaa
open Go.Vc Go.Sep Go.Ops
set_option linter.unusedVariables false
set_option linter.unusedSectionVars false
set_option linter.unusedSimpArgs false

def finR (bs : List UInt8) : Rs Unit → Rs Unit
  | .ok _ p => if p < bs.length then .bad 32 p else .ok () p
  | .bad e a => .bad e a
theorem graph_rel {bs : List UInt8} {nn ne : Nat} {s1 s2 s3 s4 s5 : Rs Unit} {ns : List NodeV} {es : List EdgeD} (h1 : s1 = (pI bs 0).st) (h2 : s2 = (s1.go (pN bs 24 2)).st) (hn : nn = (s1.go (pN bs 24 2)).val 0) (h3 : s3 = (pLs (pNode bs) nn s2).st) (hns : ∀ l q, pLs (pNode bs) nn s2 = .ok l q → ns = l)
    (h4 : s4 = (s3.go (pN bs 48 2)).st) (hm : ne = (s3.go (pN bs 48 2)).val 0) (h5 : s5 = (pLs (pEdge bs) ne s4).st) (hes : ∀ l q, pLs (pEdge bs) ne s4 = .ok l q → es = l) :
    (pGraph bs).st = finR bs s5 ∧ ∀ g q, pGraph bs = .ok g q → gd ((pI bs 0).val 0 : Nat) ns es = g := by
  subst h1 h2 hn h4 hm
  unfold pGraph
  cases h1 : pI bs 0 with
  | bad e a => rw [h1] at h3; subst h3; subst h5; exact ⟨rfl, fun g q h => by cases h⟩
  | ok ar q1 =>
    rw [h1] at h3 hns
    simp only [Rs.bind, Rs.st, Rs.val, go_ok] at h3 hns ⊢
    cases h2 : pN bs 24 2 q1 with
    | bad e a => rw [h2] at h3; subst h3; subst h5; exact ⟨rfl, fun g q h => by cases h⟩
    | ok nn q2 =>
      rw [h2] at h3 hns
      unfold pLs at h3 hns
      simp only [go_ok] at h3 hns ⊢
      cases h4 : pL (pNode bs) nn q2 with
      | bad e a => rw [h4] at h3; subst h3; subst h5; exact ⟨rfl, fun g q h => by cases h⟩
      | ok l q3 =>
        rw [h4] at h3
        subst h3
        have := hns l q3 h4
        subst this
        simp only [go_ok] at h5 hes ⊢
        cases h6 : pN bs 48 2 q3 with
        | bad e a => rw [h6] at h5; subst h5; exact ⟨rfl, fun g q h => by cases h⟩
        | ok ne q4 =>
          rw [h6] at h5 hes
          unfold pLs at h5 hes
          simp only [Rs.st, Rs.val, go_ok] at h5 hes ⊢
          cases h7 : pL (pEdge bs) ne q4 with
          | bad e a => rw [h7] at h5; subst h5; exact ⟨rfl, fun g q h => by cases h⟩
          | ok l2 q5 =>
            rw [h7] at h5
            subst h5
            have := hes l2 q5 h7
            subst this
            simp only [finR]
            by_cases hq : q5 < bs.length
            · rw [if_pos hq, if_pos hq]
              exact ⟨rfl, fun g q h => by cases h⟩
            · rw [if_neg hq, if_neg hq]
              exact ⟨rfl, fun g q h => by cases h; rfl⟩
section
variable {W w : World} {L : List HProp} {K : Value → World → Prop} {KU : World → Prop} {X : XPost}
theorem rd0_form {v : Value} {n : Nat} {cs : List Value} (h : Rd0 w v n cs) : ∃ p n c, v = .slice p n c := by
  rcases h with (⟨rfl, _⟩ | ⟨g, off, cap, rfl, _⟩) | ⟨a, c, rfl, _⟩ <;> exact ⟨_, _, _, rfl⟩
theorem rget_spec {v : Value} {bs : List UInt8} (R : Kn0 W L v bs.length (bv bs)) (hl : bs.length ≤ 140737488351232) (H : St W w L) (k : ∀ (g : GraphV) p w', pGraph bs = .ok g.er p → St W w' (GraphH g ++ L) → K (.tuple #[.agg g.cs.toArray, .int .i64 0, .int .i64 0]) w')
    (ke : ∀ e a w', pGraph bs = .bad e a → St W w' L → K (.tuple #[.agg Z3.toArray, .int .i64 (e : Nat), .int .i64 (a : Nat)]) w') : FCall Try.prog Fn.sluiceref08_Get #[v] w K X := by
  refine sluiceref08_Get_call ?_
  unfold Sh.sluiceref08_Get
  obtain ⟨vp, vn, vc, hv⟩ := rd0_form (R _ H)
  refine rv_allocz H ?_
  clear H
  intro b2 w1 H
  refine rv (v := .agg #[v, .int .i64 0, .int .i64 0, .int .i64 0]) (w' := w1) (by subst hv; kernel_rfl) ?_
  refine rv_box (c := [v, .int .i64 0, .int .i64 0, .int .i64 0]) H (by subst hv; rfl) ?_
  clear H
  intro f w2 H
  replace H : St W w2 (Fr f v bs (.ok () 0) :: cells b2 25 Z3 :: L) := Fr.m (by omega) H
  refine fint_spec (R.up (A := [_])) hl H ?_
  clear H
  intro w3 H
  rw [go_ok] at H ⊢
  generalize har : (pI bs 0).val 0 = ar at *
  generalize hs1 : (pI bs 0).st = s1 at *
  refine rv (v := .agg #[.int .i64 (ar : Nat), .slice none 0 0, .slice none 0 0]) (w' := w3) (by kernel_rfl) ?_
  refine rv_new (c' := [.int .i64 (ar : Nat), .slice none 0 0, .slice none 0 0]) H (by rfl) (by rfl) (zone rfl) ?_
  clear H
  intro b6 w4 H
  refine fnum_spec (most := 24) (over := 2) (by decide) (R.up (A := [_, _])) hl H.up1 ?_
  clear H
  intro w5 H
  have hnl := (val_lt (bs := bs) (s := s1) (most := 24) (over := 2)).1
  generalize hnn : (s1.go (pN bs 24 2)).val 0 = nn at *
  generalize hs2 : (s1.go (pN bs 24 2)).st = s2 at *
  (repeat with_reducible (first | refine Red.to ?_ | (refine is_rload ?_; (first | refine rv_load H rfl ?_ | refine rv_load H.up1 rfl ?_ | refine rv_load H.up2 rfl ?_ | refine rv_load H.up3 rfl ?_ | refine rv_load H.up4 rfl ?_))))
  rw [i64_small (by omega) (by omega)]
  replace H : St W w5 (Fr f v bs s2 :: cells b6 25 [.int .i64 (ar : Nat), .slice none 0 0, .slice none 0 0] :: cells b2 25 Z3 :: L) := H
  refine share_of (fun vs w => vs = [] ∧ ∃ (rs : List NodeV) (nv : Value) (s : Rs Unit), rs.length ≤ 24 ∧ s = (pLs (pNode bs) nn s2).st ∧ (∀ l q, pLs (pNode bs) nn s2 = .ok l q → rs.map NodeV.er = l) ∧ St W w (Fr f v bs s :: cells b6 25 [.int .i64 (ar : Nat), nv, .slice none 0 0] :: cells b2 25 Z3 :: Sl 59 10 nv rs.length (fl NodeV.cs rs) :: (NodesH rs ++ L))) ?_ ?_
  · clear H
    rintro vs w ⟨rfl, rs, nv, s3, hrl, hs3, hrs, H⟩ σ
    refine fnum_spec (most := 48) (over := 2) (by decide) (fun w h => R w (St.dropL (A := NodesH rs) h.drop.drop.drop)) hl H ?_
    clear H
    intro w6 H
    have hml := (val_lt (bs := bs) (s := s3) (most := 48) (over := 2)).1
    generalize hne : (s3.go (pN bs 48 2)).val 0 = ne at *
    generalize hs4 : (s3.go (pN bs 48 2)).st = s4 at *
    (repeat with_reducible (first | refine Red.to ?_ | (refine is_rload ?_; (first | refine rv_load H rfl ?_ | refine rv_load H.up1 rfl ?_ | refine rv_load H.up2 rfl ?_ | refine rv_load H.up3 rfl ?_ | refine rv_load H.up4 rfl ?_))))
    rw [i64_small (by omega) (by omega)]
    refine share_of (fun vs w => vs = [] ∧ ∃ (es : List EdgeD) (ev : Value) (s : Rs Unit), s = (pLs (pEdge bs) ne s4).st ∧ (∀ l q, pLs (pEdge bs) ne s4 = .ok l q → es = l) ∧ St W w (Fr f v bs s :: cells b6 25 [.int .i64 (ar : Nat), nv, ev] :: cells b2 25 Z3 :: Sl 65 5 ev es.length (fl EdgeD.cs es) :: Sl 59 10 nv rs.length (fl NodeV.cs rs) :: (NodesH rs ++ L))) ?_ ?_
    · clear H
      rintro vs w ⟨rfl, es, ev, s5, hs5, hes, H⟩ σ
      obtain ⟨y1, y2⟩ := graph_rel hs1.symm hs2.symm hnn.symm hs3 hrs hs4.symm hne.symm hs5 hes
      rw [har] at y2
      refine share_of (fun vs w => vs = [] ∧ St W w (Fr f v bs (pGraph bs).st :: cells b6 25 [.int .i64 (ar : Nat), nv, ev] :: cells b2 25 Z3 :: Sl 65 5 ev es.length (fl EdgeD.cs es) :: Sl 59 10 nv rs.length (fl NodeV.cs rs) :: (NodesH rs ++ L))) ?_ ?_
      · clear H
        rintro vs w ⟨rfl, H⟩ σ
        cases hg : pGraph bs with
        | bad e a =>
          rw [hg] at H
          obtain ⟨he, at_, H⟩ := Fr.ob H
          have he' : (((e : Nat) : Int) != 0) = true := by simp; omega
          (repeat (first | (with_reducible (first | refine Red.to ?_ | (refine is_rload ?_; (first | refine rv_load H rfl ?_ | refine rv_load H.up1 rfl ?_ | refine rv_load H.up2 rfl ?_ | refine rv_load H.up3 rfl ?_ | refine rv_load H.up4 rfl ?_)) | (refine is_tload ?_; (first | refine tk_load (fun _ H => H) rfl ?_ | refine tk_load (fun _ H => H.up1) rfl ?_ | refine tk_load (fun _ H => H.up2) rfl ?_ | refine tk_load (fun _ H => H.up3) rfl ?_)))) | (refine Share.mk ?_) | (intro _) | (simp only [List.getD_cons_zero, List.getD_cons_succ, he'])))
          replace H := H.drew
          refine ⟨fun w => St W w [cells f 93 [v, .int .i64 at_, .int .i64 (e : Nat), .int .i64 (a : Nat)]], St.head H, ?_⟩
          refine tp (v := .agg Z3.toArray) (fun _ => by kernel_rfl) ?_
          (repeat with_reducible (first | refine Red.to ?_ | (refine is_tload ?_; (first | refine tk_load (fun _ H => H) rfl ?_ | refine tk_load (fun _ H => H.up1) rfl ?_ | refine tk_load (fun _ H => H.up2) rfl ?_ | refine tk_load (fun _ H => H.up3) rfl ?_))))
          refine ru_store_whole (c' := Z3) (show _ = some 3 by kernel_rfl) H.up2 rfl z3_one ?_
          clear H
          intro w7 H
          first | refine keep_same (St.head H.up1) ?_ | refine ⟨St.head H.up1, ?_⟩
          refine ld_agg H (cs := Z3) rfl rfl ?_
          exact ke e a _ hg (St.dropL (A := NodesH rs) H.drop.drop.drop.drop.drop)
        | ok g q =>
          rw [hg] at H
          have hgg := y2 g q hg
          obtain ⟨hq, H⟩ := Fr.o H
          (repeat (first | (with_reducible (first | refine Red.to ?_ | (refine is_rload ?_; (first | refine rv_load H rfl ?_ | refine rv_load H.up1 rfl ?_ | refine rv_load H.up2 rfl ?_ | refine rv_load H.up3 rfl ?_ | refine rv_load H.up4 rfl ?_)) | (refine is_tload ?_; (first | refine tk_load (fun _ H => H) rfl ?_ | refine tk_load (fun _ H => H.up1) rfl ?_ | refine tk_load (fun _ H => H.up2) rfl ?_ | refine tk_load (fun _ H => H.up3) rfl ?_)))) | (refine Share.mk ?_) | (intro _) | (simp only [List.getD_cons_zero, List.getD_cons_succ, bne_self_eq_false])))
          refine rv_loada H.up1 (cs := [.int .i64 (ar : Nat), nv, ev]) rfl rfl ?_
          have o1 := sl_one H.up3
          have o2 := sl_one H.up4
          refine ru_store_whole (c' := [.int .i64 (ar : Nat), nv, ev]) (show _ = some 3 by kernel_rfl) H.up2 rfl (by intro u hu; simp at hu; rcases hu with rfl | rfl | rfl; rfl; exact o2; exact o1) ?_
          clear H
          intro w7 H
          refine ld_agg H (cs := [.int .i64 (ar : Nat), nv, ev]) rfl rfl ?_
          refine k ⟨(ar : Nat), rs, nv, es, ev⟩ q _ ?_ ?_
          · rw [hg, ← hgg]
            rfl
          · exact (H.drop.drop.drop).up1
      · intro J hJ
        rw [y1] at hJ
        cases s5 with
        | bad e a =>
          refine share_of (fun vs w' => vs = [.bool false] ∧ w' = w) ?_ ?_
          · rintro vs w ⟨rfl, rfl⟩ σ
            simp only [List.getD_cons_zero]
            exact cond_false' (hJ _ _ ⟨rfl, H⟩)
          intro J2 hJ2
          refine Fr.go H (fun r hr => by cases hr) (fun e a hr => ?_)
          (repeat (first | (with_reducible (first | refine Red.to ?_ | (refine is_rload ?_; (first | refine rv_load H rfl ?_ | refine rv_load H.up1 rfl ?_ | refine rv_load H.up2 rfl ?_ | refine rv_load H.up3 rfl ?_ | refine rv_load H.up4 rfl ?_)) | (refine is_tload ?_; (first | refine tk_load (fun _ H => H) rfl ?_ | refine tk_load (fun _ H => H.up1) rfl ?_ | refine tk_load (fun _ H => H.up2) rfl ?_ | refine tk_load (fun _ H => H.up3) rfl ?_)))) | (refine Share.mk ?_) | (intro _) | (simp only [List.getD_cons_zero, List.getD_cons_succ])))
          exact hJ2 _ _ ⟨rfl, rfl⟩
        | ok u p =>
          simp only [finR] at hJ
          refine share_of (fun vs w' => vs = [.bool (decide (p < bs.length))] ∧ w' = w) ?_ ?_
          · rintro vs w ⟨rfl, rfl⟩ σ
            simp only [List.getD_cons_zero]
            refine cond_split (fun h => ?_) (fun h => ?_)
            · rw [if_pos (of_decide_eq_true h)] at hJ
              obtain ⟨hp, H⟩ := Fr.o H
              (repeat with_reducible (first | refine Red.to ?_ | (refine is_rload ?_; (first | refine rv_load H rfl ?_ | refine rv_load H.up1 rfl ?_ | refine rv_load H.up2 rfl ?_ | refine rv_load H.up3 rfl ?_ | refine rv_load H.up4 rfl ?_))))
              refine fault_spec (bs := bs) (e := 32) (by decide) H ?_
              clear H
              intro w7 H
              exact hJ _ _ ⟨rfl, H⟩
            · rw [if_neg (of_decide_eq_false h)] at hJ
              exact hJ _ _ ⟨rfl, H⟩
          intro J2 hJ2
          obtain ⟨hp, H⟩ := Fr.o H
          (repeat (first | (with_reducible (first | refine Red.to ?_ | (refine is_rload ?_; (first | refine rv_load H rfl ?_ | refine rv_load H.up1 rfl ?_ | refine rv_load H.up2 rfl ?_ | refine rv_load H.up3 rfl ?_ | refine rv_load H.up4 rfl ?_)) | (refine is_tload ?_; (first | refine tk_load (fun _ H => H) rfl ?_ | refine tk_load (fun _ H => H.up1) rfl ?_ | refine tk_load (fun _ H => H.up2) rfl ?_ | refine tk_load (fun _ H => H.up3) rfl ?_)))) | (refine Share.mk ?_) | (intro _) | (simp only [List.getD_cons_zero, List.getD_cons_succ, beq_self_eq_true])))
          refine rv_len_rd0 (R _ (St.dropL (A := NodesH rs) H.drop.drop.drop.drop.drop)) ?_
          have e1 : decide ((p : Int) < (bs.length : Int)) = decide (p < bs.length) := by rw [decide_eq_decide]; omega
          (repeat (first | (with_reducible (first | refine Red.to ?_ | (refine is_rload ?_; (first | refine rv_load H rfl ?_ | refine rv_load H.up1 rfl ?_ | refine rv_load H.up2 rfl ?_ | refine rv_load H.up3 rfl ?_ | refine rv_load H.up4 rfl ?_)) | (refine is_tload ?_; (first | refine tk_load (fun _ H => H) rfl ?_ | refine tk_load (fun _ H => H.up1) rfl ?_ | refine tk_load (fun _ H => H.up2) rfl ?_ | refine tk_load (fun _ H => H.up3) rfl ?_)))) | (refine Share.mk ?_) | (intro _) | (simp only [List.getD_cons_zero, List.getD_cons_succ, e1])))
          exact hJ2 _ _ ⟨rfl, rfl⟩
    · intro J hJ
      refine loop_of (fun vs w => ∃ (i : Nat) (es : List EdgeD) (ev : Value) (s : Rs Unit), vs = [.int .i64 i] ∧ i ≤ ne ∧ es.length = i ∧ s = (pLs (pEdge bs) i s4).st ∧ (∀ l q, pLs (pEdge bs) i s4 = .ok l q → es = l) ∧ St W w (Fr f v bs s :: cells b6 25 [.int .i64 (ar : Nat), nv, ev] :: cells b2 25 Z3 :: Sl 65 5 ev es.length (fl EdgeD.cs es) :: Sl 59 10 nv rs.length (fl NodeV.cs rs) :: (NodesH rs ++ L)))
        (fun vs _ => match vs with | [.int _ i] => ne - i.toNat | _ => 0) ⟨0, [], _, s4, rfl, by omega, rfl, loop_zero.1, loop_zero.2, (St.pm (P := [_, _, _, _]) [1, 2, 3, 0] (H.sl_nil 65 5) rfl)⟩ ?_
      clear H
      rintro vs w kk ⟨i, es, ev, s, rfl, hi, hel, hs, hes, H⟩ hkk σ
      simp only [List.getD_cons_zero, List.getD_cons_succ]
      have hend : (i = ne ∨ ∃ e a, s = .bad e a) → J [] w := by
        intro he
        obtain ⟨x1, x2⟩ := loop_exit hs hi he hes
        exact hJ _ _ ⟨rfl, es, ev, s, x1, x2, H⟩
      have RR : ∀ {A : HProp}, Kn0 W (A :: cells b6 25 [.int .i64 (ar : Nat), nv, ev] :: cells b2 25 Z3 :: Sl 65 5 ev es.length (fl EdgeD.cs es) :: Sl 59 10 nv rs.length (fl NodeV.cs rs) :: (NodesH rs ++ L)) v bs.length (bv bs) := fun w h => R w (St.dropL (A := NodesH rs) h.drop.drop.drop.drop.drop)
      have R1 : Kn0 W (cells b6 25 [.int .i64 (ar : Nat), nv, ev] :: cells b2 25 Z3 :: Sl 65 5 ev es.length (fl EdgeD.cs es) :: Sl 59 10 nv rs.length (fl NodeV.cs rs) :: (NodesH rs ++ L)) v bs.length (bv bs) := fun w h => R w (St.dropL (A := NodesH rs) h.drop.drop.drop.drop)
      refine share_of (fun vs w' => vs = [] ∧ w' = w ∧ i < ne ∧ ∃ r, s = .ok () r) ?_ ?_
      · rintro vs w' ⟨rfl, rfl, hlt, r, rfl⟩ σ
        refine fint_spec R1 hl H ?_
        clear H
        intro w8 H
        rw [go_ok] at H ⊢
        refine rv (v := .agg (EdgeD.cs ⟨((pI bs r).val 0 : Nat), 0, 0, 0, false⟩).toArray) (w' := w8) (by kernel_rfl) ?_
        refine rv_new (c' := EdgeD.cs ⟨((pI bs r).val 0 : Nat), 0, 0, 0, false⟩) H (by rfl) (by rfl) (zone rfl) ?_
        clear H
        intro b8 w9 H
        simp only [EdgeD.cs] at H
        refine fint_spec RR hl H.up1 ?_
        clear H
        intro w10 H
        (repeat with_reducible (first | refine Red.to ?_ | (refine is_rload ?_; (first | refine rv_load H rfl ?_ | refine rv_load H.up1 rfl ?_ | refine rv_load H.up2 rfl ?_ | refine rv_load H.up3 rfl ?_ | refine rv_load H.up4 rfl ?_))))
        refine ru_store H.up1 (by simp) rfl ?_
        clear H
        intro w11 H
        simp only [List.set_cons_succ, List.set_cons_zero] at H
        refine fint_spec RR hl H.up1 ?_
        clear H
        intro w12 H
        (repeat with_reducible (first | refine Red.to ?_ | (refine is_rload ?_; (first | refine rv_load H rfl ?_ | refine rv_load H.up1 rfl ?_ | refine rv_load H.up2 rfl ?_ | refine rv_load H.up3 rfl ?_ | refine rv_load H.up4 rfl ?_))))
        refine ru_store H.up1 (by simp) rfl ?_
        clear H
        intro w13 H
        simp only [List.set_cons_succ, List.set_cons_zero] at H
        refine fint_spec RR hl H.up1 ?_
        clear H
        intro w14 H
        (repeat with_reducible (first | refine Red.to ?_ | (refine is_rload ?_; (first | refine rv_load H rfl ?_ | refine rv_load H.up1 rfl ?_ | refine rv_load H.up2 rfl ?_ | refine rv_load H.up3 rfl ?_ | refine rv_load H.up4 rfl ?_))))
        refine ru_store H.up1 (by simp) rfl ?_
        clear H
        intro w15 H
        simp only [List.set_cons_succ, List.set_cons_zero] at H
        refine ftruth_spec RR hl H.up1 ?_
        clear H
        intro w16 H
        (repeat with_reducible (first | refine Red.to ?_ | (refine is_rload ?_; (first | refine rv_load H rfl ?_ | refine rv_load H.up1 rfl ?_ | refine rv_load H.up2 rfl ?_ | refine rv_load H.up3 rfl ?_ | refine rv_load H.up4 rfl ?_))))
        refine ru_store H.up1 (by simp) rfl ?_
        clear H
        intro w17 H
        simp only [List.set_cons_succ, List.set_cons_zero] at H
        obtain ⟨o1, o2⟩ := edge_st (bs := bs) (p := r) rfl rfl rfl rfl
        rw [← o1] at H
        obtain ⟨l1, l2⟩ := loop_step hs rfl hes o2
        rw [l1] at H
        generalize ho : (⟨((pI bs r).val 0 : Nat), (((pI bs r).st.go (pI bs)).val 0 : Nat), ((((pI bs r).st.go (pI bs)).st.go (pI bs)).val 0 : Nat), (((((pI bs r).st.go (pI bs)).st.go (pI bs)).st.go (pI bs)).val 0 : Nat), (((((pI bs r).st.go (pI bs)).st.go (pI bs)).st.go (pI bs)).st.go (pT bs)).val false⟩ : EdgeD) = o at l2
        replace H := St.mono (B := cells b8 65 o.cs) H (fun h hh => by rw [← ho]; exact hh)
        (repeat with_reducible (first | refine Red.to ?_ | (refine is_rload ?_; (first | refine rv_load H rfl ?_ | refine rv_load H.up1 rfl ?_ | refine rv_load H.up2 rfl ?_ | refine rv_load H.up3 rfl ?_ | refine rv_load H.up4 rfl ?_))))
        refine rv_loada H (cs := o.cs) rfl rfl ?_
        refine rv_build1 H (by rfl) (by omega) ?_
        clear H
        intro g8 w18 H
        refine rv_append_cells (n := es.length) (m := 1) (xs := fl EdgeD.cs es) (news := o.cs) (St.pm (P := [_, _, _, _, _, _]) [0, 5, 1, 2, 3, 4] H rfl) rfl o.one (by unfold maxLen; omega) (by omega) ?_
        clear H
        intro ev' w19 H _
        have hone := sl_one H
        replace H := H.up3
        (repeat with_reducible (first | refine Red.to ?_ | (refine is_rload ?_; (first | refine rv_load H rfl ?_ | refine rv_load H.up1 rfl ?_ | refine rv_load H.up2 rfl ?_ | refine rv_load H.up3 rfl ?_ | refine rv_load H.up4 rfl ?_))))
        refine ru_store H (by simp) hone ?_
        clear H
        intro w20 H
        simp only [List.set_cons_succ, List.set_cons_zero] at H
        (repeat with_reducible (first | refine Red.to ?_ | (refine is_rload ?_; (first | refine rv_load H rfl ?_ | refine rv_load H.up1 rfl ?_ | refine rv_load H.up2 rfl ?_ | refine rv_load H.up3 rfl ?_ | refine rv_load H.up4 rfl ?_))))
        rw [i64_small (by omega) (by omega)]
        refine hkk _ _ ⟨i + 1, es ++ [o], ev', _, rfl, by omega, by simp [hel], rfl, l2, ?_⟩ (by simp; omega)
        have e : fl EdgeD.cs es ++ o.cs = fl EdgeD.cs (es ++ [o]) := by rw [fl_snoc]
        rw [e] at H
        have H := (St.pm (P := [_, _, _, _, _]) [2, 3, 0, 4, 1] H rfl).drop
        simpa using H
      · intro J2 hJ2
        (repeat with_reducible (first | refine Red.to ?_ | (refine is_rload ?_; (first | refine rv_load H rfl ?_ | refine rv_load H.up1 rfl ?_ | refine rv_load H.up2 rfl ?_ | refine rv_load H.up3 rfl ?_ | refine rv_load H.up4 rfl ?_))))
        cases hc : decide ((i : Int) < (ne : Int)) with
        | false =>
          have := of_decide_eq_false hc
          (repeat (first | (with_reducible (first | refine Red.to ?_ | (refine is_rload ?_; (first | refine rv_load H rfl ?_ | refine rv_load H.up1 rfl ?_ | refine rv_load H.up2 rfl ?_ | refine rv_load H.up3 rfl ?_ | refine rv_load H.up4 rfl ?_)) | (refine is_tload ?_; (first | refine tk_load (fun _ H => H) rfl ?_ | refine tk_load (fun _ H => H.up1) rfl ?_ | refine tk_load (fun _ H => H.up2) rfl ?_ | refine tk_load (fun _ H => H.up3) rfl ?_)))) | (refine Share.mk ?_) | (intro _) | (simp only [List.getD_cons_zero, List.getD_cons_succ])))
          exact hend (.inl (by omega))
        | true =>
          have hlt := of_decide_eq_true hc
          refine guard_tt ?_
          refine Fr.go H (fun r hr => ?_) (fun e a hr => ?_)
          · (repeat (first | (with_reducible (first | refine Red.to ?_ | (refine is_rload ?_; (first | refine rv_load H rfl ?_ | refine rv_load H.up1 rfl ?_ | refine rv_load H.up2 rfl ?_ | refine rv_load H.up3 rfl ?_ | refine rv_load H.up4 rfl ?_)) | (refine is_tload ?_; (first | refine tk_load (fun _ H => H) rfl ?_ | refine tk_load (fun _ H => H.up1) rfl ?_ | refine tk_load (fun _ H => H.up2) rfl ?_ | refine tk_load (fun _ H => H.up3) rfl ?_)))) | (refine Share.mk ?_) | (intro _) | (simp only [List.getD_cons_zero, List.getD_cons_succ])))
            exact hJ2 _ _ ⟨rfl, rfl, by omega, r, hr⟩
          · (repeat (first | (with_reducible (first | refine Red.to ?_ | (refine is_rload ?_; (first | refine rv_load H rfl ?_ | refine rv_load H.up1 rfl ?_ | refine rv_load H.up2 rfl ?_ | refine rv_load H.up3 rfl ?_ | refine rv_load H.up4 rfl ?_)) | (refine is_tload ?_; (first | refine tk_load (fun _ H => H) rfl ?_ | refine tk_load (fun _ H => H.up1) rfl ?_ | refine tk_load (fun _ H => H.up2) rfl ?_ | refine tk_load (fun _ H => H.up3) rfl ?_)))) | (refine Share.mk ?_) | (intro _) | (simp only [List.getD_cons_zero, List.getD_cons_succ])))
            exact hend (.inr ⟨e, a, hr⟩)
  · intro J hJ
    refine loop_of (fun vs w => ∃ (i : Nat) (rs : List NodeV) (nv : Value) (s : Rs Unit), vs = [.int .i64 i] ∧ i ≤ nn ∧ rs.length = i ∧ s = (pLs (pNode bs) i s2).st ∧ (∀ l q, pLs (pNode bs) i s2 = .ok l q → rs.map NodeV.er = l) ∧ St W w (Fr f v bs s :: cells b6 25 [.int .i64 (ar : Nat), nv, .slice none 0 0] :: cells b2 25 Z3 :: Sl 59 10 nv rs.length (fl NodeV.cs rs) :: (NodesH rs ++ L)))
      (fun vs _ => match vs with | [.int _ i] => nn - i.toNat | _ => 0) ⟨0, [], _, s2, rfl, by omega, rfl, loop_zero.1, loop_zero.2, (St.pm (P := [_, _, _, _]) [1, 2, 3, 0] (H.sl_nil 59 10) rfl)⟩ ?_
    clear H
    rintro vs w kk ⟨i, rs, nv, s, rfl, hi, hel, hs, hrs, H⟩ hkk σ
    simp only [List.getD_cons_zero, List.getD_cons_succ]
    have hend : (i = nn ∨ ∃ e a, s = .bad e a) → J [] w := by
      intro he
      obtain ⟨x1, x2⟩ := loop_exit hs hi he hrs
      exact hJ _ _ ⟨rfl, rs, nv, s, by omega, x1, x2, H⟩
    have R1 : Kn0 W (cells b6 25 [.int .i64 (ar : Nat), nv, .slice none 0 0] :: cells b2 25 Z3 :: Sl 59 10 nv rs.length (fl NodeV.cs rs) :: (NodesH rs ++ L)) v bs.length (bv bs) := fun w h => R w (St.dropL (A := NodesH rs) h.drop.drop.drop)
    refine share_of (fun vs w' => vs = [] ∧ w' = w ∧ i < nn ∧ ∃ r, s = .ok () r) ?_ ?_
    · rintro vs w' ⟨rfl, rfl, hlt, r, rfl⟩ σ
      replace H := H.drew
      refine ⟨fun w => St W w [cells b6 25 [.int .i64 (ar : Nat), nv, .slice none 0 0]], St.head H.up1, ?_⟩
      (repeat with_reducible (first | refine Red.to ?_ | (refine is_tload ?_; (first | refine tk_load (fun _ H => H) rfl ?_ | refine tk_load (fun _ H => H.up1) rfl ?_ | refine tk_load (fun _ H => H.up2) rfl ?_ | refine tk_load (fun _ H => H.up3) rfl ?_))))
      refine fnode_spec R1 hl H (fun n w8 hn H => ?_)
      first | refine keep_same (St.head H.up3) ?_ | refine ⟨St.head H.up3, ?_⟩
      have hn1 : ∀ u ∈ n.cs, u.oneCell' = true := NodeV.one' (sl_one H) (sl_one H.up1)
      obtain ⟨l1, l2⟩ := loop_step hs rfl hrs hn
      rw [l1] at H
      refine rv_build1 H (by rfl) (by omega) ?_
      clear H
      intro g8 w9 H
      first | refine keep_same (St.head H.up4) ?_ | refine ⟨St.head H.up4, ?_⟩
      refine rv_append_cells (n := rs.length) (m := 1) (xs := fl NodeV.cs rs) (news := n.cs) (St.pm (P := [_, _, _, _, _, _, _]) [0, 6, 1, 2, 3, 4, 5] H rfl) rfl hn1 (by unfold maxLen; omega) (by omega) ?_
      clear H
      intro nv' w10 H _
      have hone := sl_one H
      (repeat with_reducible (first | refine Red.to ?_ | (refine is_tload ?_; (first | refine tk_load (fun _ H => H) rfl ?_ | refine tk_load (fun _ H => H.up1) rfl ?_ | refine tk_load (fun _ H => H.up2) rfl ?_ | refine tk_load (fun _ H => H.up3) rfl ?_))))
      refine ru_store (St.pm (P := [_, _, _, _, _, _]) [4, 0, 1, 2, 3, 5] H rfl) (by simp) hone ?_
      clear H
      intro w11 H
      simp only [List.set_cons_succ, List.set_cons_zero] at H
      (repeat with_reducible (first | refine Red.to ?_ | (refine is_rload ?_; (first | refine rv_load H rfl ?_ | refine rv_load H.up1 rfl ?_ | refine rv_load H.up2 rfl ?_ | refine rv_load H.up3 rfl ?_ | refine rv_load H.up4 rfl ?_))))
      rw [i64_small (by omega) (by omega)]
      refine hkk _ _ ⟨i + 1, rs ++ [n], nv', _, rfl, by omega, by simp [hel], rfl, by simpa using l2, ?_⟩ (by simp; omega)
      have e : fl NodeV.cs rs ++ n.cs = fl NodeV.cs (rs ++ [n]) := by rw [fl_snoc]
      rw [e] at H
      have H := St.pm (P := [_, _, _, _, _, _]) [4, 0, 5, 1, 2, 3] H rfl
      have H := nodesH_in (P := [_, _, _, _]) H
      simpa using H
    · intro J2 hJ2
      (repeat with_reducible (first | refine Red.to ?_ | (refine is_rload ?_; (first | refine rv_load H rfl ?_ | refine rv_load H.up1 rfl ?_ | refine rv_load H.up2 rfl ?_ | refine rv_load H.up3 rfl ?_ | refine rv_load H.up4 rfl ?_))))
      cases hc : decide ((i : Int) < (nn : Int)) with
      | false =>
        have := of_decide_eq_false hc
        (repeat (first | (with_reducible (first | refine Red.to ?_ | (refine is_rload ?_; (first | refine rv_load H rfl ?_ | refine rv_load H.up1 rfl ?_ | refine rv_load H.up2 rfl ?_ | refine rv_load H.up3 rfl ?_ | refine rv_load H.up4 rfl ?_)) | (refine is_tload ?_; (first | refine tk_load (fun _ H => H) rfl ?_ | refine tk_load (fun _ H => H.up1) rfl ?_ | refine tk_load (fun _ H => H.up2) rfl ?_ | refine tk_load (fun _ H => H.up3) rfl ?_)))) | (refine Share.mk ?_) | (intro _) | (simp only [List.getD_cons_zero, List.getD_cons_succ])))
        exact hend (.inl (by omega))
      | true =>
        have hlt := of_decide_eq_true hc
        refine guard_tt ?_
        refine Fr.go H (fun r hr => ?_) (fun e a hr => ?_)
        · (repeat (first | (with_reducible (first | refine Red.to ?_ | (refine is_rload ?_; (first | refine rv_load H rfl ?_ | refine rv_load H.up1 rfl ?_ | refine rv_load H.up2 rfl ?_ | refine rv_load H.up3 rfl ?_ | refine rv_load H.up4 rfl ?_)) | (refine is_tload ?_; (first | refine tk_load (fun _ H => H) rfl ?_ | refine tk_load (fun _ H => H.up1) rfl ?_ | refine tk_load (fun _ H => H.up2) rfl ?_ | refine tk_load (fun _ H => H.up3) rfl ?_)))) | (refine Share.mk ?_) | (intro _) | (simp only [List.getD_cons_zero, List.getD_cons_succ])))
          exact hJ2 _ _ ⟨rfl, rfl, by omega, r, hr⟩
        · (repeat (first | (with_reducible (first | refine Red.to ?_ | (refine is_rload ?_; (first | refine rv_load H rfl ?_ | refine rv_load H.up1 rfl ?_ | refine rv_load H.up2 rfl ?_ | refine rv_load H.up3 rfl ?_ | refine rv_load H.up4 rfl ?_)) | (refine is_tload ?_; (first | refine tk_load (fun _ H => H) rfl ?_ | refine tk_load (fun _ H => H.up1) rfl ?_ | refine tk_load (fun _ H => H.up2) rfl ?_ | refine tk_load (fun _ H => H.up3) rfl ?_)))) | (refine Share.mk ?_) | (intro _) | (simp only [List.getD_cons_zero, List.getD_cons_succ])))
          exact hend (.inr ⟨e, a, hr⟩)
end
end Go.Proofs.Ytdmocobabpmoeaa
