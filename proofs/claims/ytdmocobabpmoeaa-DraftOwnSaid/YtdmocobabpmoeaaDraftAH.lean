
/-
  DraftOwn: the walk.
-/
import Derived.Test.YtdmocobabpmoeaaDraftAG
namespace Go.Proofs.Ytdmocobabpmoeaa
open Go.Vc Go.Sep Go.Ops
set_option linter.unusedVariables false
set_option linter.unusedSectionVars false
set_option linter.unusedSimpArgs false

theorem fmA {α β : Type} {f g : α → List β} : ∀ l : List α, (l.flatMap fun x => f x ++ g x).Perm (l.flatMap f ++ l.flatMap g)
  | [] => by simp
  | x :: r => by
    simp only [List.flatMap_cons, List.append_assoc]
    refine List.Perm.append_left _ ?_
    exact ((fmA r).append_left (g x)).trans (List.perm_append_comm_assoc _ _ _)
def allN (gs : List GraphV) : List NodeV := gs.flatMap GraphV.nodes
def itC (gs : List GraphV) : List It := (allN gs).map fun n => (n.cv, n.code.map OpD.cs)
def itK (gs : List GraphV) : List It := (allN gs).map fun n => (n.kv, n.conns.map ConnD.cs)
def itN (gs : List GraphV) : List It := gs.map fun g => (g.nv, g.nodes.map NodeV.cs)
def itD (gs : List GraphV) : List It := gs.map fun g => (g.ev, g.edges.map EdgeD.cs)
theorem small_facts {g : GraphV} (hok : g.ok) (hE : graphE g = 0) : g.nodes.length ≤ 24 ∧ g.edges.length ≤ 48 ∧ ∀ n ∈ g.nodes, n.code.length ≤ 16 ∧ n.conns.length ≤ 16 := by
  unfold graphE at hE
  split at hE
  · cases hE
  rename_i h1
  split at hE
  · cases hE
  split at hE
  · rename_i h3
    exact absurd hE h3
  rename_i h3
  refine ⟨by omega, by omega, fun n hn => ?_⟩
  have := NodeV.good.facts ⟨hok.2.1 n hn, nodesE_mem (by omega) n hn⟩
  exact ⟨this.2.2.2.1, this.2.2.2.2.1⟩
theorem allN_len : ∀ l : List GraphV, (∀ g ∈ l, g.ok ∧ graphE g = 0) → (allN l).length ≤ 24 * l.length := by
  intro l
  induction l with
  | nil => intro _; simp [allN]
  | cons g r ih =>
    intro h
    have h1 := small_facts (h g (by simp)).1 (h g (by simp)).2
    have h2 := ih (fun x hx => h x (by simp [hx]))
    simp only [allN, List.flatMap_cons, List.length_append, List.length_cons] at h2 ⊢
    omega
theorem fm1 {α β : Type} (f : α → β) (l : List α) : (l.flatMap fun x => [f x]) = l.map f := by
  induction l with
  | nil => rfl
  | cons x r ih => simp [List.flatMap_cons, ih]
theorem graphs_perm (gs : List GraphV) : (gs.flatMap GraphH).Perm (LLs 61 2 (itC gs) ++ (LLs 63 5 (itK gs) ++ (LLs 59 10 (itN gs) ++ LLs 65 5 (itD gs)))) := by
  have h1 : gs.flatMap GraphH = gs.flatMap fun g => [Sl 59 10 g.nv g.nodes.length (fl NodeV.cs g.nodes)] ++ ([Sl 65 5 g.ev g.edges.length (fl EdgeD.cs g.edges)] ++ NodesH g.nodes) := rfl
  have h2 : (gs.flatMap fun g => NodesH g.nodes) = NodesH (allN gs) := by
    unfold allN NodesH
    rw [List.flatMap_assoc]
  have h3 : (NodesH (allN gs)).Perm (LLs 61 2 (itC gs) ++ LLs 63 5 (itK gs)) := by
    have := fmA (f := fun n : NodeV => [OpsH n.cv n.code]) (g := fun n : NodeV => [ConnsH n.kv n.conns]) (allN gs)
    rw [fm1, fm1] at this
    have e1 : LLs 61 2 (itC gs) = (allN gs).map fun n => OpsH n.cv n.code := by
      simp [LLs, itC, OpsH, fl, List.flatMap_def]
    have e2 : LLs 63 5 (itK gs) = (allN gs).map fun n => ConnsH n.kv n.conns := by
      simp [LLs, itK, ConnsH, fl, List.flatMap_def]
    rw [e1, e2]
    exact this
  have e3 : LLs 59 10 (itN gs) = gs.map fun g => Sl 59 10 g.nv g.nodes.length (fl NodeV.cs g.nodes) := by
    simp [LLs, itN, fl, List.flatMap_def]
  have e4 : LLs 65 5 (itD gs) = gs.map fun g => Sl 65 5 g.ev g.edges.length (fl EdgeD.cs g.edges) := by
    simp [LLs, itD, fl, List.flatMap_def]
  rw [h1]
  have p1 := fmA (f := fun g : GraphV => [Sl 59 10 g.nv g.nodes.length (fl NodeV.cs g.nodes)]) (g := fun g : GraphV => [Sl 65 5 g.ev g.edges.length (fl EdgeD.cs g.edges)] ++ NodesH g.nodes) gs
  have p2 := fmA (f := fun g : GraphV => [Sl 65 5 g.ev g.edges.length (fl EdgeD.cs g.edges)]) (g := fun g : GraphV => NodesH g.nodes) gs
  rw [fm1] at p1 p2
  rw [h2] at p2
  rw [e3, e4]
  generalize (gs.map fun g => Sl 59 10 g.nv g.nodes.length (fl NodeV.cs g.nodes)) = N at *
  generalize (gs.map fun g => Sl 65 5 g.ev g.edges.length (fl EdgeD.cs g.edges)) = D at *
  generalize LLs 61 2 (itC gs) = C at *
  generalize LLs 63 5 (itK gs) = Q at *
  refine p1.trans ((p2.append_left N).trans ?_)
  refine (((h3.append_left D).append_left N)).trans ?_
  have : (N ++ (D ++ (C ++ Q))).Perm ((C ++ Q) ++ (N ++ D)) := by
    rw [← List.append_assoc]
    exact List.perm_append_comm
  rw [List.append_assoc] at this
  exact this
section
variable {W w : World} {M L : List HProp} {K : Value → World → Prop} {KU : World → Prop} {X : XPost}
theorem gkn_mem {gx : GraphV} : ∀ {gs : List GraphV} {M : List HProp}, gx ∈ gs → GKn W (gs.flatMap GraphH ++ M) gx
  | [], _, h => by cases h
  | y :: r, M, h => by
    intro w H
    rw [List.flatMap_cons, List.append_assoc] at H
    rcases List.mem_cons.1 h with rfl | h
    · exact gkn_own _ H
    · exact gkn_mem h _ (St.dropL H)
/-- what is read of graphs that could be laid -/
theorem ok4 {gs : List GraphV} (H : St W w (gs.flatMap GraphH ++ M)) (hl : gs.length ≤ 4) (hs : ∀ g ∈ gs, g.ok ∧ graphE g = 0) : Ok4 (itC gs) (itK gs) (itN gs) (itD gs) ∧ Sm4 (itC gs) (itK gs) (itN gs) (itD gs) := by
  have hN : ∀ n ∈ allN gs, n.code.length ≤ 16 ∧ n.conns.length ≤ 16 := by
    intro n hn
    obtain ⟨g, hg, hng⟩ := List.mem_flatMap.1 hn
    exact (small_facts (hs g hg).1 (hs g hg).2).2.2 n hng
  have hNl : (allN gs).length ≤ 96 := by
    have : ∀ l : List GraphV, (∀ g ∈ l, g.ok ∧ graphE g = 0) → (allN l).length ≤ 24 * l.length := by
      intro l
      induction l with
      | nil => intro _; simp [allN]
      | cons g r ih =>
        intro h
        have h1 := small_facts (h g (by simp)).1 (h g (by simp)).2
        have h2 := ih (fun x hx => h x (by simp [hx]))
        simp only [allN, List.flatMap_cons, List.length_append, List.length_cons] at h2 ⊢
        omega
    have := this gs hs
    omega
  refine ⟨⟨⟨?_, by simp [itC]; omega⟩, ⟨?_, by simp [itK]; omega⟩, ⟨?_, by simp [itN]; omega⟩, ⟨?_, by simp [itD]; omega⟩⟩, ?_, ?_, ?_, ?_⟩
  · intro q hq
    obtain ⟨n, hn, rfl⟩ := List.mem_map.1 hq
    refine ⟨fun r hr => ?_, by simp; have := hN n hn; omega⟩
    obtain ⟨o, _, rfl⟩ := List.mem_map.1 hr
    exact ⟨rfl, o.one⟩
  · intro q hq
    obtain ⟨n, hn, rfl⟩ := List.mem_map.1 hq
    refine ⟨fun r hr => ?_, by simp; have := hN n hn; omega⟩
    obtain ⟨o, _, rfl⟩ := List.mem_map.1 hr
    exact ⟨rfl, o.one⟩
  · intro q hq
    obtain ⟨g, hg, rfl⟩ := List.mem_map.1 hq
    have hf := small_facts (hs g hg).1 (hs g hg).2
    refine ⟨fun r hr => ?_, by simp; omega⟩
    obtain ⟨o, ho, rfl⟩ := List.mem_map.1 hr
    exact ⟨rfl, NodeV.one ((gkn_mem hg _ H).2.2 o ho)⟩
  · intro q hq
    obtain ⟨g, hg, rfl⟩ := List.mem_map.1 hq
    have hf := small_facts (hs g hg).1 (hs g hg).2
    refine ⟨fun r hr => ?_, by simp; omega⟩
    obtain ⟨o, ho, rfl⟩ := List.mem_map.1 hr
    exact ⟨rfl, o.one⟩
  · intro q hq
    obtain ⟨n, hn, rfl⟩ := List.mem_map.1 hq
    have := hN n hn
    simp
    omega
  · intro q hq
    obtain ⟨n, hn, rfl⟩ := List.mem_map.1 hq
    have := hN n hn
    simp
    omega
  · intro q hq
    obtain ⟨g, hg, rfl⟩ := List.mem_map.1 hq
    have hf := small_facts (hs g hg).1 (hs g hg).2
    simp
    omega
  · intro q hq
    obtain ⟨g, hg, rfl⟩ := List.mem_map.1 hq
    have hf := small_facts (hs g hg).1 (hs g hg).2
    simp
    omega
/-- the heads and what they lead to are a book -/
theorem book_of {kb : Nat} {vc vk vn vd : Value} {gs : List GraphV} (H : St W w (Heads kb vc vk vn vd (hd (itC gs)) (hd (itK gs)) (hd (itN gs)) (hd (itD gs)) ++ (gs.flatMap GraphH ++ M))) : St W w (Book kb vc vk vn vd (itC gs) (itK gs) (itN gs) (itD gs) ++ M) := by
  have H := H.perm (List.Perm.append_left _ (List.Perm.append_right M (graphs_perm gs)))
  unfold Heads at H
  simp only [hd_len] at H
  unfold Book
  generalize LLs 61 2 (itC gs) = C at *
  generalize LLs 63 5 (itK gs) = Q at *
  generalize LLs 59 10 (itN gs) = N at *
  generalize LLs 65 5 (itD gs) = D at *
  generalize Sl 53 1 vc (itC gs).length (hd (itC gs)) = h1 at *
  generalize Sl 57 1 vk (itK gs).length (hd (itK gs)) = h2 at *
  generalize Sl 22 1 vn (itN gs).length (hd (itN gs)) = h3 at *
  generalize Sl 23 1 vd (itD gs).length (hd (itD gs)) = h4 at *
  generalize cells kb 51 [vc, vk, vn, vd] = h0 at *
  have H : St W w ([h0, h1, h2, h3, h4] ++ (C ++ (Q ++ (N ++ (D ++ M))))) := by simpa using H
  have H := St.all_mk (H.perm (List.perm_append_comm_assoc [h0, h1, h2, h3, h4] C (Q ++ (N ++ (D ++ M)))))
  have H := St.all_mk (St.perm H (List.perm_append_comm_assoc [Sep.all C, h0, h1, h2, h3, h4] Q (N ++ (D ++ M))))
  have H := St.all_mk (St.perm H (List.perm_append_comm_assoc [Sep.all Q, Sep.all C, h0, h1, h2, h3, h4] N (D ++ M)))
  have H := St.all_mk (St.perm H (List.perm_append_comm_assoc [Sep.all N, Sep.all Q, Sep.all C, h0, h1, h2, h3, h4] D M))
  exact St.pm (P := [Sep.all D, Sep.all N, Sep.all Q, Sep.all C, h0, h1, h2, h3, h4]) [4, 5, 3, 6, 2, 7, 1, 8, 0] H rfl
theorem own_spec {g h : GraphV} (hok : g.ok) (R : GRd W g) (hokh : h.ok) (Rh : GRd W h) (H : St W w L) (k : ∀ w', St W w' L → K (.bool true) w') : FCall Try.prog Fn.sluicelaw08_DraftOwn #[.agg g.cs.toArray, .agg h.cs.toArray] w K X := by
  refine sluicelaw08_DraftOwn_call ?_
  unfold Sh.sluicelaw08_DraftOwn
  refine rv_box (c := g.cs) H rfl ?_
  clear H
  intro b2 w1 H
  refine rv_box (c := h.cs) H rfl ?_
  clear H
  intro b3 w2 H
  refine rv_loada H.up1 (cs := g.cs) rfl rfl ?_
  refine put_both hok (GKn.old R) H ?_
  clear H
  intro b w3 H
  (repeat with_reducible (first | refine Red.to ?_ | (refine is_rload ?_; (first | refine rv_load H rfl ?_ | refine rv_load H.up1 rfl ?_ | refine rv_load H.up2 rfl ?_ | refine rv_load H.up3 rfl ?_ | refine rv_load H.up4 rfl ?_))))
  replace H : St W w3 (cells b3 25 h.cs :: cells b2 25 g.cs :: Bs b (gb g) :: L) := H.dn2
  refine rv_loada H (cs := h.cs) rfl rfl ?_
  refine put_both hokh (GKn.old Rh) H ?_
  clear H
  intro c w4 H
  (repeat with_reducible (first | refine Red.to ?_ | (refine is_rload ?_; (first | refine rv_load H rfl ?_ | refine rv_load H.up1 rfl ?_ | refine rv_load H.up2 rfl ?_ | refine rv_load H.up3 rfl ?_ | refine rv_load H.up4 rfl ?_))))
  replace H : St W w4 (cells b3 25 h.cs :: cells b2 25 g.cs :: Bs c (gb h) :: Bs b (gb g) :: L) := H.dn2
  refine known_spec H ?_
  clear H
  intro w5 H
  refine Red.to ?_
  refine cond_false' ?_
  refine share_of (fun vs w => vs = [] ∧ graphE g = 0 ∧ graphE h = 0 ∧ St W w (cells b3 25 h.cs :: cells b2 25 g.cs :: Bs c (gb h) :: Bs b (gb g) :: L)) ?_ ?_
  rotate_left
  · intro J hJ
    (repeat with_reducible (first | refine Red.to ?_ | (refine is_rload ?_; (first | refine rv_load H rfl ?_ | refine rv_load H.up1 rfl ?_ | refine rv_load H.up2 rfl ?_ | refine rv_load H.up3 rfl ?_ | refine rv_load H.up4 rfl ?_))))
    have fin := k _ (St.dropL (A := [_, _, _, _]) H)
    cases e1 : (((graphE g : Nat) : Int) != 0) with
    | true =>
      (repeat (first | (with_reducible (first | refine Red.to ?_ | (refine is_rload ?_; (first | refine rv_load H rfl ?_ | refine rv_load H.up1 rfl ?_ | refine rv_load H.up2 rfl ?_ | refine rv_load H.up3 rfl ?_ | refine rv_load H.up4 rfl ?_)) | (refine is_tload ?_; (first | refine tk_load (fun _ H => H) rfl ?_ | refine tk_load (fun _ H => H.up1) rfl ?_ | refine tk_load (fun _ H => H.up2) rfl ?_ | refine tk_load (fun _ H => H.up3) rfl ?_)))) | (refine Share.mk ?_) | (intro _) | (simp only [List.getD_cons_zero, List.getD_cons_succ])))
      exact fin
    | false =>
      have e1' : graphE g = 0 := by simpa using e1
      (repeat (first | (with_reducible (first | refine Red.to ?_ | (refine is_rload ?_; (first | refine rv_load H rfl ?_ | refine rv_load H.up1 rfl ?_ | refine rv_load H.up2 rfl ?_ | refine rv_load H.up3 rfl ?_ | refine rv_load H.up4 rfl ?_)) | (refine is_tload ?_; (first | refine tk_load (fun _ H => H) rfl ?_ | refine tk_load (fun _ H => H.up1) rfl ?_ | refine tk_load (fun _ H => H.up2) rfl ?_ | refine tk_load (fun _ H => H.up3) rfl ?_)))) | (refine Share.mk ?_) | (intro _) | (simp only [List.getD_cons_zero, List.getD_cons_succ])))
      cases e2 : (((graphE h : Nat) : Int) != 0) with
      | true =>
        (repeat (first | (with_reducible (first | refine Red.to ?_ | (refine is_rload ?_; (first | refine rv_load H rfl ?_ | refine rv_load H.up1 rfl ?_ | refine rv_load H.up2 rfl ?_ | refine rv_load H.up3 rfl ?_ | refine rv_load H.up4 rfl ?_)) | (refine is_tload ?_; (first | refine tk_load (fun _ H => H) rfl ?_ | refine tk_load (fun _ H => H.up1) rfl ?_ | refine tk_load (fun _ H => H.up2) rfl ?_ | refine tk_load (fun _ H => H.up3) rfl ?_)))) | (refine Share.mk ?_) | (intro _) | (simp only [List.getD_cons_zero, List.getD_cons_succ])))
        exact fin
      | false =>
        have e2' : graphE h = 0 := by simpa using e2
        (repeat (first | (with_reducible (first | refine Red.to ?_ | (refine is_rload ?_; (first | refine rv_load H rfl ?_ | refine rv_load H.up1 rfl ?_ | refine rv_load H.up2 rfl ?_ | refine rv_load H.up3 rfl ?_ | refine rv_load H.up4 rfl ?_)) | (refine is_tload ?_; (first | refine tk_load (fun _ H => H) rfl ?_ | refine tk_load (fun _ H => H.up1) rfl ?_ | refine tk_load (fun _ H => H.up2) rfl ?_ | refine tk_load (fun _ H => H.up3) rfl ?_)))) | (refine Share.mk ?_) | (intro _) | (simp only [List.getD_cons_zero, List.getD_cons_succ])))
        exact hJ _ _ ⟨rfl, e1', e2', H⟩
  clear H
  rintro vs w ⟨rfl, hEg, hEh, H⟩ σ
  have bg : gb g = fb (graphN g) := by unfold gb; rw [if_pos hEg]
  have bh : gb h = fb (graphN h) := by unfold gb; rw [if_pos hEh]
  have lg := gb_len hok
  have lh := gb_len hokh
  have pg := graph_back hok hEg
  have ph := graph_back hokh hEh
  rw [← bg] at pg
  rw [← bh] at ph
  have gE' : ∀ {x : GraphV} {i : Nat}, x.er = (if i = 2 then h.er else g.er) → x.ok ∧ graphE x = 0 := by
    intro x i hx
    by_cases hi : i = 2
    · rw [if_pos hi] at hx
      exact ⟨er_ok.1 (hx ▸ er_ok.2 hokh), by rw [← er_E x, hx, er_E h]; exact hEh⟩
    · rw [if_neg hi] at hx
      exact ⟨er_ok.1 (hx ▸ er_ok.2 hok), by rw [← er_E x, hx, er_E g]; exact hEg⟩
  refine share_of (fun vs w => ∃ (gs : List GraphV) (av : Value), vs = [av] ∧ gs.length = 4 ∧ (∀ j x, gs[j]? = some x → x.er = (if j = 2 then h.er else g.er)) ∧ St W w (Sl 25 3 av gs.length (fl GraphV.cs gs) :: cells b3 25 h.cs :: cells b2 25 g.cs :: Bs c (gb h) :: Bs b (gb g) :: (gs.flatMap GraphH ++ L))) ?_ ?_
  rotate_left
  · intro J hJ
    refine loop_of (fun vs w => ∃ (i : Nat) (gs : List GraphV) (av : Value), vs = [av, .int .i64 i] ∧ i ≤ 4 ∧ gs.length = i ∧ (∀ j x, gs[j]? = some x → x.er = (if j = 2 then h.er else g.er)) ∧ St W w (Sl 25 3 av gs.length (fl GraphV.cs gs) :: cells b3 25 h.cs :: cells b2 25 g.cs :: Bs c (gb h) :: Bs b (gb g) :: (gs.flatMap GraphH ++ L)))
      (fun vs _ => match vs with | [_, .int _ i] => 4 - i.toNat | _ => 0) ⟨0, [], _, rfl, by omega, rfl, fun j x h => by simp at h, H.sl_nil _ _⟩ ?_
    clear H
    rintro vs w kk ⟨i, gs, av, rfl, hi, hgl, hgs, H⟩ hkk σ
    simp only [List.getD_cons_zero, List.getD_cons_succ]
    (repeat with_reducible (first | refine Red.to ?_ | (refine is_rload ?_; (first | refine rv_load H rfl ?_ | refine rv_load H.up1 rfl ?_ | refine rv_load H.up2 rfl ?_ | refine rv_load H.up3 rfl ?_ | refine rv_load H.up4 rfl ?_))))
    refine cond_split (fun hc => ?_) (fun hc => ?_)
    · have hlt : i < 4 := by have := of_decide_eq_true hc; omega
      refine share_of (fun vs w' => w' = w ∧ ∃ (v : Value) (bs : List UInt8) (y : GraphV), vs = [v] ∧ Kn W (Sl 25 3 av gs.length (fl GraphV.cs gs) :: cells b3 25 h.cs :: cells b2 25 g.cs :: Bs c (gb h) :: Bs b (gb g) :: (gs.flatMap GraphH ++ L)) v bs.length (bv bs) ∧ bs.length ≤ 900000 ∧ pGraph bs = .ok y.er bs.length ∧ y.er = (if i = 2 then h.er else g.er)) ?_ ?_
      rotate_left
      · intro J2 hJ2
        (repeat with_reducible (first | refine Red.to ?_ | (refine is_rload ?_; (first | refine rv_load H rfl ?_ | refine rv_load H.up1 rfl ?_ | refine rv_load H.up2 rfl ?_ | refine rv_load H.up3 rfl ?_ | refine rv_load H.up4 rfl ?_))))
        refine cond_split (fun h2 => ?_) (fun h2 => ?_)
        · have h2 : i = 2 := by have := eq_of_beq h2; omega
          exact hJ2 _ _ ⟨rfl, c, gb h, h, rfl, fun w H => St.rd H.drop.drop.drop, lh, by rw [ph, bh], by rw [if_pos h2]⟩
        · have h2 : ¬ i = 2 := by rintro rfl; simp at h2
          exact hJ2 _ _ ⟨rfl, b, gb g, g, rfl, fun w H => St.rd H.drop.drop.drop.drop, lg, by rw [pg, bg], by rw [if_neg h2]⟩
      rintro vs w' ⟨rfl, v, bs, y, rfl, Rv, hbl, hpb, hye⟩ σ
      simp only [List.getD_cons_zero, List.getD_cons_succ]
      refine get_spec Rv (by omega) H (fun x p w6 hx H => ?_) (fun e a w6 hx H => by rw [hpb] at hx; cases hx)
      have hxe : x.er = (if i = 2 then h.er else g.er) := by
        rw [hpb] at hx
        simp only [Rs.ok.injEq] at hx
        rw [← hx.1]
        exact hye
      have hx1 : ∀ u ∈ x.cs, u.oneCell' = true := own_one H
      replace H := H.perm (List.perm_append_comm_assoc (GraphH x) [Sl 25 3 av gs.length (fl GraphV.cs gs), cells b3 25 h.cs, cells b2 25 g.cs, Bs c (gb h), Bs b (gb g)] (gs.flatMap GraphH ++ L))
      (repeat with_reducible (first | refine Red.to ?_ | (refine is_rload ?_; (first | refine rv_load H rfl ?_ | refine rv_load H.up1 rfl ?_ | refine rv_load H.up2 rfl ?_ | refine rv_load H.up3 rfl ?_ | refine rv_load H.up4 rfl ?_))))
      refine rv_new (c' := x.cs) H (by rfl) (by rfl) hx1 ?_
      clear H
      intro b12 w7 H
      (repeat (first | (with_reducible (first | refine Red.to ?_ | (refine is_rload ?_; (first | refine rv_load H rfl ?_ | refine rv_load H.up1 rfl ?_ | refine rv_load H.up2 rfl ?_ | refine rv_load H.up3 rfl ?_ | refine rv_load H.up4 rfl ?_)) | (refine is_tload ?_; (first | refine tk_load (fun _ H => H) rfl ?_ | refine tk_load (fun _ H => H.up1) rfl ?_ | refine tk_load (fun _ H => H.up2) rfl ?_ | refine tk_load (fun _ H => H.up3) rfl ?_)))) | (refine Share.mk ?_) | (intro _) | (simp only [List.getD_cons_zero, List.getD_cons_succ, bne_self_eq_false])))
      refine rv_loada H (cs := x.cs) rfl rfl ?_
      refine rv_build1 H (by rfl) (by omega) ?_
      clear H
      intro g8 w8 H
      refine rv_append_cells (n := gs.length) (m := 1) (xs := fl GraphV.cs gs) (news := x.cs) H.up1.drop rfl hx1 (by unfold maxLen; omega) (by omega) ?_
      clear H
      intro av' w9 H _
      (repeat with_reducible (first | refine Red.to ?_ | (refine is_rload ?_; (first | refine rv_load H rfl ?_ | refine rv_load H.up1 rfl ?_ | refine rv_load H.up2 rfl ?_ | refine rv_load H.up3 rfl ?_ | refine rv_load H.up4 rfl ?_))))
      rw [i64_small (by omega) (by omega)]
      refine hkk _ _ ⟨i + 1, gs ++ [x], av', rfl, by omega, by simp [hgl], ?_, ?_⟩ (by simp; omega)
      · intro j z hz
        by_cases hj : j < gs.length
        · rw [List.getElem?_append_left hj] at hz
          exact hgs j z hz
        · rw [List.getElem?_append_right (by omega)] at hz
          have hj0 : j - gs.length = 0 := by
            have := (List.getElem?_eq_some_iff.1 hz).1
            simp at this
            omega
          rw [hj0, List.getElem?_cons_zero, Option.some.injEq] at hz
          subst hz
          have : j = i := by omega
          rw [this]
          exact hxe
      · rw [fl_snoc, List.length_append, List.flatMap_append]
        have e : [x].flatMap GraphH = GraphH x := by simp
        rw [e, List.append_assoc]
        exact H.perm (List.Perm.append_left [_, _, _, _, _] (List.perm_append_comm_assoc (GraphH x) (gs.flatMap GraphH) L))
    · have hi4 : i = 4 := by have := of_decide_eq_false hc; omega
      exact hJ _ _ ⟨gs, av, rfl, by omega, hgs, H⟩
  clear H
  rintro vs w ⟨gs, av, rfl, hgl, hgs, H⟩ σ
  simp only [List.getD_cons_zero]
  have CTX : ∀ {w : World} {A : List HProp}, St W w (A ++ (gs.flatMap GraphH ++ L)) → ∀ x ∈ gs, GRd w x := fun H x hx => gkn_mem hx _ (St.dropL H)
  refine share_of (fun vs w => vs = [] ∧ St W w (Sl 25 3 av gs.length (fl GraphV.cs gs) :: cells b3 25 h.cs :: cells b2 25 g.cs :: Bs c (gb h) :: Bs b (gb g) :: (gs.flatMap GraphH ++ L))) ?_ ?_
  rotate_left
  · intro J hJ
    refine rv_len_rd (St.rd H) ?_
    refine loop_of (fun vs w => ∃ (i : Nat), vs = [.int .i64 i] ∧ i ≤ gs.length ∧ St W w (Sl 25 3 av gs.length (fl GraphV.cs gs) :: cells b3 25 h.cs :: cells b2 25 g.cs :: Bs c (gb h) :: Bs b (gb g) :: (gs.flatMap GraphH ++ L)))
      (fun vs _ => match vs with | [.int _ i] => gs.length - i.toNat | _ => 0) ⟨0, rfl, by omega, H⟩ ?_
    clear H
    rintro vs w kk ⟨i, rfl, hi, H⟩ hkk σ
    simp only [List.getD_cons_zero, List.getD_cons_succ]
    (repeat with_reducible (first | refine Red.to ?_ | (refine is_rload ?_; (first | refine rv_load H rfl ?_ | refine rv_load H.up1 rfl ?_ | refine rv_load H.up2 rfl ?_ | refine rv_load H.up3 rfl ?_ | refine rv_load H.up4 rfl ?_))))
    refine cond_split (fun hc => ?_) (fun hc => ?_)
    · have hlt : i < gs.length := by have := of_decide_eq_true hc; omega
      obtain ⟨x, hx⟩ : ∃ x, gs[i]? = some x := ⟨_, List.getElem?_eq_getElem hlt⟩
      have hxm := List.mem_of_getElem? hx
      have hxe := hgs i x hx
      have hxo := (gE' hxe).1
      refine share_of (fun vs w => vs = [] ∧ St W w (Sl 25 3 av gs.length (fl GraphV.cs gs) :: cells b3 25 h.cs :: cells b2 25 g.cs :: Bs c (gb h) :: Bs b (gb g) :: (gs.flatMap GraphH ++ L))) ?_ ?_
      · clear H
        rintro vs w ⟨rfl, H⟩ σ
        (repeat with_reducible (first | refine Red.to ?_ | (refine is_rload ?_; (first | refine rv_load H rfl ?_ | refine rv_load H.up1 rfl ?_ | refine rv_load H.up2 rfl ?_ | refine rv_load H.up3 rfl ?_ | refine rv_load H.up4 rfl ?_))))
        rw [i64_small (by omega) (by omega)]
        exact hkk _ _ ⟨i + 1, rfl, by omega, H⟩ (by simp; omega)
      intro J2 hJ2
      have X0 := CTX (A := [_, _, _, _, _]) H x hxm
      have hx1 : ∀ u ∈ x.cs, u.oneCell' = true := by
        intro u hu
        simp only [GraphV.cs, List.mem_cons, List.not_mem_nil, or_false] at hu
        rcases hu with rfl | rfl | rfl
        · rfl
        · exact X0.1.one
        · exact X0.2.1.one
      clear X0
      obtain ⟨gg, off, cap, hv, hcell⟩ := Kn0.form (W := W) (L := Sl 25 3 av gs.length (fl GraphV.cs gs) :: cells b3 25 h.cs :: cells b2 25 g.cs :: Bs c (gb h) :: Bs b (gb g) :: (gs.flatMap GraphH ++ L)) (v := av) (n := gs.length) (cs := fl GraphV.cs gs) (fun w h => .inl (St.rd h)) H (by omega)
      refine rv_row (cs := x.cs) H hv hlt (fun j v hj => hcell w H _ v (fl_get (s := 3) (fun _ => rfl) _ i j x v hx hj)) (by rfl) (by rfl) hx1 ?_
      clear H
      intro b16 w6 H
      (repeat with_reducible (first | refine Red.to ?_ | (refine is_rload ?_; (first | refine rv_load H rfl ?_ | refine rv_load H.up1 rfl ?_ | refine rv_load H.up2 rfl ?_ | refine rv_load H.up3 rfl ?_ | refine rv_load H.up4 rfl ?_))))
      have KX : GKn W (cells b16 25 x.cs :: Sl 25 3 av gs.length (fl GraphV.cs gs) :: cells b3 25 h.cs :: cells b2 25 g.cs :: Bs c (gb h) :: Bs b (gb g) :: (gs.flatMap GraphH ++ L)) x := fun w h => CTX (A := [_, _, _, _, _, _]) h x hxm
      by_cases h2 : i = 2
      · subst h2
        rw [if_pos rfl] at hxe
        have e1 : ((((2 : Nat) : Int)) == 2) = true := rfl
        have e2 : ((((2 : Nat) : Int)) != 2) = false := rfl
        rw [e1]
        refine ⟨?_⟩
        refine guard_tt ?_
        refine rv_loada H (cs := x.cs) rfl rfl ?_
        refine rv_loada H.up2 (cs := h.cs) rfl rfl ?_
        refine same_spec (g := x) (h := h) hxe KX (GKn.old Rh) hxo H ?_
        clear H
        intro w7 H
        (repeat (first | (with_reducible (first | refine Red.to ?_ | (refine is_rload ?_; (first | refine rv_load H rfl ?_ | refine rv_load H.up1 rfl ?_ | refine rv_load H.up2 rfl ?_ | refine rv_load H.up3 rfl ?_ | refine rv_load H.up4 rfl ?_)) | (refine is_tload ?_; (first | refine tk_load (fun _ H => H) rfl ?_ | refine tk_load (fun _ H => H.up1) rfl ?_ | refine tk_load (fun _ H => H.up2) rfl ?_ | refine tk_load (fun _ H => H.up3) rfl ?_)))) | (refine Share.mk ?_) | (intro _) | (simp only [List.getD_cons_zero, List.getD_cons_succ, e2])))
        exact hJ2 _ _ ⟨rfl, H.drop⟩
      · rw [if_neg h2] at hxe
        have e1 : ((i : Int) == 2) = false := by simp; omega
        have e2 : ((i : Int) != 2) = true := by simp; omega
        rw [e1]
        (repeat (first | (with_reducible (first | refine Red.to ?_ | (refine is_rload ?_; (first | refine rv_load H rfl ?_ | refine rv_load H.up1 rfl ?_ | refine rv_load H.up2 rfl ?_ | refine rv_load H.up3 rfl ?_ | refine rv_load H.up4 rfl ?_)) | (refine is_tload ?_; (first | refine tk_load (fun _ H => H) rfl ?_ | refine tk_load (fun _ H => H.up1) rfl ?_ | refine tk_load (fun _ H => H.up2) rfl ?_ | refine tk_load (fun _ H => H.up3) rfl ?_)))) | (refine Share.mk ?_) | (intro _) | (simp only [List.getD_cons_zero, List.getD_cons_succ, e2])))
        refine rv_loada H (cs := x.cs) rfl rfl ?_
        refine rv_loada H.up3 (cs := g.cs) rfl rfl ?_
        refine same_spec (g := x) (h := g) hxe KX (GKn.old R) hxo H ?_
        clear H
        intro w7 H
        (repeat (first | (with_reducible (first | refine Red.to ?_ | (refine is_rload ?_; (first | refine rv_load H rfl ?_ | refine rv_load H.up1 rfl ?_ | refine rv_load H.up2 rfl ?_ | refine rv_load H.up3 rfl ?_ | refine rv_load H.up4 rfl ?_)) | (refine is_tload ?_; (first | refine tk_load (fun _ H => H) rfl ?_ | refine tk_load (fun _ H => H.up1) rfl ?_ | refine tk_load (fun _ H => H.up2) rfl ?_ | refine tk_load (fun _ H => H.up3) rfl ?_)))) | (refine Share.mk ?_) | (intro _) | (simp only [List.getD_cons_zero, List.getD_cons_succ])))
        exact hJ2 _ _ ⟨rfl, H.drop⟩
    · exact hJ _ _ ⟨rfl, H⟩
  clear H
  rintro vs w ⟨rfl, H⟩ σ
  refine rv (v := .agg #[.slice none 0 0, .slice none 0 0, .slice none 0 0, .slice none 0 0]) (w' := w) (by kernel_rfl) ?_
  refine rv_box (c := [.slice none 0 0, .slice none 0 0, .slice none 0 0, .slice none 0 0]) H rfl ?_
  clear H
  intro kb w6 H
  refine share_of (fun vs w => vs = [] ∧ ∃ vc vk vn vd, St W w (Book kb vc vk vn vd (itC gs) (itK gs) (itN gs) (itD gs) ++ (cells b3 25 h.cs :: cells b2 25 g.cs :: Bs c (gb h) :: Bs b (gb g) :: L))) ?_ ?_
  rotate_left
  · intro J hJ
    refine rv_len_rd (St.rd H.drop) ?_
    have H : St W w6 (Heads kb (.slice none 0 0) (.slice none 0 0) (.slice none 0 0) (.slice none 0 0) [] [] [] [] ++ (Sl 25 3 av gs.length (fl GraphV.cs gs) :: cells b3 25 h.cs :: cells b2 25 g.cs :: Bs c (gb h) :: Bs b (gb g) :: (gs.flatMap GraphH ++ L))) :=
      St.pm (P := [_, _, _, _, _]) [4, 3, 2, 1, 0] ((((H.sl_nil 53 1).sl_nil 57 1).sl_nil 22 1).sl_nil 23 1) rfl
    refine loop_of (fun vs w => ∃ (i : Nat) (vc vk vn vd : Value), vs = [.int .i64 i] ∧ i ≤ gs.length ∧ St W w (Heads kb vc vk vn vd ((allN (gs.take i)).map NodeV.cv) ((allN (gs.take i)).map NodeV.kv) ((gs.take i).map GraphV.nv) ((gs.take i).map GraphV.ev) ++ (Sl 25 3 av gs.length (fl GraphV.cs gs) :: cells b3 25 h.cs :: cells b2 25 g.cs :: Bs c (gb h) :: Bs b (gb g) :: (gs.flatMap GraphH ++ L))))
      (fun vs _ => match vs with | [.int _ i] => gs.length - i.toNat | _ => 0) ⟨0, _, _, _, _, rfl, by omega, by simpa [allN] using H⟩ ?_
    clear H
    rintro vs w kk ⟨i, vc, vk, vn, vd, rfl, hi, H⟩ hkk σ
    simp only [List.getD_cons_zero, List.getD_cons_succ]
    (repeat with_reducible (first | refine Red.to ?_ | (refine is_rload ?_; (first | refine rv_load H rfl ?_ | refine rv_load H.up1 rfl ?_ | refine rv_load H.up2 rfl ?_ | refine rv_load H.up3 rfl ?_ | refine rv_load H.up4 rfl ?_))))
    refine cond_split (fun hc => ?_) (fun hc => ?_)
    · have hlt : i < gs.length := by have := of_decide_eq_true hc; omega
      obtain ⟨x, hx⟩ : ∃ x, gs[i]? = some x := ⟨_, List.getElem?_eq_getElem hlt⟩
      have hxm := List.mem_of_getElem? hx
      have hxe := hgs i x hx
      have hxf := small_facts (gE' hxe).1 (gE' hxe).2
      have X0 := CTX (A := Heads kb vc vk vn vd ((allN (gs.take i)).map NodeV.cv) ((allN (gs.take i)).map NodeV.kv) ((gs.take i).map GraphV.nv) ((gs.take i).map GraphV.ev) ++ [_, _, _, _, _]) (by rw [List.append_assoc]; exact H) x hxm
      have hx1 : ∀ u ∈ x.cs, u.oneCell' = true := by
        intro u hu
        simp only [GraphV.cs, List.mem_cons, List.not_mem_nil, or_false] at hu
        rcases hu with rfl | rfl | rfl
        · rfl
        · exact X0.1.one
        · exact X0.2.1.one
      clear X0
      have hal : (allN (gs.take i)).length ≤ 24 * (gs.take i).length := allN_len _ (fun z hz => by
        obtain ⟨j, hj⟩ := List.getElem?_of_mem (List.mem_of_mem_take hz)
        exact gE' (hgs j z hj))
      have hti : (gs.take i).length = i := by simp; omega
      obtain ⟨gg, off, cap, hv, hcell⟩ := Kn0.form (W := W) (L := Heads kb vc vk vn vd ((allN (gs.take i)).map NodeV.cv) ((allN (gs.take i)).map NodeV.kv) ((gs.take i).map GraphV.nv) ((gs.take i).map GraphV.ev) ++ (Sl 25 3 av gs.length (fl GraphV.cs gs) :: cells b3 25 h.cs :: cells b2 25 g.cs :: Bs c (gb h) :: Bs b (gb g) :: (gs.flatMap GraphH ++ L))) (v := av) (n := gs.length) (cs := fl GraphV.cs gs) (fun w h => .inl (St.rd (St.dropL h))) H (by omega)
      refine rv_row (cs := x.cs) H hv hlt (fun j v hj => hcell w H _ v (fl_get (s := 3) (fun _ => rfl) _ i j x v hx hj)) (by rfl) (by rfl) hx1 ?_
      clear H hcell
      intro b19 w7 H
      refine rv_loada H (cs := x.cs) rfl rfl ?_
      refine add_spec (g := x) (M := cells b19 25 x.cs :: Sl 25 3 av gs.length (fl GraphV.cs gs) :: cells b3 25 h.cs :: cells b2 25 g.cs :: Bs c (gb h) :: Bs b (gb g) :: (gs.flatMap GraphH ++ L)) (by simp; omega) (by simp; omega) (by simp; omega) (by simp; omega) (by omega) (fun w h => CTX (A := [_, _, _, _, _, _]) h x hxm) (H.perm List.perm_middle.symm) ?_
      clear H
      intro vc' vk' vn' vd' w8 H
      replace H := (H.perm List.perm_middle).drop
      (repeat with_reducible (first | refine Red.to ?_ | (refine is_rload ?_; (first | refine rv_load H rfl ?_ | refine rv_load H.up1 rfl ?_ | refine rv_load H.up2 rfl ?_ | refine rv_load H.up3 rfl ?_ | refine rv_load H.up4 rfl ?_))))
      rw [i64_small (by omega) (by omega)]
      have ea : allN (gs.take (i + 1)) = allN (gs.take i) ++ x.nodes := flatMap_take hx
      have eb : gs.take (i + 1) = gs.take i ++ [x] := by rw [List.take_add_one, hx]; rfl
      refine hkk _ _ ⟨i + 1, vc', vk', vn', vd', rfl, by omega, ?_⟩ (by simp; omega)
      rw [ea, eb, List.map_append, List.map_append, List.map_append, List.map_append]
      exact H
    · have hi4 : i = gs.length := by have := of_decide_eq_false hc; omega
      subst hi4
      rw [List.take_length] at H
      refine hJ _ _ ⟨rfl, vc, vk, vn, vd, book_of ?_⟩
      have H := (H.perm List.perm_middle).drop
      have H := H.perm (List.Perm.append_left _ (List.perm_append_comm_assoc [cells b3 25 h.cs, cells b2 25 g.cs, Bs c (gb h), Bs b (gb g)] (gs.flatMap GraphH) L))
      have e1 : hd (itC gs) = (allN gs).map NodeV.cv := by simp [hd, itC]
      have e2 : hd (itK gs) = (allN gs).map NodeV.kv := by simp [hd, itK]
      have e3 : hd (itN gs) = gs.map GraphV.nv := by simp [hd, itN]
      have e4 : hd (itD gs) = gs.map GraphV.ev := by simp [hd, itD]
      rw [e1, e2, e3, e4]
      exact H
  have OK := ok4 (St.dropL (A := [_, _, _, _, _, _]) H) (by omega) (fun z hz => by
    obtain ⟨j, hj⟩ := List.getElem?_of_mem hz
    exact gE' (hgs j z hj))
  clear H
  rintro vs w ⟨rfl, vc, vk, vn, vd, H⟩ σ
  refine write_spec OK.1 OK.2 H (fun c' k' n' d' w7 o4 s4 H => ?_)
  refine stands_spec o4 s4 H (fun w8 H => ?_)
  refine Red.to ?_
  refine cond_false' ?_
  refine get_spec (v := b) (bs := gb g) (fun w H => St.rd ((St.dropL (A := Book kb vc vk vn vd c' k' n' d') H).drop.drop.drop)) (by omega) H (fun x p w9 hx H => ?_) (fun e a w9 hx H => by rw [pg] at hx; cases hx)
  have hxe : x.er = g.er := by
    rw [pg] at hx
    simp only [Rs.ok.injEq] at hx
    rw [← hx.1]
  have hxo : x.ok := er_ok.1 (hxe ▸ er_ok.2 hok)
  have hx1 : ∀ u ∈ x.cs, u.oneCell' = true := own_one H
  (repeat with_reducible (first | refine Red.to ?_ | (refine is_rload ?_; (first | refine rv_load H rfl ?_ | refine rv_load H.up1 rfl ?_ | refine rv_load H.up2 rfl ?_ | refine rv_load H.up3 rfl ?_ | refine rv_load H.up4 rfl ?_))))
  refine rv_new (c' := x.cs) H (by rfl) (by rfl) hx1 ?_
  clear H
  intro b20 w10 H
  (repeat (first | (with_reducible (first | refine Red.to ?_ | (refine is_rload ?_; (first | refine rv_load H rfl ?_ | refine rv_load H.up1 rfl ?_ | refine rv_load H.up2 rfl ?_ | refine rv_load H.up3 rfl ?_ | refine rv_load H.up4 rfl ?_)) | (refine is_tload ?_; (first | refine tk_load (fun _ H => H) rfl ?_ | refine tk_load (fun _ H => H.up1) rfl ?_ | refine tk_load (fun _ H => H.up2) rfl ?_ | refine tk_load (fun _ H => H.up3) rfl ?_)))) | (refine Share.mk ?_) | (intro _) | (simp only [List.getD_cons_zero, List.getD_cons_succ, beq_self_eq_true])))
  refine rv_loada H (cs := x.cs) rfl rfl ?_
  refine rv_loada (St.dropL (A := Book kb vc vk vn vd c' k' n' d') (St.dropL (A := GraphH x) H.drop)).drop (cs := g.cs) rfl rfl ?_
  refine same_spec (g := x) (h := g) hxe (fun w h => gkn_own w h.drop) (GKn.old R) hxo H ?_
  clear H
  intro w11 H
  (repeat (first | (with_reducible (first | refine Red.to ?_ | (refine is_rload ?_; (first | refine rv_load H rfl ?_ | refine rv_load H.up1 rfl ?_ | refine rv_load H.up2 rfl ?_ | refine rv_load H.up3 rfl ?_ | refine rv_load H.up4 rfl ?_)) | (refine is_tload ?_; (first | refine tk_load (fun _ H => H) rfl ?_ | refine tk_load (fun _ H => H.up1) rfl ?_ | refine tk_load (fun _ H => H.up2) rfl ?_ | refine tk_load (fun _ H => H.up3) rfl ?_)))) | (refine Share.mk ?_) | (intro _) | (simp only [List.getD_cons_zero, List.getD_cons_succ])))
  exact k _ (St.dropL (A := Book kb vc vk vn vd c' k' n' d') (St.dropL (A := GraphH x) H.drop)).drop.drop.drop.drop
end
end Go.Proofs.Ytdmocobabpmoeaa
