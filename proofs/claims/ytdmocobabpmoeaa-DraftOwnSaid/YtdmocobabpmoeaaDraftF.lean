
/-
  Package draft: Put.
-/
import Derived.Test.YtdmocobabpmoeaaDraftE
namespace Go.Proofs.Ytdmocobabpmoeaa
open Go.Vc Go.Sep Go.Ops
set_option linter.unusedVariables false
set_option linter.unusedSectionVars false
set_option linter.unusedSimpArgs false

section
variable {W w : World} {L : List HProp} {K : Value → World → Prop} {KU : World → Prop} {X : XPost}
theorem caught_bad {pe pa : Nat} {e at_ e0 a0 : Int} {KF : FrameMode → World → Prop} (H : St W w (cells pe 28 [.int .i64 e0] :: cells pa 3 [.int .i64 a0] :: L)) (k : ∀ w', St W w' (cells pe 28 [.int .i64 e] :: cells pa 3 [.int .i64 at_] :: L) → KF .returning w') :
    FDef Try.prog (Deferred.mk (Target.fn (Fn.func 20) #[]) #[.pointer (some ⟨pe, 0, none⟩), .pointer (some ⟨pa, 0, none⟩)]) (.panicking (wrongE e at_)) w KF := by
  refine draft_caught_def ?_ rfl
  unfold Sh.draft_caught
  simp only [wrongE, recM, settle]
  refine rv (v := .bool false) (w' := w) (by kernel_rfl) ?_
  refine cond_false' ?_
  refine rv (v := .tuple #[.agg #[.int .i64 e, .int .i64 at_], .bool true]) (w' := w) (by kernel_rfl) ?_
  (repeat with_reducible (first | refine Red.to ?_ | (refine is_rload ?_; (first | refine rv_load H rfl ?_ | refine rv_load H.up1 rfl ?_ | refine rv_load H.up2 rfl ?_ | refine rv_load H.up3 rfl ?_ | refine rv_load H.up4 rfl ?_))))
  refine rv_new (c' := [.int .i64 e, .int .i64 at_]) H (by rfl) (by rfl) (by intro u hu; simp at hu; rcases hu with rfl | rfl <;> rfl) ?_
  clear H
  intro b w1 H
  replace H := H.drew
  refine ⟨fun w => St W w [cells b 99 [.int .i64 e, .int .i64 at_]], St.head H, ?_⟩
  (repeat with_reducible (first | refine Red.to ?_ | (refine is_tload ?_; (first | refine tk_load (fun _ H => H) rfl ?_ | refine tk_load (fun _ H => H.up1) rfl ?_ | refine tk_load (fun _ H => H.up2) rfl ?_ | refine tk_load (fun _ H => H.up3) rfl ?_))))
  refine ru_store H.up1 (by simp) rfl ?_
  clear H
  intro w2 H
  first | refine keep_same (St.head H.up1) ?_ | refine ⟨St.head H.up1, ?_⟩
  (repeat with_reducible (first | refine Red.to ?_ | (refine is_tload ?_; (first | refine tk_load (fun _ H => H) rfl ?_ | refine tk_load (fun _ H => H.up1) rfl ?_ | refine tk_load (fun _ H => H.up2) rfl ?_ | refine tk_load (fun _ H => H.up3) rfl ?_))))
  refine ru_store H.up2 (by simp) rfl ?_
  clear H
  intro w3 H
  exact k _ H.up2.drop.up1
theorem caught_ok {pe pa : Value} {KF : FrameMode → World → Prop} (k : KF .returning w) : FDef Try.prog (Deferred.mk (Target.fn (Fn.func 20) #[]) #[pe, pa]) .returning w KF := by
  refine draft_caught_def ?_ rfl
  unfold Sh.draft_caught
  simp only [recM, settle]
  refine rv (v := .bool true) (w' := w) (by kernel_rfl) ?_
  exact cond_true' k

theorem nodeN_small {n : NodeV} (hg : n.good) : small (nodeN n) ∧ (nodeN n).length ≤ 85 := by
  obtain ⟨hk, hi, ho, hcl, hnl, hc, hn⟩ := hg.facts
  have hok := hg.1
  unfold NodeV.ok i64r at hok
  have h1 : ∀ y ∈ n.code.flatMap opN, y < 18446744073709551616 := by
    intro y hy
    obtain ⟨o, ho, hy⟩ := List.mem_flatMap.1 hy
    have := hok.2.2.2.1 o ho
    have := hc o ho
    unfold OpD.ok i64r at *
    simp only [opN, List.mem_cons, List.not_mem_nil, or_false] at hy
    rcases hy with rfl | rfl <;> omega
  have h2 : ∀ y ∈ n.conns.flatMap connN, y < 18446744073709551616 := by
    intro y hy
    obtain ⟨o, ho, hy⟩ := List.mem_flatMap.1 hy
    have := hok.2.2.2.2.2.2.2.2.1 o ho
    have := hn o ho
    unfold ConnD.ok i64r at *
    simp only [connN, List.mem_cons, List.not_mem_nil, or_false] at hy
    rcases hy with rfl | rfl | rfl | rfl | rfl <;> omega
  have l1 : (n.code.flatMap opN).length = n.code.length * 2 := by
    clear h1 hok hc hcl hg
    induction n.code with
    | nil => rfl
    | cons x r ih => simp only [List.flatMap_cons, List.length_append, ih, opN, List.length_cons, List.length_nil]; omega
  have l2 : (n.conns.flatMap connN).length = n.conns.length * 5 := by
    clear h2 hok hn hnl hg
    induction n.conns with
    | nil => rfl
    | cons x r ih => simp only [List.flatMap_cons, List.length_append, ih, connN, List.length_cons, List.length_nil]; omega
  have hb : boolN n.st < 18446744073709551616 := by unfold boolN; split <;> omega
  unfold nodeN
  split
  · refine ⟨?_, by simp only [List.length_cons]; omega⟩
    intro y hy
    simp only [List.mem_cons] at hy
    rcases hy with rfl | rfl | hy
    · omega
    · omega
    · exact h1 y hy
  · split
    · refine ⟨?_, by simp⟩
      intro y hy
      simp only [List.mem_cons, List.not_mem_nil, or_false] at hy
      rcases hy with rfl | rfl | rfl | rfl | rfl <;> omega
    · split
      · refine ⟨?_, by simp only [List.length_cons, List.length_append, List.length_nil]; omega⟩
        intro y hy
        simp only [List.mem_cons, List.mem_append, List.not_mem_nil, or_false] at hy
        rcases hy with rfl | rfl | rfl | hy | rfl | rfl
        · omega
        · exact hb
        · omega
        · exact h2 y hy
        · omega
        · omega
      · split
        · refine ⟨?_, by simp⟩
          intro y hy
          simp only [List.mem_cons, List.not_mem_nil, or_false] at hy
          rcases hy with rfl | rfl <;> omega
        · refine ⟨?_, by simp⟩
          intro y hy
          simp only [List.mem_cons, List.not_mem_nil, or_false] at hy
          rcases hy with rfl
          omega
theorem nodesE_take : ∀ {l : List NodeV} {i : Nat} {n : NodeV}, l[i]? = some n → nodesE (l.take i) = 0 → nodeE n ≠ 0 → nodesE l = nodeE n
  | [], _, _, h, _, _ => by simp at h
  | m :: r, 0, n, h, _, hn => by
    simp only [List.getElem?_cons_zero, Option.some.injEq] at h
    subst h
    simp only [nodesE, if_pos hn]
  | m :: r, i + 1, n, h, h0, hn => by
    simp only [List.getElem?_cons_succ] at h
    simp only [List.take_succ_cons, nodesE] at h0
    split at h0
    · rename_i hh; exact absurd h0 hh
    · rename_i hh
      simp only [nodesE, if_neg hh]
      exact nodesE_take h h0 hn
theorem nodesE_snoc : ∀ {l : List NodeV} {i : Nat} {n : NodeV}, l[i]? = some n → nodesE (l.take i) = 0 → nodeE n = 0 → nodesE (l.take (i + 1)) = 0
  | [], _, _, h, _, _ => by simp at h
  | m :: r, 0, n, h, _, hn => by
    simp only [List.getElem?_cons_zero, Option.some.injEq] at h
    subst h
    simp [nodesE, hn]
  | m :: r, i + 1, n, h, h0, hn => by
    simp only [List.getElem?_cons_succ] at h
    simp only [List.take_succ_cons, nodesE] at h0 ⊢
    split at h0
    · rename_i hh; exact absurd h0 hh
    · rename_i hh
      rw [if_neg hh]
      exact nodesE_snoc h h0 hn
theorem nodesE_mem : ∀ {l : List NodeV}, nodesE l = 0 → ∀ n ∈ l, nodeE n = 0
  | [], _, n, h => by simp at h
  | m :: r, h0, n, h => by
    simp only [nodesE] at h0
    split at h0
    · rename_i hh; exact absurd h0 hh
    · rename_i hh
      rcases List.mem_cons.1 h with rfl | h
      · exact Classical.not_not.1 hh
      · exact nodesE_mem h0 n h
theorem fb_nodes {l : List NodeV} (h : ∀ n ∈ l, n.good) (i : Nat) : (fb ((l.take i).flatMap nodeN)).length ≤ 850 * (l.take i).length := by
  have h : ∀ n ∈ l.take i, n.good := fun n hn => h n (List.mem_of_mem_take hn)
  generalize l.take i = l at h
  induction l with
  | nil => simp [fb]
  | cons x r ih =>
    have h1 := nodeN_small (h x (by simp))
    have h2 := fb_len h1.1
    have h3 := ih (fun n hn => h n (by simp [hn]))
    simp only [List.flatMap_cons, fb_append, List.length_append, List.length_cons]
    omega
theorem edge_len {e : EdgeD} (h : e.ok) (hb : edgeBad e = false) : 0 ≤ e.f ∧ 0 ≤ e.o ∧ 0 ≤ e.t ∧ 0 ≤ e.i ∧ small (edgeN e) := by
  unfold edgeBad at hb
  unfold EdgeD.ok i64r at h
  have hb := of_decide_eq_false hb
  refine ⟨by omega, by omega, by omega, by omega, ?_⟩
  have hbb : boolN e.kd < 18446744073709551616 := by unfold boolN; split <;> omega
  intro y hy
  simp only [edgeN, List.mem_cons, List.not_mem_nil, or_false] at hy
  rcases hy with rfl | rfl | rfl | rfl | rfl <;> omega
theorem fb_edges {l : List EdgeD} (h : ∀ e ∈ l, e.ok ∧ edgeBad e = false) (i : Nat) : (fb ((l.take i).flatMap edgeN)).length ≤ 50 * (l.take i).length := by
  have h : ∀ n ∈ l.take i, n.ok ∧ edgeBad n = false := fun n hn => h n (List.mem_of_mem_take hn)
  generalize l.take i = l at h
  induction l with
  | nil => simp [fb]
  | cons x r ih =>
    obtain ⟨h0, hb⟩ := h x (by simp)
    have h1 := fb_len (edge_len h0 hb).2.2.2.2
    have h3 := ih (fun n hn => h n (by simp [hn]))
    simp only [List.flatMap_cons, fb_append, List.length_append, List.length_cons, edgeN, List.length_nil] at h1 ⊢
    omega

/-- Put, where it gives up. -/
theorem put_fail {pe pa : Nat} {e e0 a0 : Int} {M : List HProp} (H : St W w (cells pe 28 [.int .i64 e0] :: cells pa 3 [.int .i64 a0] :: (M ++ L)))
    (k : ∀ w', St W w' L → K (.tuple #[.slice none 0 0, .int .i64 e]) w') : Sh.draft_Put_X3 Try.prog K X (.pointer (some ⟨pe, 0, none⟩)) (.pointer (some ⟨pa, 0, none⟩)) (wrongE e 0) w := by
  unfold Sh.draft_Put_X3 lv
  refine ⟨by simp, caught_bad H ?_⟩
  clear H
  intro w' H
  unfold lv rdRes rdRes
  refine ld_one H rfl ?_
  exact k _ (St.dropL H.drop.drop)

theorem put_spec {g : GraphV} (hok : g.ok) (R : GKn W L g) (H : St W w L) (k : graphE g = 0 → ∀ y w', St W w' (Bs y (fb (graphN g)) :: L) → K (.tuple #[y, .int .i64 0]) w')
    (ke : graphE g ≠ 0 → ∀ w', St W w' L → K (.tuple #[.slice none 0 0, .int .i64 (graphE g : Nat)]) w') : FCall Try.prog Fn.draft_Put #[.agg g.cs.toArray] w K X := by
  refine draft_Put_call ?_
  unfold Sh.draft_Put
  unfold GraphV.ok i64r at hok
  refine rv_box (c := g.cs) H rfl ?_
  clear H
  intro bx w1 H
  unfold GraphV.cs at H
  refine rv_allocz H ?_
  clear H
  intro pe w2 H
  refine rv_new1 H (by rfl) (by rfl) ?_
  clear H
  intro pa w3 H
  have bad : ∀ {e : Nat} {w : World} {M : List HProp}, graphE g = e → e ≠ 0 → St W w (cells pe 28 [.int .i64 0] :: cells pa 3 [.int .i64 0] :: (M ++ L)) → Sh.draft_Put_X3 Try.prog K X (.pointer (some ⟨pe, 0, none⟩)) (.pointer (some ⟨pa, 0, none⟩)) (wrongE (e : Nat) 0) w := by
    intro e w M he h0 H
    exact put_fail H (fun w' H => by have := ke (by rw [he]; exact h0) w' H; rw [he] at this; exact this)
  replace H : St W w3 (cells pe 28 [.int .i64 0] :: cells pa 3 [.int .i64 0] :: cells bx 25 [.int .i64 g.ar, g.nv, g.ev] :: L) := H.up1
  have Rt : GKn W (cells pe 28 [.int .i64 0] :: cells pa 3 [.int .i64 0] :: cells bx 25 [.int .i64 g.ar, g.nv, g.ev] :: L) g := R.tail.tail.tail
  (repeat with_reducible (first | refine Red.to ?_ | (refine is_rload ?_; (first | refine rv_load H rfl ?_ | refine rv_load H.up1 rfl ?_ | refine rv_load H.up2 rfl ?_ | refine rv_load H.up3 rfl ?_ | refine rv_load H.up4 rfl ?_))))
  refine rv_len_rd0 (Rt _ H).1 ?_
  (repeat with_reducible (first | refine Red.to ?_ | (refine is_rload ?_; (first | refine rv_load H rfl ?_ | refine rv_load H.up1 rfl ?_ | refine rv_load H.up2 rfl ?_ | refine rv_load H.up3 rfl ?_ | refine rv_load H.up4 rfl ?_))))
  refine share_of (fun vs w => ∃ v, vs = [v] ∧ w = w3 ∧ cond (decide ((g.nodes.length : Int) ≤ 24)) v (.bool false) = .bool (decide (g.nodes.length ≤ 24 ∧ g.edges.length ≤ 48))) ?_ ?_
  · rintro vs w ⟨v, rfl, rfl, hv⟩ σ
    simp only [List.getD_cons_zero]
    refine pick_to hv ?_
    refine must_spec (fun hl => ?_) (fun hl => ?_)
    rotate_left
    · exact bad (M := [_]) (by unfold graphE; rw [if_pos (of_decide_eq_false hl)]) (by decide) H
    have hl := of_decide_eq_true hl
    (repeat with_reducible (first | refine Red.to ?_ | (refine is_rload ?_; (first | refine rv_load H rfl ?_ | refine rv_load H.up1 rfl ?_ | refine rv_load H.up2 rfl ?_ | refine rv_load H.up3 rfl ?_ | refine rv_load H.up4 rfl ?_))))
    refine must_spec (fun ha => ?_) (fun ha => ?_)
    rotate_left
    · have ha := of_decide_eq_false ha
      exact bad (M := [_]) (by unfold graphE; rw [if_neg (by simpa using hl), if_pos (by omega)]) (by decide) H
    have ha := of_decide_eq_true ha
    have eE : graphE g = if nodesE g.nodes ≠ 0 then nodesE g.nodes else if g.edges.any edgeBad then 25 else 0 := by
      unfold graphE; rw [if_neg (by simpa using hl), if_neg (by omega)]
    -- the edges' check, behind the nodes'
    refine share_of (fun vs w => vs = [] ∧ nodesE g.nodes = 0 ∧ St W w (cells pe 28 [.int .i64 0] :: cells pa 3 [.int .i64 0] :: cells bx 25 [.int .i64 g.ar, g.nv, g.ev] :: L)) ?_ ?_
    · clear H
      rintro vs w ⟨rfl, hnodes, H⟩ σ
      rw [if_neg (by simp [hnodes])] at eE
      have hgood : ∀ n ∈ g.nodes, n.good := fun n hn => ⟨hok.2.1 n hn, nodesE_mem hnodes n hn⟩
      -- the laying, behind the edges' check
      refine share_of (fun vs w => vs = [] ∧ g.edges.any edgeBad = false ∧ St W w (cells pe 28 [.int .i64 0] :: cells pa 3 [.int .i64 0] :: cells bx 25 [.int .i64 g.ar, g.nv, g.ev] :: L)) ?_ ?_
      · clear H
        rintro vs w ⟨rfl, hedges, H⟩ σ
        rw [hedges, if_neg (by simp)] at eE
        have hed : ∀ e ∈ g.edges, e.ok ∧ edgeBad e = false := fun e he => ⟨hok.2.2.1 e he, by
          have := List.any_eq_false.1 hedges e he
          simpa using this⟩
        refine NewWriter_spec H ?_
        clear H
        intro x w4 H
        refine rv (v := .agg #[.pointer (some ⟨x, 0, none⟩)]) (w' := w4) (by kernel_rfl) ?_
        refine rv_new (c' := [.pointer (some ⟨x, 0, none⟩)]) H (by rfl) (by rfl) (by intro u hu; simp at hu; subst hu; rfl) ?_
        clear H
        intro y w5 H
        replace H : St W w5 (Wr x 0 [] :: cells y 74 [.pointer (some ⟨x, 0, none⟩)] :: cells pe 28 [.int .i64 0] :: cells pa 3 [.int .i64 0] :: cells bx 25 [.int .i64 g.ar, g.nv, g.ev] :: L) := H.up1
        have Rw : GKn W (cells y 74 [.pointer (some ⟨x, 0, none⟩)] :: cells pe 28 [.int .i64 0] :: cells pa 3 [.int .i64 0] :: cells bx 25 [.int .i64 g.ar, g.nv, g.ev] :: L) g := Rt.tail
        refine rv_loada H.up1 rfl rfl ?_
        (repeat with_reducible (first | refine Red.to ?_ | (refine is_rload ?_; (first | refine rv_load H rfl ?_ | refine rv_load H.up1 rfl ?_ | refine rv_load H.up2 rfl ?_ | refine rv_load H.up3 rfl ?_ | refine rv_load H.up4 rfl ?_))))
        refine rv_len_rd0 (Rw _ H.drop).1 ?_
        refine ints2 (n := g.ar.toNat) (m := g.nodes.length) (by omega) (by omega) rfl (by omega) (by simp) H ?_
        clear H
        intro w6 H
        have l0 : (fb [g.ar.toNat, g.nodes.length]).length ≤ 20 := fb_len (l := [g.ar.toNat, g.nodes.length]) (by intro y hy; simp at hy; omega)
        rw [List.nil_append] at H
        -- the edges, laid
        refine share_of (fun vs w => vs = [] ∧ St W w (Wr x 0 (fb [g.ar.toNat, g.nodes.length] ++ fb (g.nodes.flatMap nodeN)) :: cells y 74 [.pointer (some ⟨x, 0, none⟩)] :: cells pe 28 [.int .i64 0] :: cells pa 3 [.int .i64 0] :: cells bx 25 [.int .i64 g.ar, g.nv, g.ev] :: L)) ?_ ?_
        · clear H
          rintro vs w ⟨rfl, H⟩ σ
          have ln := fb_nodes hgood g.nodes.length
          rw [List.take_length] at ln
          refine rv_loada H.up1 rfl rfl ?_
          (repeat with_reducible (first | refine Red.to ?_ | (refine is_rload ?_; (first | refine rv_load H rfl ?_ | refine rv_load H.up1 rfl ?_ | refine rv_load H.up2 rfl ?_ | refine rv_load H.up3 rfl ?_ | refine rv_load H.up4 rfl ?_))))
          refine rv_len_rd0 (Rw _ H.drop).2.1 ?_
          refine ints1 (n := g.edges.length) rfl (by omega) (by simp only [List.length_append]; omega) H ?_
          clear H
          intro w7 H
          have l1 := fb1_len (n := g.edges.length) (by omega)
          refine share_of (fun vs w => vs = [] ∧ St W w (Wr x 0 (fb (graphN g)) :: cells y 74 [.pointer (some ⟨x, 0, none⟩)] :: cells pe 28 [.int .i64 0] :: cells pa 3 [.int .i64 0] :: cells bx 25 [.int .i64 g.ar, g.nv, g.ev] :: L)) ?_ ?_
          · clear H
            rintro vs w ⟨rfl, H⟩ σ
            have le := fb_edges hed g.edges.length
            rw [List.take_length] at le
            have lall : (fb (graphN g)).length ≤ 900000 := by
              have e : fb (graphN g) = fb [g.ar.toNat, g.nodes.length] ++ fb (g.nodes.flatMap nodeN) ++ fb [g.edges.length] ++ fb (g.edges.flatMap edgeN) := by
                simp [graphN, fb]
              rw [e]
              simp only [List.length_append]
              omega
            (repeat with_reducible (first | refine Red.to ?_ | (refine is_rload ?_; (first | refine rv_load H rfl ?_ | refine rv_load H.up1 rfl ?_ | refine rv_load H.up2 rfl ?_ | refine rv_load H.up3 rfl ?_ | refine rv_load H.up4 rfl ?_))))
            refine Data_spec H (by omega) ?_
            clear H
            intro yv w8 H
            replace H := (St.up3 H).up2
            refine ru_store H.up1 (by simp) rfl ?_
            clear H
            intro w9 H
            unfold lv
            refine ⟨by simp, caught_ok ?_⟩
            unfold lv rdRes rdRes
            refine ld_one H rfl ?_
            refine k eE _ _ ?_
            have H := H.drop.up1
            exact H.up1.drop.up1.drop.up1.drop.up1.drop
          intro J hJ
          (repeat with_reducible (first | refine Red.to ?_ | (refine is_rload ?_; (first | refine rv_load H rfl ?_ | refine rv_load H.up1 rfl ?_ | refine rv_load H.up2 rfl ?_ | refine rv_load H.up3 rfl ?_ | refine rv_load H.up4 rfl ?_))))
          refine rv_len_rd0 (Rw _ H.drop).2.1 ?_
          refine loop_of (fun vs w => ∃ i : Nat, vs = [.int .i64 i] ∧ i ≤ g.edges.length ∧ St W w (Wr x 0 (fb [g.ar.toNat, g.nodes.length] ++ fb (g.nodes.flatMap nodeN) ++ fb [g.edges.length] ++ fb ((g.edges.take i).flatMap edgeN)) :: cells y 74 [.pointer (some ⟨x, 0, none⟩)] :: cells pe 28 [.int .i64 0] :: cells pa 3 [.int .i64 0] :: cells bx 25 [.int .i64 g.ar, g.nv, g.ev] :: L)) (fun vs _ => match vs with | [.int _ i] => g.edges.length - i.toNat | _ => 0) ⟨0, rfl, by omega, by simpa [fb] using H⟩ ?_
          clear H
          rintro vs w kk ⟨i, rfl, hil, H⟩ hkk σ
          simp only [List.getD_cons_zero, List.getD_cons_succ]
          (repeat with_reducible (first | refine Red.to ?_ | (refine is_rload ?_; (first | refine rv_load H rfl ?_ | refine rv_load H.up1 rfl ?_ | refine rv_load H.up2 rfl ?_ | refine rv_load H.up3 rfl ?_ | refine rv_load H.up4 rfl ?_))))
          refine cond_split (fun h => ?_) (fun h => ?_)
          · have h : i < g.edges.length := by have := of_decide_eq_true h; omega
            obtain ⟨e, he⟩ : ∃ o, g.edges[i]? = some o := ⟨_, List.getElem?_eq_getElem h⟩
            obtain ⟨hee, heb⟩ := hed e (List.mem_of_getElem? he)
            obtain ⟨h1, h2, h3, h4, _⟩ := edge_len hee heb
            unfold EdgeD.ok i64r at hee
            have le := fb_edges hed i
            have le2 : (g.edges.take i).length ≤ 48 := by simp; omega
            obtain ⟨gg, off, cap, hv, hcell⟩ := Kn0.form (fun w h => (Rw w h).2.1) H.drop (by omega)
            refine rv_row (cs := e.cs) H hv h (fun j v hj => hcell w H.drop _ v (fl_get EdgeD.len _ i j e v he hj)) (by rfl) (by rfl) e.one ?_
            clear H
            intro b3 w8 H
            unfold EdgeD.cs at H
            refine rv_loada H.up2 rfl rfl ?_
            (repeat with_reducible (first | refine Red.to ?_ | (refine is_rload ?_; (first | refine rv_load H rfl ?_ | refine rv_load H.up1 rfl ?_ | refine rv_load H.up2 rfl ?_ | refine rv_load H.up3 rfl ?_ | refine rv_load H.up4 rfl ?_))))
            refine ints4 (n := e.f.toNat) (m := e.o.toNat) (p := e.t.toNat) (q := e.i.toNat) (by omega) (by omega) (by omega) (by omega) (by omega) (by omega) (by omega) (by omega) (by simp only [List.length_append]; omega) H.up1 ?_
            clear H
            intro w9 H
            have l4 : (fb [e.f.toNat, e.o.toNat, e.t.toNat, e.i.toNat]).length ≤ 40 := fb_len (l := [e.f.toNat, e.o.toNat, e.t.toNat, e.i.toNat]) (by intro y hy; simp at hy; omega)
            refine rv_loada H.up2 rfl rfl ?_
            (repeat with_reducible (first | refine Red.to ?_ | (refine is_rload ?_; (first | refine rv_load H rfl ?_ | refine rv_load H.up1 rfl ?_ | refine rv_load H.up2 rfl ?_ | refine rv_load H.up3 rfl ?_ | refine rv_load H.up4 rfl ?_))))
            refine truth_spec (by simp only [List.length_append]; omega) H ?_
            clear H
            intro w10 H
            (repeat with_reducible (first | refine Red.to ?_ | (refine is_rload ?_; (first | refine rv_load H rfl ?_ | refine rv_load H.up1 rfl ?_ | refine rv_load H.up2 rfl ?_ | refine rv_load H.up3 rfl ?_ | refine rv_load H.up4 rfl ?_))))
            rw [i64_small (by omega) (by omega)]
            refine hkk _ _ ⟨i + 1, rfl, by omega, ?_⟩ (by simp; omega)
            have ee : fb ((g.edges.take (i + 1)).flatMap edgeN) = fb ((g.edges.take i).flatMap edgeN) ++ fb [e.f.toNat, e.o.toNat, e.t.toNat, e.i.toNat] ++ fb [boolN e.kd] := by
              rw [flatMap_take he, fb_append]
              simp [fb, edgeN]
            rw [ee, ← List.append_assoc, ← List.append_assoc]
            exact H.up1.drop
          · have h : i = g.edges.length := by have := of_decide_eq_false h; omega
            subst h
            rw [List.take_length] at H
            refine hJ _ _ ⟨rfl, ?_⟩
            have e : fb (graphN g) = fb [g.ar.toNat, g.nodes.length] ++ fb (g.nodes.flatMap nodeN) ++ fb [g.edges.length] ++ fb (g.edges.flatMap edgeN) := by
              simp [graphN, fb]
            rw [e]
            exact H
        intro J hJ
        (repeat with_reducible (first | refine Red.to ?_ | (refine is_rload ?_; (first | refine rv_load H rfl ?_ | refine rv_load H.up1 rfl ?_ | refine rv_load H.up2 rfl ?_ | refine rv_load H.up3 rfl ?_ | refine rv_load H.up4 rfl ?_))))
        refine rv_len_rd0 (Rw _ H.drop).1 ?_
        refine loop_of (fun vs w => ∃ i : Nat, vs = [.int .i64 i] ∧ i ≤ g.nodes.length ∧ St W w (Wr x 0 (fb [g.ar.toNat, g.nodes.length] ++ fb ((g.nodes.take i).flatMap nodeN)) :: cells y 74 [.pointer (some ⟨x, 0, none⟩)] :: cells pe 28 [.int .i64 0] :: cells pa 3 [.int .i64 0] :: cells bx 25 [.int .i64 g.ar, g.nv, g.ev] :: L)) (fun vs _ => match vs with | [.int _ i] => g.nodes.length - i.toNat | _ => 0) ⟨0, rfl, by omega, by simpa [fb] using H⟩ ?_
        clear H
        rintro vs w kk ⟨i, rfl, hil, H⟩ hkk σ
        simp only [List.getD_cons_zero, List.getD_cons_succ]
        (repeat with_reducible (first | refine Red.to ?_ | (refine is_rload ?_; (first | refine rv_load H rfl ?_ | refine rv_load H.up1 rfl ?_ | refine rv_load H.up2 rfl ?_ | refine rv_load H.up3 rfl ?_ | refine rv_load H.up4 rfl ?_))))
        refine cond_split (fun h => ?_) (fun h => ?_)
        · have h : i < g.nodes.length := by have := of_decide_eq_true h; omega
          obtain ⟨n, hn⟩ : ∃ o, g.nodes[i]? = some o := ⟨_, List.getElem?_eq_getElem h⟩
          have ln := fb_nodes hgood i
          have ln2 : (g.nodes.take i).length ≤ 24 := by simp; omega
          obtain ⟨gg, off, cap, hv, hcell⟩ := Kn0.form (fun w h => (Rw w h).1) H.drop (by omega)
          refine rv_row (cs := n.cs) H hv h (fun j v hj => hcell w H.drop _ v (fl_get NodeV.len _ i j n v hn hj)) (by rfl) (by rfl) (NodeV.one ((Rw _ H.drop).2.2 n (List.mem_of_getElem? hn))) ?_
          clear H
          intro b3 w8 H
          refine rv_loada H.up2 rfl rfl ?_
          refine rv_loada H (cs := n.cs) (by rfl) (by rfl) ?_
          refine node_spec (hgood n (List.mem_of_getElem? hn)) (by simp only [List.length_append]; omega) ((Rw.node (List.mem_of_getElem? hn)).tail) H.up1 ?_
          clear H
          intro w9 H
          (repeat with_reducible (first | refine Red.to ?_ | (refine is_rload ?_; (first | refine rv_load H rfl ?_ | refine rv_load H.up1 rfl ?_ | refine rv_load H.up2 rfl ?_ | refine rv_load H.up3 rfl ?_ | refine rv_load H.up4 rfl ?_))))
          rw [i64_small (by omega) (by omega)]
          refine hkk _ _ ⟨i + 1, rfl, by omega, ?_⟩ (by simp; omega)
          rw [flatMap_take hn, fb_append, ← List.append_assoc]
          exact H.up1.drop
        · have h : i = g.nodes.length := by have := of_decide_eq_false h; omega
          subst h
          rw [List.take_length] at H
          exact hJ _ _ ⟨rfl, H⟩
      intro J hJ
      (repeat with_reducible (first | refine Red.to ?_ | (refine is_rload ?_; (first | refine rv_load H rfl ?_ | refine rv_load H.up1 rfl ?_ | refine rv_load H.up2 rfl ?_ | refine rv_load H.up3 rfl ?_ | refine rv_load H.up4 rfl ?_))))
      refine rv_len_rd0 (Rt _ H).2.1 ?_
      refine loop_of (fun vs w => ∃ i : Nat, vs = [.int .i64 i] ∧ i ≤ g.edges.length ∧ (g.edges.take i).any edgeBad = false ∧ St W w (cells pe 28 [.int .i64 0] :: cells pa 3 [.int .i64 0] :: cells bx 25 [.int .i64 g.ar, g.nv, g.ev] :: L)) (fun vs _ => match vs with | [.int _ i] => g.edges.length - i.toNat | _ => 0) ⟨0, rfl, by omega, rfl, H⟩ ?_
      clear H
      rintro vs w kk ⟨i, rfl, hil, hany, H⟩ hkk σ
      simp only [List.getD_cons_zero, List.getD_cons_succ]
      (repeat with_reducible (first | refine Red.to ?_ | (refine is_rload ?_; (first | refine rv_load H rfl ?_ | refine rv_load H.up1 rfl ?_ | refine rv_load H.up2 rfl ?_ | refine rv_load H.up3 rfl ?_ | refine rv_load H.up4 rfl ?_))))
      refine cond_split (fun h => ?_) (fun h => ?_)
      · have h : i < g.edges.length := by have := of_decide_eq_true h; omega
        obtain ⟨e, he⟩ : ∃ o, g.edges[i]? = some o := ⟨_, List.getElem?_eq_getElem h⟩
        obtain ⟨gg, off, cap, hv, hcell⟩ := Kn0.form (fun w h => (Rt w h).2.1) H (by omega)
        refine rv_row (cs := e.cs) H hv h (fun j v hj => hcell w H _ v (fl_get EdgeD.len _ i j e v he hj)) (by rfl) (by rfl) e.one ?_
        clear H
        intro b3 w8 H
        unfold EdgeD.cs at H
        (repeat with_reducible (first | refine Red.to ?_ | (refine is_rload ?_; (first | refine rv_load H rfl ?_ | refine rv_load H.up1 rfl ?_ | refine rv_load H.up2 rfl ?_ | refine rv_load H.up3 rfl ?_ | refine rv_load H.up4 rfl ?_))))
        refine share_of (fun vs w => ∃ v, vs = [v] ∧ w = w8 ∧ cond (decide (0 ≤ e.f)) v (.bool false) = .bool (decide (0 ≤ e.f ∧ 0 ≤ e.o))) ?_ ?_
        · rintro vs w ⟨v, rfl, rfl, hv⟩ σ
          simp only [List.getD_cons_zero]
          refine pick_to hv ?_
          refine share_of (fun vs w' => ∃ v, vs = [v] ∧ w' = w ∧ cond (decide (0 ≤ e.f ∧ 0 ≤ e.o)) v (.bool false) = .bool (decide (0 ≤ e.f ∧ 0 ≤ e.o ∧ 0 ≤ e.t))) ?_ ?_
          · rintro vs w' ⟨v, rfl, rfl, hv⟩ σ
            simp only [List.getD_cons_zero]
            refine pick_to hv ?_
            refine share_of (fun vs w => ∃ v, vs = [v] ∧ w = w' ∧ cond (decide (0 ≤ e.f ∧ 0 ≤ e.o ∧ 0 ≤ e.t)) v (.bool false) = .bool (!edgeBad e)) ?_ ?_
            · rintro vs w ⟨v, rfl, rfl, hv⟩ σ
              simp only [List.getD_cons_zero]
              refine pick_to hv ?_
              refine must_spec (fun hb => ?_) (fun hb => ?_)
              · have hb : edgeBad e = false := by simpa using hb
                (repeat with_reducible (first | refine Red.to ?_ | (refine is_rload ?_; (first | refine rv_load H rfl ?_ | refine rv_load H.up1 rfl ?_ | refine rv_load H.up2 rfl ?_ | refine rv_load H.up3 rfl ?_ | refine rv_load H.up4 rfl ?_))))
                rw [i64_small (by omega) (by omega)]
                exact hkk _ _ ⟨i + 1, rfl, by omega, by rw [any_take he, hany, hb]; rfl, H.drop⟩ (by simp; omega)
              · have hb : edgeBad e = true := by rw [Bool.not_eq_false'] at hb; exact hb
                refine bad (M := [_]) ?_ (by decide) H.drop
                rw [eE, any_at he hb, if_pos rfl]
            · intro J hJ
              refine guard_split (fun h => ?_) (fun h => ?_)
              · (repeat with_reducible (first | refine Red.to ?_ | (refine is_rload ?_; (first | refine rv_load H rfl ?_ | refine rv_load H.up1 rfl ?_ | refine rv_load H.up2 rfl ?_ | refine rv_load H.up3 rfl ?_ | refine rv_load H.up4 rfl ?_))))
                refine hJ _ _ ⟨_, rfl, rfl, ?_⟩
                rw [h]
                have h := of_decide_eq_true h
                simp only [cond_true, Value.bool.injEq, edgeBad]
                rw [Bool.eq_iff_iff]
                simp
                omega
              · refine hJ _ _ ⟨_, rfl, rfl, ?_⟩
                have h' : decide (0 ≤ e.f ∧ 0 ≤ e.o ∧ 0 ≤ e.t) = false := h
                rw [h']
                have h := of_decide_eq_false h'
                simp only [cond_false, Value.bool.injEq, edgeBad]
                rw [Bool.eq_iff_iff]
                simp
                omega
          · intro J hJ
            refine guard_split (fun h => ?_) (fun h => ?_)
            · (repeat with_reducible (first | refine Red.to ?_ | (refine is_rload ?_; (first | refine rv_load H rfl ?_ | refine rv_load H.up1 rfl ?_ | refine rv_load H.up2 rfl ?_ | refine rv_load H.up3 rfl ?_ | refine rv_load H.up4 rfl ?_))))
              refine hJ _ _ ⟨_, rfl, rfl, ?_⟩
              rw [h]
              have h := of_decide_eq_true h
              simp only [cond_true, Value.bool.injEq]
              rw [Bool.eq_iff_iff]
              simp
              omega
            · refine hJ _ _ ⟨_, rfl, rfl, ?_⟩
              have h' : decide (0 ≤ e.f ∧ 0 ≤ e.o) = false := h
              rw [h']
              have h := of_decide_eq_false h'
              simp only [cond_false, Value.bool.injEq]
              rw [Bool.eq_iff_iff]
              simp
              omega
        · intro J hJ
          refine guard_split (fun h => ?_) (fun h => ?_)
          · (repeat with_reducible (first | refine Red.to ?_ | (refine is_rload ?_; (first | refine rv_load H rfl ?_ | refine rv_load H.up1 rfl ?_ | refine rv_load H.up2 rfl ?_ | refine rv_load H.up3 rfl ?_ | refine rv_load H.up4 rfl ?_))))
            refine hJ _ _ ⟨_, rfl, rfl, ?_⟩
            rw [h]
            have h := of_decide_eq_true h
            simp only [cond_true, Value.bool.injEq]
            rw [Bool.eq_iff_iff]
            simp
            omega
          · refine hJ _ _ ⟨_, rfl, rfl, ?_⟩
            have h' : decide (0 ≤ e.f) = false := h
            rw [h']
            have h := of_decide_eq_false h'
            simp only [cond_false, Value.bool.injEq]
            rw [Bool.eq_iff_iff]
            simp
            omega
      · have h : i = g.edges.length := by have := of_decide_eq_false h; omega
        subst h
        rw [List.take_length] at hany
        exact hJ _ _ ⟨rfl, hany, H⟩
    intro J hJ
    (repeat with_reducible (first | refine Red.to ?_ | (refine is_rload ?_; (first | refine rv_load H rfl ?_ | refine rv_load H.up1 rfl ?_ | refine rv_load H.up2 rfl ?_ | refine rv_load H.up3 rfl ?_ | refine rv_load H.up4 rfl ?_))))
    refine rv_len_rd0 (Rt _ H).1 ?_
    refine loop_of (fun vs w => ∃ i : Nat, vs = [.int .i64 i] ∧ i ≤ g.nodes.length ∧ nodesE (g.nodes.take i) = 0 ∧ St W w (cells pe 28 [.int .i64 0] :: cells pa 3 [.int .i64 0] :: cells bx 25 [.int .i64 g.ar, g.nv, g.ev] :: L)) (fun vs _ => match vs with | [.int _ i] => g.nodes.length - i.toNat | _ => 0) ⟨0, rfl, by omega, rfl, H⟩ ?_
    clear H
    rintro vs w kk ⟨i, rfl, hil, hany, H⟩ hkk σ
    simp only [List.getD_cons_zero, List.getD_cons_succ]
    (repeat with_reducible (first | refine Red.to ?_ | (refine is_rload ?_; (first | refine rv_load H rfl ?_ | refine rv_load H.up1 rfl ?_ | refine rv_load H.up2 rfl ?_ | refine rv_load H.up3 rfl ?_ | refine rv_load H.up4 rfl ?_))))
    refine cond_split (fun h => ?_) (fun h => ?_)
    · have h : i < g.nodes.length := by have := of_decide_eq_true h; omega
      obtain ⟨n, hn⟩ : ∃ o, g.nodes[i]? = some o := ⟨_, List.getElem?_eq_getElem h⟩
      obtain ⟨gg, off, cap, hv, hcell⟩ := Kn0.form (fun w h => (Rt w h).1) H (by omega)
      refine rv_row (cs := n.cs) H hv h (fun j v hj => hcell w H _ v (fl_get NodeV.len _ i j n v hn hj)) (by rfl) (by rfl) (NodeV.one ((Rt _ H).2.2 n (List.mem_of_getElem? hn))) ?_
      clear H
      intro b3 w8 H
      refine rv_loada H (cs := n.cs) (by rfl) (by rfl) ?_
      refine check_spec H ((Rt.node (List.mem_of_getElem? hn)).tail) (hok.2.1 n (List.mem_of_getElem? hn)) (fun hE => ?_) (fun hE => ?_)
      · clear H
        intro w9 H
        (repeat with_reducible (first | refine Red.to ?_ | (refine is_rload ?_; (first | refine rv_load H rfl ?_ | refine rv_load H.up1 rfl ?_ | refine rv_load H.up2 rfl ?_ | refine rv_load H.up3 rfl ?_ | refine rv_load H.up4 rfl ?_))))
        rw [i64_small (by omega) (by omega)]
        exact hkk _ _ ⟨i + 1, rfl, by omega, nodesE_snoc hn hany hE, H.drop⟩ (by simp; omega)
      · clear H
        intro w9 H
        have e := nodesE_take hn hany hE
        refine bad (M := [_]) ?_ hE H.drop
        rw [eE, e, if_pos hE]
    · have h : i = g.nodes.length := by have := of_decide_eq_false h; omega
      subst h
      rw [List.take_length] at hany
      exact hJ _ _ ⟨rfl, hany, H⟩
  · intro J hJ
    refine guard_split (fun h => ?_) (fun h => ?_)
    · (repeat with_reducible (first | refine Red.to ?_ | (refine is_rload ?_; (first | refine rv_load H rfl ?_ | refine rv_load H.up1 rfl ?_ | refine rv_load H.up2 rfl ?_ | refine rv_load H.up3 rfl ?_ | refine rv_load H.up4 rfl ?_))))
      refine rv_len_rd0 (Rt _ H).2.1 ?_
      (repeat with_reducible (first | refine Red.to ?_ | (refine is_rload ?_; (first | refine rv_load H rfl ?_ | refine rv_load H.up1 rfl ?_ | refine rv_load H.up2 rfl ?_ | refine rv_load H.up3 rfl ?_ | refine rv_load H.up4 rfl ?_))))
      refine hJ _ _ ⟨_, rfl, rfl, ?_⟩
      rw [h]
      have h := of_decide_eq_true h
      simp only [cond_true, Value.bool.injEq]
      rw [Bool.eq_iff_iff]
      simp
      omega
    · refine hJ _ _ ⟨_, rfl, rfl, ?_⟩
      have h' : decide ((g.nodes.length : Int) ≤ 24) = false := h
      rw [h']
      have h := of_decide_eq_false h'
      simp only [cond_false, Value.bool.injEq]
      rw [Bool.eq_iff_iff]
      simp
      omega
end
end Go.Proofs.Ytdmocobabpmoeaa
