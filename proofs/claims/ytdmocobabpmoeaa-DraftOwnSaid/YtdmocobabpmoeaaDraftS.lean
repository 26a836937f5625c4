
/-
  The document's own answer for package draft: a graph's bytes.
-/
import Derived.Test.YtdmocobabpmoeaaDraftR
namespace Go.Proofs.Ytdmocobabpmoeaa
open Go.Vc Go.Sep Go.Ops
set_option linter.unusedVariables false
set_option linter.unusedSectionVars false
set_option linter.unusedSimpArgs false

section
variable {W w : World} {L : List HProp} {K : Value → World → Prop} {KU : World → Prop} {X : XPost}
theorem take_good {l : List NodeV} (hok : ∀ n ∈ l, n.ok) {i : Nat} (h : nodesE (l.take i) = 0) : (fb ((l.take i).flatMap nodeN)).length ≤ 850 * (l.take i).length := by
  have := fb_nodes (l := l.take i) (fun n hn => ⟨hok n (List.mem_of_mem_take hn), nodesE_mem h n hn⟩) i
  rwa [List.take_take, Nat.min_self] at this
theorem take_edges {l : List EdgeD} (hok : ∀ n ∈ l, n.ok) {i : Nat} (h : (l.take i).any edgeBad = false) : (fb ((l.take i).flatMap edgeN)).length ≤ 50 * (l.take i).length := by
  have := fb_edges (l := l.take i) (fun n hn => ⟨hok n (List.mem_of_mem_take hn), by
    have := List.any_eq_false.1 h n hn
    simpa using this⟩) i
  rwa [List.take_take, Nat.min_self] at this
def edgeI (e : EdgeD) : List Int := [e.f, e.o, e.t, e.i]
theorem edgeI_bad {e : EdgeD} {j : Nat} {x : Int} (h : (edgeI e)[j]? = some x) (hx : x < 0) : edgeBad e = true := by
  have := List.mem_of_getElem? h
  simp only [edgeI, List.mem_cons, List.not_mem_nil, or_false] at this
  simp only [edgeBad, decide_eq_true_eq]
  omega
theorem edgeI_good {e : EdgeD} (h : ∀ x ∈ edgeI e, 0 ≤ x) : edgeBad e = false := by
  simp only [edgeI, List.mem_cons, List.not_mem_nil, or_false, forall_eq_or_imp, forall_eq] at h
  simp only [edgeBad, decide_eq_false_iff_not]
  omega
theorem rput_spec {g : GraphV} (hok : g.ok) (R : GKn W L g) (H : St W w L) (k : graphE g = 0 → ∀ y w', St W w' (Bs y (fb (graphN g)) :: L) → K (.tuple #[y, .int .i64 0]) w')
    (kx : graphE g ≠ 0 → ∀ w', St W w' L → K (.tuple #[.slice none 0 0, .int .i64 (graphE g)]) w') : FCall Try.prog Fn.sluiceref08_Put #[.agg g.cs.toArray] w K X := by
  refine sluiceref08_Put_call ?_
  unfold Sh.sluiceref08_Put
  refine rv_box (c := g.cs) H rfl ?_
  clear H
  intro bx w1 H
  unfold GraphV.cs at H
  have Rt := (R.tail (A := cells bx 25 [.int .i64 g.ar, g.nv, g.ev]))
  have hok' := hok
  unfold GraphV.ok i64r at hok'
  have bad : ∀ {e : Nat} {w : World}, graphE g = e → e ≠ 0 → St W w (cells bx 25 [.int .i64 g.ar, g.nv, g.ev] :: L) → K (.tuple #[.slice none 0 0, .int .i64 (e : Nat)]) w := by
    intro e w he h0 H
    have := kx (by rw [he]; exact h0) w H.drop
    rw [he] at this
    exact this
  refine share_of (fun vs w => vs = [.bool (decide (¬ (g.nodes.length ≤ 24 ∧ g.edges.length ≤ 48)))] ∧ w = w1) ?_ ?_
  rotate_left
  · intro J hJ
    have hJ : ∀ c : Bool, decide (¬ (g.nodes.length ≤ 24 ∧ g.edges.length ≤ 48)) = c → J [.bool c] w1 := fun c h => hJ _ _ ⟨by rw [h], rfl⟩
    (repeat with_reducible (first | refine Red.to ?_ | (refine is_rload ?_; (first | refine rv_load H rfl ?_ | refine rv_load H.up1 rfl ?_ | refine rv_load H.up2 rfl ?_ | refine rv_load H.up3 rfl ?_ | refine rv_load H.up4 rfl ?_))))
    refine rv_len_rd0 (Rt _ H).1 ?_
    (repeat with_reducible (first | refine Red.to ?_ | (refine is_rload ?_; (first | refine rv_load H rfl ?_ | refine rv_load H.up1 rfl ?_ | refine rv_load H.up2 rfl ?_ | refine rv_load H.up3 rfl ?_ | refine rv_load H.up4 rfl ?_))))
    cases h1 : decide ((24 : Int) < (g.nodes.length : Int)) with
    | true =>
      have e1 := of_decide_eq_true h1
      have hJ := hJ true (decide_eq_true (by omega))
      (repeat (first | (with_reducible (first | refine Red.to ?_ | (refine is_rload ?_; (first | refine rv_load H rfl ?_ | refine rv_load H.up1 rfl ?_ | refine rv_load H.up2 rfl ?_ | refine rv_load H.up3 rfl ?_ | refine rv_load H.up4 rfl ?_)) | (refine is_tload ?_; (first | refine tk_load (fun _ H => H) rfl ?_ | refine tk_load (fun _ H => H.up1) rfl ?_ | refine tk_load (fun _ H => H.up2) rfl ?_ | refine tk_load (fun _ H => H.up3) rfl ?_)))) | (refine Share.mk ?_) | (intro _) | (simp only [List.getD_cons_zero, List.getD_cons_succ])))
      exact hJ
    | false =>
      have e1 := of_decide_eq_false h1
      have hJ := hJ (decide ((48 : Int) < (g.edges.length : Int))) (by rw [Bool.eq_iff_iff]; simp; omega)
      (repeat (first | (with_reducible (first | refine Red.to ?_ | (refine is_rload ?_; (first | refine rv_load H rfl ?_ | refine rv_load H.up1 rfl ?_ | refine rv_load H.up2 rfl ?_ | refine rv_load H.up3 rfl ?_ | refine rv_load H.up4 rfl ?_)) | (refine is_tload ?_; (first | refine tk_load (fun _ H => H) rfl ?_ | refine tk_load (fun _ H => H.up1) rfl ?_ | refine tk_load (fun _ H => H.up2) rfl ?_ | refine tk_load (fun _ H => H.up3) rfl ?_)))) | (refine Share.mk ?_) | (intro _) | (simp only [List.getD_cons_zero, List.getD_cons_succ])))
      refine rv_len_rd0 (Rt _ H).2.1 ?_
      (repeat (first | (with_reducible (first | refine Red.to ?_ | (refine is_rload ?_; (first | refine rv_load H rfl ?_ | refine rv_load H.up1 rfl ?_ | refine rv_load H.up2 rfl ?_ | refine rv_load H.up3 rfl ?_ | refine rv_load H.up4 rfl ?_)) | (refine is_tload ?_; (first | refine tk_load (fun _ H => H) rfl ?_ | refine tk_load (fun _ H => H.up1) rfl ?_ | refine tk_load (fun _ H => H.up2) rfl ?_ | refine tk_load (fun _ H => H.up3) rfl ?_)))) | (refine Share.mk ?_) | (intro _) | (simp only [List.getD_cons_zero, List.getD_cons_succ])))
      exact hJ
  rintro vs w ⟨rfl, rfl⟩ σ
  simp only [List.getD_cons_zero]
  refine cond_split (fun h => ?_) (fun h => ?_)
  · refine bad (e := 2) ?_ (by decide) H
    unfold graphE
    rw [if_pos (of_decide_eq_true h)]
  have hl := of_decide_eq_false h
  have hl' : g.nodes.length ≤ 24 ∧ g.edges.length ≤ 48 := by omega
  (repeat with_reducible (first | refine Red.to ?_ | (refine is_rload ?_; (first | refine rv_load H rfl ?_ | refine rv_load H.up1 rfl ?_ | refine rv_load H.up2 rfl ?_ | refine rv_load H.up3 rfl ?_ | refine rv_load H.up4 rfl ?_))))
  refine cond_split (fun h => ?_) (fun h => ?_)
  · refine bad (e := 10) ?_ (by decide) H
    unfold graphE
    rw [if_neg hl, if_pos (of_decide_eq_true h)]
  have har := of_decide_eq_false h
  have eE : graphE g = if nodesE g.nodes ≠ 0 then nodesE g.nodes else if g.edges.any edgeBad then 25 else 0 := by
    unfold graphE; rw [if_neg hl, if_neg har]
  replace H := H.drew
  refine ⟨fun w => St W w (cells bx 25 [.int .i64 g.ar, g.nv, g.ev] :: L), H, ?_⟩
  (repeat with_reducible (first | refine Red.to ?_ | (refine is_tload ?_; (first | refine tk_load (fun _ H => H) rfl ?_ | refine tk_load (fun _ H => H.up1) rfl ?_ | refine tk_load (fun _ H => H.up2) rfl ?_ | refine tk_load (fun _ H => H.up3) rfl ?_))))
  rw [toU (by omega) (by omega)]
  refine tp_len_rd0 (Rt _ H).1 ?_
  (repeat with_reducible (first | refine Red.to ?_ | (refine is_tload ?_; (first | refine tk_load (fun _ H => H) rfl ?_ | refine tk_load (fun _ H => H.up1) rfl ?_ | refine tk_load (fun _ H => H.up2) rfl ?_ | refine tk_load (fun _ H => H.up3) rfl ?_))))
  rw [toU (by omega) (by omega), Int.toNat_natCast]
  refine rnum_spec _ H (by omega) ?_
  clear H
  intro y w4 H
  rw [← fb_one] at H
  have f1 := fb1_len (n := g.ar.toNat) (by omega)
  first | refine keep_same (H.drop) ?_ | refine ⟨H.drop, ?_⟩
  refine numB H (by omega) (by omega) ?_
  clear H
  intro y w5 H
  have f2 := form_length10 (v := g.nodes.length) (by omega)
  have lN : ∀ i, nodesE (g.nodes.take i) = 0 → (fb (g.ar.toNat :: g.nodes.length :: (g.nodes.take i).flatMap nodeN)).length ≤ 20420 := by
    intro i h
    have := take_good hok.2.1 h
    have l2 : (g.nodes.take i).length ≤ 24 := by simp; omega
    have e : fb (g.ar.toNat :: g.nodes.length :: (g.nodes.take i).flatMap nodeN) = fb [g.ar.toNat] ++ form g.nodes.length ++ fb ((g.nodes.take i).flatMap nodeN) := by simp [fb]
    rw [e]
    simp only [List.length_append]
    omega
  refine share_of (fun vs w => ∃ v, vs = [v] ∧ nodesE g.nodes = 0 ∧ St W w (Bs v (fb (g.ar.toNat :: g.nodes.length :: g.nodes.flatMap nodeN)) :: cells bx 25 [.int .i64 g.ar, g.nv, g.ev] :: L)) ?_ ?_
  · clear H
    rintro vs w ⟨v, rfl, hE, H⟩ σ
    simp only [List.getD_cons_zero, List.getD_cons_succ]
    rw [if_neg (by simp [hE])] at eE
    have l0 := lN g.nodes.length (by rw [List.take_length]; exact hE)
    rw [List.take_length] at l0
    have H := H.up1
    (repeat with_reducible (first | refine Red.to ?_ | (refine is_rload ?_; (first | refine rv_load H rfl ?_ | refine rv_load H.up1 rfl ?_ | refine rv_load H.up2 rfl ?_ | refine rv_load H.up3 rfl ?_ | refine rv_load H.up4 rfl ?_))))
    refine rv_len_rd0 (Rt _ H.up1.drop).2.1 ?_
    (repeat with_reducible (first | refine Red.to ?_ | (refine is_rload ?_; (first | refine rv_load H rfl ?_ | refine rv_load H.up1 rfl ?_ | refine rv_load H.up2 rfl ?_ | refine rv_load H.up3 rfl ?_ | refine rv_load H.up4 rfl ?_))))
    rw [toU (by omega) (by omega), Int.toNat_natCast]
    refine numB H.up1 (by omega) (by omega) ?_
    clear H
    intro y2 w6 H
    have f3 := form_length10 (v := g.edges.length) (by omega)
    have lE : ∀ i, (g.edges.take i).any edgeBad = false → (fb (g.ar.toNat :: g.nodes.length :: (g.nodes.flatMap nodeN ++ g.edges.length :: (g.edges.take i).flatMap edgeN))).length ≤ 30000 := by
      intro i h
      have := take_edges hok.2.2.1 h
      have l2 : (g.edges.take i).length ≤ 48 := by simp; omega
      have e : fb (g.ar.toNat :: g.nodes.length :: (g.nodes.flatMap nodeN ++ g.edges.length :: (g.edges.take i).flatMap edgeN)) = fb (g.ar.toNat :: g.nodes.length :: g.nodes.flatMap nodeN) ++ form g.edges.length ++ fb ((g.edges.take i).flatMap edgeN) := by simp [fb]
      rw [e]
      simp only [List.length_append]
      omega
    have H := H.up1
    (repeat with_reducible (first | refine Red.to ?_ | (refine is_rload ?_; (first | refine rv_load H rfl ?_ | refine rv_load H.up1 rfl ?_ | refine rv_load H.up2 rfl ?_ | refine rv_load H.up3 rfl ?_ | refine rv_load H.up4 rfl ?_))))
    refine rv_len_rd0 (Rt _ H.up1.drop).2.1 ?_
    refine loop_of (fun vs w => ∃ (i : Nat) (v : Value), vs = [v, .int .i64 i] ∧ i ≤ g.edges.length ∧ (g.edges.take i).any edgeBad = false ∧ St W w (Bs v (fb (g.ar.toNat :: g.nodes.length :: (g.nodes.flatMap nodeN ++ g.edges.length :: (g.edges.take i).flatMap edgeN))) :: cells bx 25 [.int .i64 g.ar, g.nv, g.ev] :: L)) (fun vs _ => match vs with | [_, .int _ i] => g.edges.length - i.toNat | _ => 0) ⟨0, y2, rfl, by omega, rfl, ?_⟩ ?_
    · have H := H.up1
      have e : fb (g.ar.toNat :: g.nodes.length :: (g.nodes.flatMap nodeN ++ g.edges.length :: (g.edges.take 0).flatMap edgeN)) = fb (g.ar.toNat :: g.nodes.length :: g.nodes.flatMap nodeN) ++ form g.edges.length := by simp [fb]
      rw [e]
      exact H
    clear H
    rintro vs w kk ⟨i, v, rfl, hi, hany, H⟩ hkk σ
    simp only [List.getD_cons_zero, List.getD_cons_succ]
    (repeat with_reducible (first | refine Red.to ?_ | (refine is_rload ?_; (first | refine rv_load H rfl ?_ | refine rv_load H.up1 rfl ?_ | refine rv_load H.up2 rfl ?_ | refine rv_load H.up3 rfl ?_ | refine rv_load H.up4 rfl ?_))))
    refine cond_split (fun h => ?_) (fun h => ?_)
    · have hlt : i < g.edges.length := by have := of_decide_eq_true h; omega
      obtain ⟨e, he⟩ : ∃ o, g.edges[i]? = some o := ⟨_, List.getElem?_eq_getElem hlt⟩
      have hee := hok.2.2.1 e (List.mem_of_getElem? he)
      obtain ⟨gg, off, cap, hv, hcell⟩ := Kn0.form (fun w h => (Rt w h).2.1) H.drop (by omega)
      have l1 := lE i hany
      refine rv_row (cs := e.cs) H hv hlt (fun j v hj => hcell w H.drop _ v (fl_get EdgeD.len _ i j e v he hj)) (by rfl) (by rfl) e.one ?_
      clear H
      intro b2 w7 H
      unfold EdgeD.cs at H
      unfold EdgeD.ok i64r at hee
      have hall : ∀ {P : EdgeD → Prop}, P e → P e := fun h => h
      refine share_of (fun vs w => ∃ v, vs = [v] ∧ edgeBad e = false ∧ St W w (Bs v (fb (g.ar.toNat :: g.nodes.length :: (g.nodes.flatMap nodeN ++ g.edges.length :: (g.edges.take i).flatMap edgeN)) ++ fb ((edgeI e).map Int.toNat)) :: cells b2 65 [.int .i64 e.f, .int .i64 e.o, .int .i64 e.t, .int .i64 e.i, .bool e.kd] :: cells bx 25 [.int .i64 g.ar, g.nv, g.ev] :: L)) ?_ ?_
      · clear H
        rintro vs w ⟨v, rfl, hb, H⟩ σ
        simp only [List.getD_cons_zero, List.getD_cons_succ]
        have l4 : (fb ((edgeI e).map Int.toNat)).length ≤ 40 := fb_len (l := (edgeI e).map Int.toNat) (by intro y hy; simp [edgeI] at hy; omega)
        have H := H.up1
        (repeat with_reducible (first | refine Red.to ?_ | (refine is_rload ?_; (first | refine rv_load H rfl ?_ | refine rv_load H.up1 rfl ?_ | refine rv_load H.up2 rfl ?_ | refine rv_load H.up3 rfl ?_ | refine rv_load H.up4 rfl ?_))))
        refine truthB H.up1 (by simp only [List.length_append]; omega) ?_
        clear H
        intro y3 w8 H
        (repeat with_reducible (first | refine Red.to ?_ | (refine is_rload ?_; (first | refine rv_load H rfl ?_ | refine rv_load H.up1 rfl ?_ | refine rv_load H.up2 rfl ?_ | refine rv_load H.up3 rfl ?_ | refine rv_load H.up4 rfl ?_))))
        rw [i64_small (by omega) (by omega)]
        refine hkk _ _ ⟨i + 1, y3, rfl, by omega, ?_, ?_⟩ (by simp; omega)
        · rw [any_take he, hany, hb]
          rfl
        · have e : fb (g.ar.toNat :: g.nodes.length :: (g.nodes.flatMap nodeN ++ g.edges.length :: (g.edges.take (i + 1)).flatMap edgeN)) = fb (g.ar.toNat :: g.nodes.length :: (g.nodes.flatMap nodeN ++ g.edges.length :: (g.edges.take i).flatMap edgeN)) ++ fb ((edgeI e).map Int.toNat) ++ form (boolN e.kd) := by
            rw [flatMap_take he]
            simp [fb, edgeN, edgeI]
          rw [e]
          exact H.up1.drop
      intro J2 hJ2
      (repeat with_reducible (first | refine Red.to ?_ | (refine is_rload ?_; (first | refine rv_load H rfl ?_ | refine rv_load H.up1 rfl ?_ | refine rv_load H.up2 rfl ?_ | refine rv_load H.up3 rfl ?_ | refine rv_load H.up4 rfl ?_))))
      refine rv_buildSlice (parts := [(0, .int .i64 e.f), (1, .int .i64 e.o), (2, .int .i64 e.t), (3, .int .i64 e.i)]) H ((edgeI e).map (Value.int .i64)) (by omega) (by kernel_rfl) ?_
      clear H
      intro b3 w8 H
      (repeat with_reducible (first | refine Red.to ?_ | (refine is_rload ?_; (first | refine rv_load H rfl ?_ | refine rv_load H.up1 rfl ?_ | refine rv_load H.up2 rfl ?_ | refine rv_load H.up3 rfl ?_ | refine rv_load H.up4 rfl ?_))))
      refine loop_of (fun vs w => ∃ (j : Nat) (v : Value), vs = [v, .int .i64 j] ∧ j ≤ 4 ∧ (∀ x ∈ (edgeI e).take j, 0 ≤ x) ∧ St W w (Bs v (fb (g.ar.toNat :: g.nodes.length :: (g.nodes.flatMap nodeN ++ g.edges.length :: (g.edges.take i).flatMap edgeN)) ++ fb (((edgeI e).take j).map Int.toNat)) :: cells b3 3 ((edgeI e).map (Value.int .i64)) :: cells b2 65 [.int .i64 e.f, .int .i64 e.o, .int .i64 e.t, .int .i64 e.i, .bool e.kd] :: cells bx 25 [.int .i64 g.ar, g.nv, g.ev] :: L)) (fun vs _ => match vs with | [_, .int _ i] => 4 - i.toNat | _ => 0) ⟨0, v, rfl, by omega, by simp, by simpa [fb] using H.up2⟩ ?_
      clear H
      rintro vs w kk2 ⟨j, v, rfl, hj, hpos, H⟩ hkk2 σ
      simp only [List.getD_cons_zero, List.getD_cons_succ]
      (repeat with_reducible (first | refine Red.to ?_ | (refine is_rload ?_; (first | refine rv_load H rfl ?_ | refine rv_load H.up1 rfl ?_ | refine rv_load H.up2 rfl ?_ | refine rv_load H.up3 rfl ?_ | refine rv_load H.up4 rfl ?_))))
      refine cond_split (fun h => ?_) (fun h => ?_)
      · have hlt : j < 4 := by have := of_decide_eq_true h; omega
        obtain ⟨x, hx⟩ : ∃ o, (edgeI e)[j]? = some o := ⟨_, List.getElem?_eq_getElem (by simp [edgeI]; omega)⟩
        refine rv_index (by omega) (by omega) ?_
        have ei : 0 + ((j : Nat) : Int).toNat * 1 = j := by simp
        rw [ei]
        refine rv_load (v := .int .i64 x) H.up1 (by simp [hx]) ?_
        (repeat with_reducible (first | refine Red.to ?_ | (refine is_rload ?_; (first | refine rv_load H rfl ?_ | refine rv_load H.up1 rfl ?_ | refine rv_load H.up2 rfl ?_ | refine rv_load H.up3 rfl ?_ | refine rv_load H.up4 rfl ?_))))
        refine cond_split (fun h => ?_) (fun h => ?_)
        · refine bad (e := 25) ?_ (by decide) H.drop.drop.drop
          rw [eE, any_at he (edgeI_bad hx (of_decide_eq_true h)), if_pos rfl]
        have hx0 := of_decide_eq_false h
        have hxr : x < 9223372036854775808 := by
          have := List.mem_of_getElem? hx
          simp only [edgeI, List.mem_cons, List.not_mem_nil, or_false] at this
          omega
        have l4 : (fb (((edgeI e).take j).map Int.toNat)).length ≤ 10 * (((edgeI e).take j).map Int.toNat).length := fb_len (by
          intro y hy
          obtain ⟨z, hz, rfl⟩ := List.mem_map.1 hy
          have := List.mem_of_mem_take hz
          simp only [edgeI, List.mem_cons, List.not_mem_nil, or_false] at this
          omega)
        have l5 : (((edgeI e).take j).map Int.toNat).length ≤ 4 := by simp; omega
        (repeat with_reducible (first | refine Red.to ?_ | (refine is_rload ?_; (first | refine rv_load H rfl ?_ | refine rv_load H.up1 rfl ?_ | refine rv_load H.up2 rfl ?_ | refine rv_load H.up3 rfl ?_ | refine rv_load H.up4 rfl ?_))))
        rw [toU (by omega) (by omega)]
        refine numB H (by omega) (by simp only [List.length_append]; omega) ?_
        clear H
        intro y3 w9 H
        (repeat with_reducible (first | refine Red.to ?_ | (refine is_rload ?_; (first | refine rv_load H rfl ?_ | refine rv_load H.up1 rfl ?_ | refine rv_load H.up2 rfl ?_ | refine rv_load H.up3 rfl ?_ | refine rv_load H.up4 rfl ?_))))
        rw [i64_small (by omega) (by omega)]
        refine hkk2 _ _ ⟨j + 1, y3, rfl, by omega, ?_, ?_⟩ (by simp; omega)
        · intro z hz
          rw [List.take_add_one, hx] at hz
          simp only [Option.toList_some, List.mem_append, List.mem_singleton] at hz
          rcases hz with hz | rfl
          · exact hpos z hz
          · omega
        · have e : fb (((edgeI e).take (j + 1)).map Int.toNat) = fb (((edgeI e).take j).map Int.toNat) ++ form x.toNat := by
            rw [List.take_add_one, hx]
            simp [fb]
          rw [e, ← List.append_assoc]
          exact H
      · have hj : j = 4 := by have := of_decide_eq_false h; omega
        subst hj
        have e4 : (edgeI e).take 4 = edgeI e := rfl
        rw [e4] at H hpos
        exact hJ2 _ _ ⟨v, rfl, edgeI_good hpos, H.up1.drop⟩
    · have hi : i = g.edges.length := by have := of_decide_eq_false h; omega
      subst hi
      rw [List.take_length] at H hany
      refine k (by rw [eE, hany, if_neg (by simp)]) _ _ ?_
      exact H.up1.drop
  intro J hJ
  have H := H.up1
  (repeat with_reducible (first | refine Red.to ?_ | (refine is_rload ?_; (first | refine rv_load H rfl ?_ | refine rv_load H.up1 rfl ?_ | refine rv_load H.up2 rfl ?_ | refine rv_load H.up3 rfl ?_ | refine rv_load H.up4 rfl ?_))))
  refine rv_len_rd0 (Rt _ H.up1.drop).1 ?_
  refine loop_of (fun vs w => ∃ (i : Nat) (v : Value), vs = [v, .int .i64 i] ∧ i ≤ g.nodes.length ∧ nodesE (g.nodes.take i) = 0 ∧ St W w (Bs v (fb (g.ar.toNat :: g.nodes.length :: (g.nodes.take i).flatMap nodeN)) :: cells bx 25 [.int .i64 g.ar, g.nv, g.ev] :: L)) (fun vs _ => match vs with | [_, .int _ i] => g.nodes.length - i.toNat | _ => 0) ⟨0, y, rfl, by omega, rfl, ?_⟩ ?_
  · have H := H.up1
    have e : fb (g.ar.toNat :: g.nodes.length :: (g.nodes.take 0).flatMap nodeN) = fb [g.ar.toNat] ++ form g.nodes.length := by simp [fb]
    rw [e]
    exact H
  clear H
  rintro vs w kk ⟨i, v, rfl, hi, hany, H⟩ hkk σ
  simp only [List.getD_cons_zero, List.getD_cons_succ]
  (repeat with_reducible (first | refine Red.to ?_ | (refine is_rload ?_; (first | refine rv_load H rfl ?_ | refine rv_load H.up1 rfl ?_ | refine rv_load H.up2 rfl ?_ | refine rv_load H.up3 rfl ?_ | refine rv_load H.up4 rfl ?_))))
  refine cond_split (fun h => ?_) (fun h => ?_)
  · have hlt : i < g.nodes.length := by have := of_decide_eq_true h; omega
    obtain ⟨n, hn⟩ : ∃ o, g.nodes[i]? = some o := ⟨_, List.getElem?_eq_getElem hlt⟩
    obtain ⟨gg, off, cap, hv, hcell⟩ := Kn0.form (fun w h => (Rt w h).1) H.drop (by omega)
    have l1 := lN i hany
    have hno := hok.2.1 n (List.mem_of_getElem? hn)
    refine rv_row (cs := n.cs) H hv hlt (fun j v hj => hcell w H.drop _ v (fl_get NodeV.len _ i j n v hn hj)) (by rfl) (by rfl) (NodeV.one ((Rt _ H.drop).2.2 n (List.mem_of_getElem? hn))) ?_
    clear H
    intro b2 w7 H
    refine rv_loada H (cs := n.cs) (by rfl) (by rfl) ?_
    refine rnode_spec hno ((Rt.node (List.mem_of_getElem? hn)).tail.tail) H (fun hE => ?_) (fun hE => ?_)
    · clear H
      intro y3 w8 H
      have ln := nodeN_small ⟨hno, hE⟩
      have ln2 := fb_len ln.1
      have H := H.up1.drop
      (repeat (first | (with_reducible (first | refine Red.to ?_ | (refine is_rload ?_; (first | refine rv_load H rfl ?_ | refine rv_load H.up1 rfl ?_ | refine rv_load H.up2 rfl ?_ | refine rv_load H.up3 rfl ?_ | refine rv_load H.up4 rfl ?_)) | (refine is_tload ?_; (first | refine tk_load (fun _ H => H) rfl ?_ | refine tk_load (fun _ H => H.up1) rfl ?_ | refine tk_load (fun _ H => H.up2) rfl ?_ | refine tk_load (fun _ H => H.up3) rfl ?_)))) | (refine Share.mk ?_) | (intro _) | (simp only [List.getD_cons_zero, List.getD_cons_succ, bne_self_eq_false])))
      refine rv_app H (by omega) ?_
      clear H
      intro y4 w9 H
      (repeat with_reducible (first | refine Red.to ?_ | (refine is_rload ?_; (first | refine rv_load H rfl ?_ | refine rv_load H.up1 rfl ?_ | refine rv_load H.up2 rfl ?_ | refine rv_load H.up3 rfl ?_ | refine rv_load H.up4 rfl ?_))))
      rw [i64_small (by omega) (by omega)]
      refine hkk _ _ ⟨i + 1, y4, rfl, by omega, nodesE_snoc hn hany hE, ?_⟩ (by simp; omega)
      have e : fb (g.ar.toNat :: g.nodes.length :: (g.nodes.take (i + 1)).flatMap nodeN) = fb (g.ar.toNat :: g.nodes.length :: (g.nodes.take i).flatMap nodeN) ++ fb (nodeN n) := by
        rw [flatMap_take hn]
        simp [fb]
      rw [e]
      exact H
    · clear H
      intro w8 H
      have e := nodesE_take hn hany hE
      have hne : (((nodeE n : Nat) : Int) != 0) = true := by simp; omega
      (repeat (first | (with_reducible (first | refine Red.to ?_ | (refine is_rload ?_; (first | refine rv_load H rfl ?_ | refine rv_load H.up1 rfl ?_ | refine rv_load H.up2 rfl ?_ | refine rv_load H.up3 rfl ?_ | refine rv_load H.up4 rfl ?_)) | (refine is_tload ?_; (first | refine tk_load (fun _ H => H) rfl ?_ | refine tk_load (fun _ H => H.up1) rfl ?_ | refine tk_load (fun _ H => H.up2) rfl ?_ | refine tk_load (fun _ H => H.up3) rfl ?_)))) | (refine Share.mk ?_) | (intro _) | (simp only [List.getD_cons_zero, List.getD_cons_succ, hne])))
      refine bad (e := nodeE n) ?_ hE H.drop.drop
      rw [eE, e, if_pos hE]
  · have hi : i = g.nodes.length := by have := of_decide_eq_false h; omega
    subst hi
    rw [List.take_length] at H hany
    exact hJ _ _ ⟨v, rfl, hany, H⟩
end
end Go.Proofs.Ytdmocobabpmoeaa
