
/-
  DraftGets: the walk.
-/
import Derived.Test.YtdmocobabpmoeaaDraftAC
namespace Go.Proofs.Ytdmocobabpmoeaa
open Go.Vc Go.Sep Go.Ops
set_option linter.unusedVariables false
set_option linter.unusedSectionVars false
set_option linter.unusedSimpArgs false

def gV : Rs GraphV → GraphV
  | .ok g _ => g
  | .bad _ _ => gz.er
def gE1 : Rs GraphV → Nat
  | .ok _ _ => 0
  | .bad e _ => e
def gE2 : Rs GraphV → Nat
  | .ok _ _ => 0
  | .bad _ a => a
section
variable {W w : World} {L : List HProp} {K : Value → World → Prop} {KU : World → Prop} {X : XPost}
theorem gz_own (H : St W w L) : St W w (GraphH gz ++ L) := (H.sl_nil 65 5).sl_nil 59 10
theorem get_both {v : Value} {bs : List UInt8} (R : Kn W L v bs.length (bv bs)) (hl : bs.length ≤ 140737488351232) (H : St W w L) (k : ∀ (g : GraphV) w', g.er = gV (pGraph bs) → g.ok → St W w' (GraphH g ++ L) → K (.tuple #[.agg g.cs.toArray, .int .i64 (gE1 (pGraph bs) : Nat), .int .i64 (gE2 (pGraph bs) : Nat)]) w') : FCall Try.prog Fn.draft_Get #[v] w K X := by
  refine get_spec R hl H (fun g p w' hg H => ?_) (fun e a w' hg H => ?_)
  · rw [hg] at k
    exact k g w' rfl (er_ok.1 (graph_good hg).1) H
  · rw [hg] at k
    exact k gz w' rfl gz_ok (gz_own H)
theorem rget_both {v : Value} {bs : List UInt8} (R : Kn0 W L v bs.length (bv bs)) (hl : bs.length ≤ 140737488351232) (H : St W w L) (k : ∀ (g : GraphV) w', g.er = gV (pGraph bs) → g.ok → St W w' (GraphH g ++ L) → K (.tuple #[.agg g.cs.toArray, .int .i64 (gE1 (pGraph bs) : Nat), .int .i64 (gE2 (pGraph bs) : Nat)]) w') : FCall Try.prog Fn.sluiceref08_Get #[v] w K X := by
  refine rget_spec R hl H (fun g p w' hg H => ?_) (fun e a w' hg H => ?_)
  · rw [hg] at k
    exact k g w' rfl (er_ok.1 (graph_good hg).1) H
  · rw [hg] at k
    exact k gz w' rfl gz_ok (gz_own H)
theorem rv_idx0 {t e b : Nat} {z : Value} [TSlice Try.prog t e 1 b z] [TCell Try.prog e] {v : Value} {n i : Nat} {cs : List Value} {u : Value} {k : IntKind} (R : Rd0 w v n cs) (hl : cs.length = n) (hi : cs[i]? = some u) (hk : K u w) :
    RunV Try.prog (Instr.indexAt t v (.int k (i : Nat))) w (fun p w => RunV Try.prog (Instr.loadAt e p) w K X) X := by
  rcases R with R | ⟨a, c, rfl, rfl, rfl⟩
  · exact rv_idx R hl hi hk
  · simp at hi
/-- the first ones of a list of its own -/
theorem rd_front {g n cap : Nat} {bs zs : List UInt8} (H : St W w (Bs (.slice (some ⟨g, 0, none⟩) n cap) (bs ++ zs) :: L)) : Rd w (.slice (some ⟨g, 0, none⟩) bs.length cap) bs.length (bv bs) := by
  rcases St.rd H with ⟨h, _⟩ | ⟨g', off, cap', hv, hn, hc⟩
  · cases h
  · cases hv
    refine .inr ⟨g, 0, cap, rfl, by simp at hn; omega, fun j u hj => hc j u ?_⟩
    rw [bv_append, List.getElem?_append_left (List.getElem?_eq_some_iff.1 hj).1]
    exact hj
theorem gets_spec {a c : Value} {bs ts : List UInt8} (R : Rd0 W a bs.length (bv bs)) (hl : bs.length ≤ 140737488351232) (Rt : Rd0 W c ts.length (bv ts)) (H : St W w L) (k : ∀ w', St W w' L → K (.bool true) w') : FCall Try.prog Fn.sluicelaw08_DraftGets #[a, c] w K X := by
  refine sluicelaw08_DraftGets_call ?_
  unfold Sh.sluicelaw08_DraftGets
  refine rv_copy H (Kn0.old R) hl ?_
  clear H
  intro y w1 H
  refine snocB H (by omega) (by omega) ?_
  clear H
  intro z w2 H
  replace H : St W w2 (Bs z (bs ++ [199]) :: L) := H
  obtain ⟨g0, cap, rfl, hcap⟩ : ∃ g cap, z = .slice (some ⟨g, 0, none⟩) (bs ++ [199]).length cap ∧ (bs ++ [199]).length ≤ cap := by
    rcases H.sl_form.2 with ⟨_, h⟩ | ⟨g, cap, h, h1, _⟩
    · simp at h
    · exact ⟨g, cap, h, h1⟩
  have hlen : (bs ++ [199]).length = bs.length + 1 := by simp
  rw [hlen] at H hcap ⊢
  refine rv_len_rd0 (R.old H) ?_
  refine rv_slice_h' (by omega) (by omega) ?_
  rw [Int.toNat_natCast]
  refine get_both (fun w h => rd_front h) hl H ?_
  clear H
  intro g w3 hg hgok H
  replace H : St W w3 (Bs (.slice (some ⟨g0, 0, none⟩) (bs.length + 1) cap) (bs ++ [199]) :: (GraphH g ++ L)) := H.perm List.perm_middle
  have hg1 : ∀ u ∈ g.cs, u.oneCell' = true := own_one H.drop
  (repeat with_reducible (first | refine Red.to ?_ | (refine is_rload ?_; (first | refine rv_load H rfl ?_ | refine rv_load H.up1 rfl ?_ | refine rv_load H.up2 rfl ?_ | refine rv_load H.up3 rfl ?_ | refine rv_load H.up4 rfl ?_))))
  refine rv_new (c' := g.cs) H (by rfl) (by rfl) hg1 ?_
  clear H
  intro b6 w4 H
  refine rget_both (Kn0.old R) hl H ?_
  clear H
  intro h w5 hh hhok H
  have hh1 : ∀ u ∈ h.cs, u.oneCell' = true := own_one H
  replace H : St W w5 (cells b6 25 g.cs :: Bs (.slice (some ⟨g0, 0, none⟩) (bs.length + 1) cap) (bs ++ [199]) :: (GraphH h ++ (GraphH g ++ L))) := H.perm (List.perm_append_comm_assoc (GraphH h) [cells b6 25 g.cs, Bs (.slice (some ⟨g0, 0, none⟩) (bs.length + 1) cap) (bs ++ [199])] (GraphH g ++ L))
  (repeat with_reducible (first | refine Red.to ?_ | (refine is_rload ?_; (first | refine rv_load H rfl ?_ | refine rv_load H.up1 rfl ?_ | refine rv_load H.up2 rfl ?_ | refine rv_load H.up3 rfl ?_ | refine rv_load H.up4 rfl ?_))))
  refine rv_new (c' := h.cs) H (by rfl) (by rfl) hh1 ?_
  clear H
  intro b9 w6 H
  have Kg : ∀ {A : List HProp}, GKn W (A ++ (GraphH h ++ (GraphH g ++ L))) g := fun w H => gkn_own w (St.dropL (A := GraphH h) (St.dropL H))
  have Kh : ∀ {A : List HProp}, GKn W (A ++ (GraphH h ++ (GraphH g ++ L))) h := fun w H => gkn_own w (St.dropL H)
  have eq_ : g.er = h.er := by rw [hg, hh]
  refine share_of (fun vs w => vs = [] ∧ St W w (cells b9 25 h.cs :: cells b6 25 g.cs :: Bs (.slice (some ⟨g0, 0, none⟩) (bs.length + 1) cap) (bs ++ [199]) :: (GraphH h ++ (GraphH g ++ L)))) ?_ ?_
  · clear H
    rintro vs w ⟨rfl, H⟩ σ
    refine share_of (fun vs w => vs = [] ∧ ∃ now : List UInt8, now.length = bs.length ∧ St W w (cells b9 25 h.cs :: cells b6 25 g.cs :: Bs (.slice (some ⟨g0, 0, none⟩) (bs.length + 1) cap) (now ++ [199]) :: (GraphH h ++ (GraphH g ++ L)))) ?_ ?_
    · clear H
      rintro vs w ⟨rfl, now, hnow, H⟩ σ
      refine rv_build0 H ?_
      clear H
      intro g7 w7 H
      refine rv_len_rd0 (R.old H) ?_
      refine rv_slice_h' (by omega) (by omega) ?_
      rw [Int.toNat_natCast, ← hnow]
      have H := H.sl_of_cells (size := 1) (n := 0) (cap := 0) (by simp) (by omega) (by unfold maxLen; omega)
      refine rv_append_rd0 H (.inl (rd_front H.up3)) (by simp [bv]) bv_one (by unfold maxLen; omega) (by omega) ?_
      clear H
      intro y2 w8 H _
      replace H : St W w8 (Bs y2 now :: cells b9 25 h.cs :: cells b6 25 g.cs :: Bs (.slice (some ⟨g0, 0, none⟩) (bs.length + 1) cap) (now ++ [199]) :: (GraphH h ++ (GraphH g ++ L))) := by simpa [Bs] using H
      refine rv_len_rd0 (R.old H) ?_
      rw [← hnow]
      refine rv_slice_h' (by omega) (by omega) ?_
      rw [Int.toNat_natCast]
      refine get_both (fun w h => rd_front h.up3) (by omega) H ?_
      clear H
      intro x w9 hx hxok H
      have hx1 : ∀ u ∈ x.cs, u.oneCell' = true := own_one H
      replace H := H.perm (List.perm_append_comm_assoc (GraphH x) [Bs y2 now, cells b9 25 h.cs, cells b6 25 g.cs, Bs (.slice (some ⟨g0, 0, none⟩) (bs.length + 1) cap) (now ++ [199])] (GraphH h ++ (GraphH g ++ L)))
      (repeat with_reducible (first | refine Red.to ?_ | (refine is_rload ?_; (first | refine rv_load H rfl ?_ | refine rv_load H.up1 rfl ?_ | refine rv_load H.up2 rfl ?_ | refine rv_load H.up3 rfl ?_ | refine rv_load H.up4 rfl ?_))))
      refine rv_new (c' := x.cs) H (by rfl) (by rfl) hx1 ?_
      clear H
      intro b14 w10 H
      refine rget_both (v := y2) (bs := now) (fun w h => .inl (St.rd h.drop)) (by omega) H ?_
      clear H
      intro y w11 hy hyok H
      have hy1 : ∀ u ∈ y.cs, u.oneCell' = true := own_one H
      replace H := H.perm (List.perm_append_comm_assoc (GraphH y) [cells b14 25 x.cs, Bs y2 now, cells b9 25 h.cs, cells b6 25 g.cs, Bs (.slice (some ⟨g0, 0, none⟩) (bs.length + 1) cap) (now ++ [199])] (GraphH x ++ (GraphH h ++ (GraphH g ++ L))))
      (repeat with_reducible (first | refine Red.to ?_ | (refine is_rload ?_; (first | refine rv_load H rfl ?_ | refine rv_load H.up1 rfl ?_ | refine rv_load H.up2 rfl ?_ | refine rv_load H.up3 rfl ?_ | refine rv_load H.up4 rfl ?_))))
      refine rv_new (c' := y.cs) H (by rfl) (by rfl) hy1 ?_
      clear H
      intro b15 w12 H
      refine rv_loada H.up1 (cs := x.cs) rfl rfl ?_
      refine rv_loada H (cs := y.cs) rfl rfl ?_
      refine same_spec (g := x) (h := y) (by rw [hx, hy]) (fun w h => gkn_own w (St.dropL (A := GraphH y) (St.dropL (A := [_, _, _, _, _, _]) h))) (fun w h => gkn_own w (St.dropL (A := [_, _, _, _, _, _]) h)) hxok H ?_
      clear H
      intro w13 H
      (repeat (first | (with_reducible (first | refine Red.to ?_ | (refine is_rload ?_; (first | refine rv_load H rfl ?_ | refine rv_load H.up1 rfl ?_ | refine rv_load H.up2 rfl ?_ | refine rv_load H.up3 rfl ?_ | refine rv_load H.up4 rfl ?_)) | (refine is_tload ?_; (first | refine tk_load (fun _ H => H) rfl ?_ | refine tk_load (fun _ H => H.up1) rfl ?_ | refine tk_load (fun _ H => H.up2) rfl ?_ | refine tk_load (fun _ H => H.up3) rfl ?_)))) | (refine Share.mk ?_) | (intro _) | (simp only [List.getD_cons_zero, List.getD_cons_succ, beq_self_eq_true])))
      have H4 : St W w13 (cells b9 25 h.cs :: cells b6 25 g.cs :: _) := H.drop.drop.drop
      refine rv_loada H4.up1 (cs := g.cs) rfl rfl ?_
      refine rv_loada H4 (cs := h.cs) rfl rfl ?_
      refine same_spec (g := g) (h := h) eq_ (fun w h => Kg (A := []) w (St.dropL (A := GraphH x) (St.dropL (A := GraphH y) (St.dropL (A := [_, _, _, _, _, _]) h)))) (fun w h => Kh (A := []) w (St.dropL (A := GraphH x) (St.dropL (A := GraphH y) (St.dropL (A := [_, _, _, _, _, _]) h)))) hgok H ?_
      clear H H4
      intro w14 H
      (repeat (first | (with_reducible (first | refine Red.to ?_ | (refine is_rload ?_; (first | refine rv_load H rfl ?_ | refine rv_load H.up1 rfl ?_ | refine rv_load H.up2 rfl ?_ | refine rv_load H.up3 rfl ?_ | refine rv_load H.up4 rfl ?_)) | (refine is_tload ?_; (first | refine tk_load (fun _ H => H) rfl ?_ | refine tk_load (fun _ H => H.up1) rfl ?_ | refine tk_load (fun _ H => H.up2) rfl ?_ | refine tk_load (fun _ H => H.up3) rfl ?_)))) | (refine Share.mk ?_) | (intro _) | (simp only [List.getD_cons_zero, List.getD_cons_succ])))
      exact k _ (St.dropL (A := GraphH g) (St.dropL (A := GraphH h) (St.dropL (A := GraphH x) (St.dropL (A := GraphH y) (St.dropL (A := [_, _, _, _, _, _]) H)))))
    · intro J hJ
      refine loop_of (fun vs w => ∃ i : Nat, vs = [.int .i64 i] ∧ i ≤ bs.length ∧ i ≤ ts.length ∧ St W w (cells b9 25 h.cs :: cells b6 25 g.cs :: Bs (.slice (some ⟨g0, 0, none⟩) (bs.length + 1) cap) (ts.take i ++ bs.drop i ++ [199]) :: (GraphH h ++ (GraphH g ++ L)))) (fun vs _ => match vs with | [.int _ i] => bs.length - i.toNat | _ => 0) ⟨0, rfl, by omega, by omega, by simpa using H⟩ ?_
      clear H
      rintro vs w kk ⟨i, rfl, hi, hi2, H⟩ hkk σ
      simp only [List.getD_cons_zero, List.getD_cons_succ]
      have hnowl : (ts.take i ++ bs.drop i).length = bs.length := by simp; omega
      have hend : J [] w := hJ _ _ ⟨rfl, ts.take i ++ bs.drop i, hnowl, H⟩
      refine share_of (fun vs w' => vs = [] ∧ w' = w ∧ i < bs.length ∧ i < ts.length) ?_ ?_
      · rintro vs w' ⟨rfl, rfl, h1, h2⟩ σ
        obtain ⟨x, hx⟩ : ∃ x, ts[i]? = some x := ⟨_, List.getElem?_eq_getElem h2⟩
        have hx256 := x.toNat_lt
        refine rv_idx0 (Rt.old H) (by simp [bv]) (u := .int .u8 (x.toNat : Int)) (by simp [bv, hx]) ?_
        refine rv_idx_set H.up2 (by simp; omega) (by omega) ?_
        clear H
        intro w1 H
        (repeat with_reducible (first | refine Red.to ?_ | (refine is_rload ?_; (first | refine rv_load H rfl ?_ | refine rv_load H.up1 rfl ?_ | refine rv_load H.up2 rfl ?_ | refine rv_load H.up3 rfl ?_ | refine rv_load H.up4 rfl ?_))))
        rw [i64_small (by omega) (by omega)]
        refine hkk _ _ ⟨i + 1, rfl, by omega, by omega, ?_⟩ (by simp; omega)
        have e1 : UInt8.ofNat (x.toNat : Int).toNat = x := by simp
        have e2 : (ts.take i ++ bs.drop i ++ [199]).set i x = ts.take (i + 1) ++ bs.drop (i + 1) ++ [199] := by
          have hd : bs.drop i = bs[i] :: bs.drop (i + 1) := List.drop_eq_getElem_cons h1
          rw [List.take_add_one, hx, hd, List.append_assoc, List.append_assoc, List.append_assoc, List.set_append_right _ _ (by simp; omega)]
          have e3 : i - (ts.take i).length = 0 := by simp; omega
          rw [e3, List.cons_append, List.set_cons_zero, Option.toList_some, List.cons_append, List.nil_append]
        rw [e1, e2] at H
        exact H.dn2
      · intro J2 hJ2
        refine rv_len_rd0 (R.old H) ?_
        (repeat with_reducible (first | refine Red.to ?_ | (refine is_rload ?_; (first | refine rv_load H rfl ?_ | refine rv_load H.up1 rfl ?_ | refine rv_load H.up2 rfl ?_ | refine rv_load H.up3 rfl ?_ | refine rv_load H.up4 rfl ?_))))
        cases hc : decide ((i : Int) < (bs.length : Int)) with
        | false =>
          (repeat (first | (with_reducible (first | refine Red.to ?_ | (refine is_rload ?_; (first | refine rv_load H rfl ?_ | refine rv_load H.up1 rfl ?_ | refine rv_load H.up2 rfl ?_ | refine rv_load H.up3 rfl ?_ | refine rv_load H.up4 rfl ?_)) | (refine is_tload ?_; (first | refine tk_load (fun _ H => H) rfl ?_ | refine tk_load (fun _ H => H.up1) rfl ?_ | refine tk_load (fun _ H => H.up2) rfl ?_ | refine tk_load (fun _ H => H.up3) rfl ?_)))) | (refine Share.mk ?_) | (intro _) | (simp only [List.getD_cons_zero, List.getD_cons_succ])))
          exact hend
        | true =>
          have hlt := of_decide_eq_true hc
          refine guard_tt ?_
          refine rv_len_rd0 (Rt.old H) ?_
          (repeat with_reducible (first | refine Red.to ?_ | (refine is_rload ?_; (first | refine rv_load H rfl ?_ | refine rv_load H.up1 rfl ?_ | refine rv_load H.up2 rfl ?_ | refine rv_load H.up3 rfl ?_ | refine rv_load H.up4 rfl ?_))))
          cases hc2 : decide ((i : Int) < (ts.length : Int)) with
          | false =>
            (repeat (first | (with_reducible (first | refine Red.to ?_ | (refine is_rload ?_; (first | refine rv_load H rfl ?_ | refine rv_load H.up1 rfl ?_ | refine rv_load H.up2 rfl ?_ | refine rv_load H.up3 rfl ?_ | refine rv_load H.up4 rfl ?_)) | (refine is_tload ?_; (first | refine tk_load (fun _ H => H) rfl ?_ | refine tk_load (fun _ H => H.up1) rfl ?_ | refine tk_load (fun _ H => H.up2) rfl ?_ | refine tk_load (fun _ H => H.up3) rfl ?_)))) | (refine Share.mk ?_) | (intro _) | (simp only [List.getD_cons_zero, List.getD_cons_succ])))
            exact hend
          | true =>
            have hlt2 := of_decide_eq_true hc2
            (repeat (first | (with_reducible (first | refine Red.to ?_ | (refine is_rload ?_; (first | refine rv_load H rfl ?_ | refine rv_load H.up1 rfl ?_ | refine rv_load H.up2 rfl ?_ | refine rv_load H.up3 rfl ?_ | refine rv_load H.up4 rfl ?_)) | (refine is_tload ?_; (first | refine tk_load (fun _ H => H) rfl ?_ | refine tk_load (fun _ H => H.up1) rfl ?_ | refine tk_load (fun _ H => H.up2) rfl ?_ | refine tk_load (fun _ H => H.up3) rfl ?_)))) | (refine Share.mk ?_) | (intro _) | (simp only [List.getD_cons_zero, List.getD_cons_succ])))
            exact hJ2 _ _ ⟨rfl, rfl, by omega, by omega⟩
  · intro J hJ
    replace H := H.drew
    refine ⟨fun w => St W w (cells b9 25 h.cs :: cells b6 25 g.cs :: Bs (.slice (some ⟨g0, 0, none⟩) (bs.length + 1) cap) (bs ++ [199]) :: (GraphH h ++ (GraphH g ++ L))), H, ?_⟩
    refine known_spec H ?_
    clear H
    intro w7 H
    first | refine keep_same (H) ?_ | refine ⟨H, ?_⟩
    refine tp_not_t ?_
    refine share_of (fun vs w => vs = [.bool false] ∧ St W w (cells b9 25 h.cs :: cells b6 25 g.cs :: Bs (.slice (some ⟨g0, 0, none⟩) (bs.length + 1) cap) (bs ++ [199]) :: (GraphH h ++ (GraphH g ++ L)))) ?_ ?_
    rotate_left
    · intro J2 hJ2
      refine guard_ff ?_
      refine tk_loada (fun _ h => h.up1) (cs := g.cs) rfl rfl ?_
      refine rv_loada H (cs := h.cs) rfl rfl ?_
      refine ⟨H, ?_⟩
      refine same_spec (g := g) (h := h) eq_ (Kg (A := [_, _, _])) (Kh (A := [_, _, _])) hgok H ?_
      clear H
      intro w8 H
      refine ⟨H, ?_⟩
      refine tp_not_t ?_
      exact hJ2 _ _ ⟨rfl, H⟩
    clear H
    rintro vs w ⟨rfl, H⟩ σ
    simp only [List.getD_cons_zero]
    refine pick_to (v := .bool false) rfl ?_
    (repeat (first | (with_reducible (first | refine Red.to ?_ | (refine is_rload ?_; (first | refine rv_load H rfl ?_ | refine rv_load H.up1 rfl ?_ | refine rv_load H.up2 rfl ?_ | refine rv_load H.up3 rfl ?_ | refine rv_load H.up4 rfl ?_)) | (refine is_tload ?_; (first | refine tk_load (fun _ H => H) rfl ?_ | refine tk_load (fun _ H => H.up1) rfl ?_ | refine tk_load (fun _ H => H.up2) rfl ?_ | refine tk_load (fun _ H => H.up3) rfl ?_)))) | (refine Share.mk ?_) | (intro _) | (simp only [List.getD_cons_zero, List.getD_cons_succ, bne_self_eq_false])))
    refine tp_len_rd0 (R.old H) ?_
    refine tp_slice_h' (by omega) (by omega) ?_
    rw [Int.toNat_natCast]
    refine tk (fun w h => run_str (rd_front h.up2)) ?_
    refine rv_str0 (R.old H) ?_
    refine ⟨H, ?_⟩
    refine tp_neq_s ?_
    rw [beq_self_eq_true]
    (repeat (first | (with_reducible (first | refine Red.to ?_ | (refine is_rload ?_; (first | refine rv_load H rfl ?_ | refine rv_load H.up1 rfl ?_ | refine rv_load H.up2 rfl ?_ | refine rv_load H.up3 rfl ?_ | refine rv_load H.up4 rfl ?_)) | (refine is_tload ?_; (first | refine tk_load (fun _ H => H) rfl ?_ | refine tk_load (fun _ H => H.up1) rfl ?_ | refine tk_load (fun _ H => H.up2) rfl ?_ | refine tk_load (fun _ H => H.up3) rfl ?_)))) | (refine Share.mk ?_) | (intro _) | (simp only [List.getD_cons_zero, List.getD_cons_succ, Bool.not_true])))
    refine tp_len_rd0 (R.old H) ?_
    refine tp_index (by omega) (by omega) ?_
    have hc : w.cell? ⟨g0, 0 + ((bs.length : Nat) : Int).toNat * 1, none⟩ = some (.int .u8 199) := by
      have := (H.up2).sl_cells (g := g0) (cap := cap) (by rw [hlen]) bs.length (.int .u8 199) (by simp [bv])
      simpa using this
    refine rv_at hc ?_
    (repeat (first | (with_reducible (first | refine Red.to ?_ | (refine is_rload ?_; (first | refine rv_load H rfl ?_ | refine rv_load H.up1 rfl ?_ | refine rv_load H.up2 rfl ?_ | refine rv_load H.up3 rfl ?_ | refine rv_load H.up4 rfl ?_)) | (refine is_tload ?_; (first | refine tk_load (fun _ H => H) rfl ?_ | refine tk_load (fun _ H => H.up1) rfl ?_ | refine tk_load (fun _ H => H.up2) rfl ?_ | refine tk_load (fun _ H => H.up3) rfl ?_)))) | (refine Share.mk ?_) | (intro _) | (simp only [List.getD_cons_zero, List.getD_cons_succ, bne_self_eq_false])))
    exact hJ _ _ ⟨rfl, H⟩
end
end Go.Proofs.Ytdmocobabpmoeaa
