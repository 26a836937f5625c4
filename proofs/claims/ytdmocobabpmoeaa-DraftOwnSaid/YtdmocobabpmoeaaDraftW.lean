
/-
  The law's helper untouched.
-/
import Derived.Test.YtdmocobabpmoeaaDraftV
namespace Go.Proofs.Ytdmocobabpmoeaa
open Go.Vc Go.Sep Go.Ops
set_option linter.unusedVariables false
set_option linter.unusedSectionVars false
set_option linter.unusedSimpArgs false

section
variable {W w : World} {L : List HProp} {K : Value → World → Prop} {KU : World → Prop} {X : XPost}
structure RoomX (w : World) (g : GraphV) : Prop where
  rd : GRd w g
  nv : Rx w g.nv g.nodes.length 10 zNode
  ev : Rx w g.ev g.edges.length 5 zEdge
  ns : ∀ n ∈ g.nodes, Rx w n.cv n.code.length 2 zOp ∧ Rx w n.kv n.conns.length 5 zConn
theorem roomx {g : GraphV} (H : St W w (RoomG g ++ L)) : RoomX w g := by
  unfold RoomG at H
  have h1 := Rm.rx H (fl_len NodeV.len _)
  have h2 := Rm.rx (St.drop H) (fl_len EdgeD.len _)
  have H := St.drop (St.drop H)
  have key : ∀ (l : List NodeV) {M : List HProp}, St W w (RNodes l ++ M) → ∀ n ∈ l, (Rx w n.cv n.code.length 2 zOp ∧ Rd w n.cv n.code.length (fl OpD.cs n.code)) ∧ (Rx w n.kv n.conns.length 5 zConn ∧ Rd w n.kv n.conns.length (fl ConnD.cs n.conns)) := by
    intro l
    induction l with
    | nil => intro M _ n h; cases h
    | cons m r ih =>
      intro M H n h
      rcases List.mem_cons.1 h with rfl | h
      · exact ⟨Rm.rx H (fl_len OpD.len _), Rm.rx (St.drop H) (fl_len ConnD.len _)⟩
      · exact ih (St.drop (St.drop H)) n h
  have h3 := key _ H
  exact ⟨⟨.inl h1.2, .inl h2.2, fun n hn => ⟨.inl (h3 n hn).1.2, .inl (h3 n hn).2.2⟩⟩, h1.1, h2.1, fun n hn => ⟨(h3 n hn).1.1, (h3 n hn).2.1⟩⟩
theorem rv_at {t : Nat} [TCell Try.prog t] {a : Addr} {v : Value} (hc : w.cell? a = some v) (k : K v w) : RunV Try.prog (Instr.loadAt t (.pointer (some a))) w K X := rv (Ops.run_load hc) k
theorem tp_slice_e {t e s b : Nat} {z : Value} [h : TSlice Try.prog t e s b z] {v : Value} {g off n c : Nat} {i : Int} (hv : v = .slice (some ⟨g, off, none⟩) n c) (h0 : 0 ≤ i) (h1 : i ≤ c) {KT : Value → Prop} (hk : KT (.slice (some ⟨g, off, none⟩) i.toNat c)) : TakeP Try.prog (Instr.sliceAt t v none (some (.int .i64 i)) none) KT := by
  subst hv
  exact tp_slice_h' h0 h1 hk
theorem untouched_spec {g gr : GraphV} {M : List HProp} (he : gr.er = g.er) (hok : g.ok) (R : GKn W M g) (H : St W w (RoomG gr ++ M)) (k : ∀ w', St W w' (RoomG gr ++ M) → K (.bool true) w') : FCall Try.prog Fn.sluicelaw08_untouched #[.agg gr.cs.toArray, .agg g.cs.toArray] w K X := by
  refine sluicelaw08_untouched_call ?_
  unfold Sh.sluicelaw08_untouched
  have hns : gr.nodes.map NodeV.er = g.nodes.map NodeV.er := by have := congrArg GraphV.nodes he; exact this
  have hes : gr.edges = g.edges := by have := congrArg GraphV.edges he; exact this
  have hel : gr.edges.length = g.edges.length := by rw [hes]
  have hnl : gr.nodes.length = g.nodes.length := by simpa using congrArg List.length hns
  have hgk : gr.ok := er_ok.1 (he ▸ er_ok.2 hok)
  have hok' := hgk
  unfold GraphV.ok at hok'
  have RX : ∀ {w}, St W w (RoomG gr ++ M) → RoomX w gr := fun h => roomx h
  have RG : ∀ {w}, St W w (RoomG gr ++ M) → GRd w g := fun h => R _ (St.dropL h)
  generalize hM : RoomG gr ++ M = M' at H k RX RG
  refine rv_box (c := gr.cs) H rfl ?_
  clear H
  intro b2 w1 H
  refine rv_box (c := g.cs) H rfl ?_
  clear H
  intro b3 w2 H
  simp only [GraphV.cs] at H
  refine share_of (fun vs w => vs = [] ∧ St W w (cells b3 25 [.int .i64 g.ar, g.nv, g.ev] :: cells b2 25 [.int .i64 gr.ar, gr.nv, gr.ev] :: M')) ?_ ?_
  · clear H
    rintro vs w ⟨rfl, H⟩ σ
    (repeat with_reducible (first | refine Red.to ?_ | (refine is_rload ?_; (first | refine rv_load H rfl ?_ | refine rv_load H.up1 rfl ?_ | refine rv_load H.up2 rfl ?_ | refine rv_load H.up3 rfl ?_ | refine rv_load H.up4 rfl ?_))))
    refine rv_len_rd0 (RX H.drop.drop).rd.1 ?_
    refine loop_of (fun vs w => ∃ i : Nat, vs = [.int .i64 i] ∧ i ≤ gr.nodes.length ∧ St W w (cells b3 25 [.int .i64 g.ar, g.nv, g.ev] :: cells b2 25 [.int .i64 gr.ar, gr.nv, gr.ev] :: M')) (fun vs _ => match vs with | [.int _ i] => gr.nodes.length - i.toNat | _ => 0) ⟨0, rfl, by omega, H⟩ ?_
    clear H
    rintro vs w kk ⟨i, rfl, hi, H⟩ hkk σ
    simp only [List.getD_cons_zero, List.getD_cons_succ]
    (repeat with_reducible (first | refine Red.to ?_ | (refine is_rload ?_; (first | refine rv_load H rfl ?_ | refine rv_load H.up1 rfl ?_ | refine rv_load H.up2 rfl ?_ | refine rv_load H.up3 rfl ?_ | refine rv_load H.up4 rfl ?_))))
    refine cond_split (fun hc => ?_) (fun hc => ?_)
    · have hlt : i < gr.nodes.length := by have := of_decide_eq_true hc; omega
      obtain ⟨n, hn⟩ : ∃ o, gr.nodes[i]? = some o := ⟨_, List.getElem?_eq_getElem hlt⟩
      have hnm := List.mem_of_getElem? hn
      have hno := hgk.2.1 n hnm
      unfold NodeV.ok at hno
      refine share_of (fun vs w => vs = [] ∧ St W w (cells b3 25 [.int .i64 g.ar, g.nv, g.ev] :: cells b2 25 [.int .i64 gr.ar, gr.nv, gr.ev] :: M')) ?_ ?_
      · clear H
        rintro vs w ⟨rfl, H⟩ σ
        (repeat with_reducible (first | refine Red.to ?_ | (refine is_rload ?_; (first | refine rv_load H rfl ?_ | refine rv_load H.up1 rfl ?_ | refine rv_load H.up2 rfl ?_ | refine rv_load H.up3 rfl ?_ | refine rv_load H.up4 rfl ?_))))
        rw [i64_small (by omega) (by omega)]
        exact hkk _ _ ⟨i + 1, rfl, by omega, H⟩ (by simp; omega)
      intro J hJ
      obtain ⟨gg, off, cap, hv, hcell⟩ := Kn0.form (fun w h => (RX (w := w) h).rd.1) H.drop.drop (by omega)
      refine rv_row (cs := n.cs) H hv hlt (fun j v hj => hcell w H.drop.drop _ v (fl_get NodeV.len _ i j n v hn hj)) (by rfl) (by rfl) (NodeV.one ((RX H.drop.drop).rd.2.2 n hnm)) ?_
      clear H
      intro b6 w3 H
      simp only [NodeV.cs] at H
      obtain ⟨⟨g1, cap1, hv1, hcap1, -⟩, ⟨g2, cap2, hv2, hcap2, -⟩⟩ := (RX H.drop.drop.drop).ns n hnm
      replace H := H.drew
      refine ⟨fun w => St W w (cells b6 59 [.int .i64 n.kd, .int .i64 n.ins, .int .i64 n.outs, n.cv, .int .u64 n.a, .int .u64 n.b, .int .u64 n.c, .int .u64 n.bd, n.kv, .bool n.st] :: cells b3 25 [.int .i64 g.ar, g.nv, g.ev] :: cells b2 25 [.int .i64 gr.ar, gr.nv, gr.ev] :: M'), H, ?_⟩
      have XC := (RX H.drop.drop.drop).ns n hnm
      rw [hv1, hv2] at XC
      obtain ⟨⟨g1', cap1', e1, -, hc1⟩, ⟨g2', cap2', e2, -, hc2⟩⟩ := XC
      simp only [Value.slice.injEq, Option.some.injEq, Addr.mk.injEq, and_true, true_and] at e1 e2
      obtain ⟨rfl, rfl⟩ := e1
      obtain ⟨rfl, rfl⟩ := e2
      rw [hv1, hv2] at H ⊢
      (repeat with_reducible (first | refine Red.to ?_ | (refine is_tload ?_; (first | refine tk_load (fun _ H => H) rfl ?_ | refine tk_load (fun _ H => H.up1) rfl ?_ | refine tk_load (fun _ H => H.up2) rfl ?_ | refine tk_load (fun _ H => H.up3) rfl ?_))))
      rw [i64_small (by omega) (by omega)]
      refine tp_slice_h' (by omega) (by omega) ?_
      (repeat with_reducible (first | refine Red.to ?_ | (refine is_rload ?_; (first | refine rv_load H rfl ?_ | refine rv_load H.up1 rfl ?_ | refine rv_load H.up2 rfl ?_ | refine rv_load H.up3 rfl ?_ | refine rv_load H.up4 rfl ?_))))
      first | refine keep_same (H) ?_ | refine ⟨H, ?_⟩
      (repeat with_reducible (first | refine Red.to ?_ | (refine is_tload ?_; (first | refine tk_load (fun _ H => H) rfl ?_ | refine tk_load (fun _ H => H.up1) rfl ?_ | refine tk_load (fun _ H => H.up2) rfl ?_ | refine tk_load (fun _ H => H.up3) rfl ?_))))
      refine tp_index (by omega) (by omega) ?_
      (repeat with_reducible (first | refine Red.to ?_ | (refine is_tload ?_; (first | refine tk_load (fun _ H => H) rfl ?_ | refine tk_load (fun _ H => H.up1) rfl ?_ | refine tk_load (fun _ H => H.up2) rfl ?_ | refine tk_load (fun _ H => H.up3) rfl ?_))))
      refine rv_at (v := .int .i64 (-77)) (by simpa using hc1 0 _ rfl) ?_
      first | refine keep_same (H) ?_ | refine ⟨H, ?_⟩
      (repeat (first | (with_reducible (first | refine Red.to ?_ | (refine is_rload ?_; (first | refine rv_load H rfl ?_ | refine rv_load H.up1 rfl ?_ | refine rv_load H.up2 rfl ?_ | refine rv_load H.up3 rfl ?_ | refine rv_load H.up4 rfl ?_)) | (refine is_tload ?_; (first | refine tk_load (fun _ H => H) rfl ?_ | refine tk_load (fun _ H => H.up1) rfl ?_ | refine tk_load (fun _ H => H.up2) rfl ?_ | refine tk_load (fun _ H => H.up3) rfl ?_)))) | (refine Share.mk ?_) | (intro _) | (simp only [List.getD_cons_zero, List.getD_cons_succ, bne_self_eq_false])))
      rw [i64_small (by omega) (by omega)]
      refine tp_slice_h' (by omega) (by omega) ?_
      (repeat with_reducible (first | refine Red.to ?_ | (refine is_rload ?_; (first | refine rv_load H rfl ?_ | refine rv_load H.up1 rfl ?_ | refine rv_load H.up2 rfl ?_ | refine rv_load H.up3 rfl ?_ | refine rv_load H.up4 rfl ?_))))
      first | refine keep_same (H) ?_ | refine ⟨H, ?_⟩
      (repeat with_reducible (first | refine Red.to ?_ | (refine is_tload ?_; (first | refine tk_load (fun _ H => H) rfl ?_ | refine tk_load (fun _ H => H.up1) rfl ?_ | refine tk_load (fun _ H => H.up2) rfl ?_ | refine tk_load (fun _ H => H.up3) rfl ?_))))
      refine tp_index (by omega) (by omega) ?_
      (repeat with_reducible (first | refine Red.to ?_ | (refine is_tload ?_; (first | refine tk_load (fun _ H => H) rfl ?_ | refine tk_load (fun _ H => H.up1) rfl ?_ | refine tk_load (fun _ H => H.up2) rfl ?_ | refine tk_load (fun _ H => H.up3) rfl ?_))))
      refine rv_at (v := .int .i64 (-77)) (by simpa using hc2 0 _ rfl) ?_
      (repeat (first | (with_reducible (first | refine Red.to ?_ | (refine is_rload ?_; (first | refine rv_load H rfl ?_ | refine rv_load H.up1 rfl ?_ | refine rv_load H.up2 rfl ?_ | refine rv_load H.up3 rfl ?_ | refine rv_load H.up4 rfl ?_)) | (refine is_tload ?_; (first | refine tk_load (fun _ H => H) rfl ?_ | refine tk_load (fun _ H => H.up1) rfl ?_ | refine tk_load (fun _ H => H.up2) rfl ?_ | refine tk_load (fun _ H => H.up3) rfl ?_)))) | (refine Share.mk ?_) | (intro _) | (simp only [List.getD_cons_zero, List.getD_cons_succ, bne_self_eq_false])))
      exact hJ _ _ ⟨rfl, H.drop⟩
    · exact k _ H.drop.drop
  intro J hJ
  replace H := H.drew
  refine ⟨fun w => St W w (cells b3 25 [.int .i64 g.ar, g.nv, g.ev] :: cells b2 25 [.int .i64 gr.ar, gr.nv, gr.ev] :: M'), H, ?_⟩
  refine tk_loada (fun _ h => h.up1) (cs := gr.cs) rfl rfl ?_
  refine rv_loada H (cs := g.cs) rfl rfl ?_
  first | refine keep_same (H) ?_ | refine ⟨H, ?_⟩
  refine same_spec (g := gr) (h := g) he (fun w h => (RX h.drop.drop).rd) (fun w h => RG h.drop.drop) hgk H ?_
  clear H
  intro w3 H
  first | refine keep_same (H) ?_ | refine ⟨H, ?_⟩
  refine tp_not_t ?_
  obtain ⟨g1, cap1, hv1, hcap1, -⟩ := (RX H.drop.drop).nv
  obtain ⟨g2, cap2, hv2, hcap2, -⟩ := (RX H.drop.drop).ev
  have XC : ∀ {w}, St W w M' → (∀ j u, zNode[j]? = some u → w.cell? ⟨g1, gr.nodes.length * 10 + j, none⟩ = some u) ∧ (∀ j u, zEdge[j]? = some u → w.cell? ⟨g2, gr.edges.length * 5 + j, none⟩ = some u) := by
    intro w h
    obtain ⟨g1', cap1', e1, -, hc1⟩ := (RX h).nv
    obtain ⟨g2', cap2', e2, -, hc2⟩ := (RX h).ev
    rw [hv1] at e1
    rw [hv2] at e2
    simp only [Value.slice.injEq, Option.some.injEq, Addr.mk.injEq, and_true, true_and] at e1 e2
    obtain ⟨rfl, rfl⟩ := e1
    obtain ⟨rfl, rfl⟩ := e2
    exact ⟨hc1, hc2⟩
  refine share_of (fun vs w => vs = [.bool false] ∧ St W w (cells b3 25 [.int .i64 g.ar, g.nv, g.ev] :: cells b2 25 [.int .i64 gr.ar, gr.nv, gr.ev] :: M')) ?_ ?_
  · clear H
    rintro vs w ⟨rfl, H⟩ σ
    simp only [List.getD_cons_zero]
    refine pick_to (v := .bool false) rfl ?_
    refine guard_ff ?_
    have RGw := RG H.drop.drop
    (repeat with_reducible (first | refine Red.to ?_ | (refine is_tload ?_; (first | refine tk_load (fun _ H => H) rfl ?_ | refine tk_load (fun _ H => H.up1) rfl ?_ | refine tk_load (fun _ H => H.up2) rfl ?_ | refine tk_load (fun _ H => H.up3) rfl ?_))))
    refine tp_len_rd0 RGw.2.1 ?_
    (repeat with_reducible (first | refine Red.to ?_ | (refine is_tload ?_; (first | refine tk_load (fun _ H => H) rfl ?_ | refine tk_load (fun _ H => H.up1) rfl ?_ | refine tk_load (fun _ H => H.up2) rfl ?_ | refine tk_load (fun _ H => H.up3) rfl ?_))))
    rw [i64_small (by omega) (by omega)]
    refine tp_slice_e hv2 (by omega) (by omega) ?_
    (repeat with_reducible (first | refine Red.to ?_ | (refine is_rload ?_; (first | refine rv_load H rfl ?_ | refine rv_load H.up1 rfl ?_ | refine rv_load H.up2 rfl ?_ | refine rv_load H.up3 rfl ?_ | refine rv_load H.up4 rfl ?_))))
    first | refine keep_same (H) ?_ | refine ⟨H, ?_⟩
    refine tp_len_rd0 RGw.2.1 ?_
    refine tp_index (by omega) (by omega) ?_
    (repeat with_reducible (first | refine Red.to ?_ | (refine is_tload ?_; (first | refine tk_load (fun _ H => H) rfl ?_ | refine tk_load (fun _ H => H.up1) rfl ?_ | refine tk_load (fun _ H => H.up2) rfl ?_ | refine tk_load (fun _ H => H.up3) rfl ?_))))
    refine rv_at (v := .int .i64 (-77)) (by simpa [hes] using (XC H.drop.drop).2 0 _ rfl) ?_
    (repeat (first | (with_reducible (first | refine Red.to ?_ | (refine is_rload ?_; (first | refine rv_load H rfl ?_ | refine rv_load H.up1 rfl ?_ | refine rv_load H.up2 rfl ?_ | refine rv_load H.up3 rfl ?_ | refine rv_load H.up4 rfl ?_)) | (refine is_tload ?_; (first | refine tk_load (fun _ H => H) rfl ?_ | refine tk_load (fun _ H => H.up1) rfl ?_ | refine tk_load (fun _ H => H.up2) rfl ?_ | refine tk_load (fun _ H => H.up3) rfl ?_)))) | (refine Share.mk ?_) | (intro _) | (simp only [List.getD_cons_zero, List.getD_cons_succ, bne_self_eq_false])))
    exact hJ _ _ ⟨rfl, H⟩
  intro J2 hJ2
  refine guard_ff ?_
  have RGw := RG H.drop.drop
  (repeat with_reducible (first | refine Red.to ?_ | (refine is_tload ?_; (first | refine tk_load (fun _ H => H) rfl ?_ | refine tk_load (fun _ H => H.up1) rfl ?_ | refine tk_load (fun _ H => H.up2) rfl ?_ | refine tk_load (fun _ H => H.up3) rfl ?_))))
  refine tp_len_rd0 RGw.1 ?_
  (repeat with_reducible (first | refine Red.to ?_ | (refine is_tload ?_; (first | refine tk_load (fun _ H => H) rfl ?_ | refine tk_load (fun _ H => H.up1) rfl ?_ | refine tk_load (fun _ H => H.up2) rfl ?_ | refine tk_load (fun _ H => H.up3) rfl ?_))))
  rw [i64_small (by omega) (by omega)]
  refine tp_slice_e hv1 (by omega) (by omega) ?_
  (repeat with_reducible (first | refine Red.to ?_ | (refine is_rload ?_; (first | refine rv_load H rfl ?_ | refine rv_load H.up1 rfl ?_ | refine rv_load H.up2 rfl ?_ | refine rv_load H.up3 rfl ?_ | refine rv_load H.up4 rfl ?_))))
  refine ⟨H, ?_⟩
  refine tp_len_rd0 RGw.1 ?_
  refine tp_index (by omega) (by omega) ?_
  (repeat with_reducible (first | refine Red.to ?_ | (refine is_tload ?_; (first | refine tk_load (fun _ H => H) rfl ?_ | refine tk_load (fun _ H => H.up1) rfl ?_ | refine tk_load (fun _ H => H.up2) rfl ?_ | refine tk_load (fun _ H => H.up3) rfl ?_))))
  refine rv_at (v := .int .i64 (-77)) (by simpa [hnl] using (XC H.drop.drop).1 0 _ rfl) ?_
  refine ⟨H, ?_⟩
  (repeat (first | (with_reducible (first | refine Red.to ?_ | (refine is_rload ?_; (first | refine rv_load H rfl ?_ | refine rv_load H.up1 rfl ?_ | refine rv_load H.up2 rfl ?_ | refine rv_load H.up3 rfl ?_ | refine rv_load H.up4 rfl ?_)) | (refine is_tload ?_; (first | refine tk_load (fun _ H => H) rfl ?_ | refine tk_load (fun _ H => H.up1) rfl ?_ | refine tk_load (fun _ H => H.up2) rfl ?_ | refine tk_load (fun _ H => H.up3) rfl ?_)))) | (refine Share.mk ?_) | (intro _) | (simp only [List.getD_cons_zero, List.getD_cons_succ, bne_self_eq_false])))
  exact hJ2 _ _ ⟨rfl, H⟩
end
end Go.Proofs.Ytdmocobabpmoeaa
