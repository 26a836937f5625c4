/-
  WireBack: the walk of the law.
-/
import Derived.Test.YtpfbpjoknlcbkaaWireU
namespace Go.Proofs.Ytpfbpjoknlcbkaa
open Go.Vc Go.Sep Go.Ops
set_option linter.unusedVariables false
set_option linter.unusedSectionVars false
set_option linter.unusedSimpArgs false

section
variable {W w : World} {L : List HProp} {K : Value → World → Prop} {KU : World → Prop} {X : XPost}
theorem back_spec {a : Value} {sh : Int} {ops : List OpV} {B : OpV → List UInt8} (R3 : Rd W a ops.length (flat ops)) (hok : ∀ o ∈ ops, o.ok) (hB : ∀ o ∈ ops, Rd0 W o.b (B o).length (bv (B o)))
    (hl3 : ops.length ≤ 1048576) (hsh : -9223372036854775808 ≤ sh ∧ sh < 9223372036854775808) (H : St W w L)
    (k : ∀ w', St W w' L → K (.bool true) w') : FCall Try.prog Fn.sluicelaw07_WireBack #[a, .int .i64 sh] w K X := by
  refine sluicelaw07_WireBack_call ?_
  unfold Sh.sluicelaw07_WireBack
  have hcat := pos_le B ops hok ops.length
  rw [pos_all] at hcat
  have hcat2 : (cat B ops).length ≤ 100000000000 := Nat.le_trans hcat (Nat.le_trans (Nat.mul_le_mul_right 65546 hl3) (by decide))
  refine taken_spec H ?_
  clear H
  intro w1 H
  (repeat with_reducible (first | refine Red.to ?_ | (refine is_rload ?_; (first | refine rv_load H rfl ?_ | refine rv_load H.up1 rfl ?_ | refine rv_load H.up2 rfl ?_ | refine rv_load H.up3 rfl ?_ | refine rv_load H.up4 rfl ?_))))
  refine puts_spec R3 hok hB hl3 H ?_
  clear H
  intro y ev w2 H
  (repeat with_reducible (first | refine Red.to ?_ | (refine is_rload ?_; (first | refine rv_load H rfl ?_ | refine rv_load H.up1 rfl ?_ | refine rv_load H.up2 rfl ?_ | refine rv_load H.up3 rfl ?_ | refine rv_load H.up4 rfl ?_))))
  refine rv_len_rd H.up1.rd ?_
  refine rv_len_rd (R3.old H) ?_
  (repeat (first | (with_reducible (first | refine Red.to ?_ | (refine is_rload ?_; (first | refine rv_load H rfl ?_ | refine rv_load H.up1 rfl ?_ | refine rv_load H.up2 rfl ?_ | refine rv_load H.up3 rfl ?_ | refine rv_load H.up4 rfl ?_)) | (refine is_tload ?_; (first | refine tk_load (fun _ H => H) rfl ?_ | refine tk_load (fun _ H => H.up1) rfl ?_ | refine tk_load (fun _ H => H.up2) rfl ?_ | refine tk_load (fun _ H => H.up3) rfl ?_)))) | (refine Share.mk ?_) | (intro _) | (simp only [List.getD_cons_zero, List.getD_cons_succ, bne_self_eq_false])))
  refine NewReader_spec H Kn.here (by omega) ?_
  clear H
  intro r w3 H
  (repeat with_reducible (first | refine Red.to ?_ | (refine is_rload ?_; (first | refine rv_load H rfl ?_ | refine rv_load H.up1 rfl ?_ | refine rv_load H.up2 rfl ?_ | refine rv_load H.up3 rfl ?_ | refine rv_load H.up4 rfl ?_))))
  have opx : ∀ {i : Nat}, i < ops.length → ∃ o, ops[i]? = some o ∧ o.ok ∧ Rd0 W o.b (B o).length (bv (B o)) := fun {i} h =>
    ⟨_, List.getElem?_eq_getElem h, hok _ (List.getElem_mem h), hB _ (List.getElem_mem h)⟩
  have evx : ∀ {i : Nat}, i < ops.length → (ends B ops ops.length)[i]? = some (Value.int .i64 (pos B ops (i + 1) : Nat)) := fun {i} h => ends_get B ops h
  have posx : ∀ {i : Nat}, i ≤ ops.length → pos B ops i ≤ (cat B ops).length := fun {i} h => by rw [← pos_all]; exact pos_mono B ops h
  have form3 : 0 < ops.length → ∃ g off cap, a = .slice (some ⟨g, off, none⟩) ops.length cap := fun h => by
    rcases R3 with ⟨_, h0, _⟩ | ⟨g3, off, cap3, h1, _, _⟩
    · omega
    · exact ⟨g3, off, cap3, h1⟩
  have ld3 : ∀ {g off cap i : Nat} {o : OpV} {w : World} {L' : List HProp}, a = .slice (some ⟨g, off, none⟩) ops.length cap → ops[i]? = some o → St W w L' → (Instr.loadAt 37 (.pointer (some ⟨g, off + i * 5, none⟩))).run Try.prog w = .ok (.agg o.cs.toArray) w := by
    intro g off cap i o w L' ha ho H
    subst ha
    refine run_load_agg (cs := o.cs) rfl ?_
    intro j v hj
    have e : Addr.add ⟨g, off + i * 5, none⟩ j = ⟨g, off + i * 5 + j, none⟩ := by by_cases h : j = 0 <;> simp [Addr.add, h]
    rw [e]
    exact op_cell (v := .nilIface) (R3.old H) ho hj
  have formE : ∀ {w : World} {L' : List HProp}, St W w (Es ev ops.length (ends B ops ops.length) :: L') → 0 < ops.length → ∃ g cap, ev = .slice (some ⟨g, 0, none⟩) ops.length cap := by
    intro w L' H h
    rcases H.sl_form.2 with ⟨_, h0⟩ | ⟨g, cap, h1, _, _⟩
    · omega
    · exact ⟨g, cap, h1⟩
  have ldE : ∀ {g cap i : Nat} {w : World} {L' : List HProp}, ev = .slice (some ⟨g, 0, none⟩) ops.length cap → i < ops.length → St W w (Es ev ops.length (ends B ops ops.length) :: L') → (Instr.loadAt 3 (.pointer (some ⟨g, i, none⟩))).run Try.prog w = .ok (.int .i64 (pos B ops (i + 1) : Nat)) w := by
    intro g cap i w L' he hi H
    exact Ops.run_load (H.sl_cells (g := g) (cap := cap) he i _ (evx hi))
  have ei5 : ∀ {off i : Nat}, off + ((i : Nat) : Int).toNat * 5 = off + i * 5 := by intro off i; simp
  have ei1 : ∀ {i : Nat}, 0 + ((i : Nat) : Int).toNat * 1 = i := by intro i; simp
  refine share_of (fun vs w => vs = [] ∧ St W w (Rr r 0 (cat B ops) (cat B ops).length :: Bs y (cat B ops) :: Es ev ops.length (ends B ops ops.length) :: L)) ?_ ?_
  · clear H
    rintro vs w ⟨rfl, H⟩ σ
    refine REnd_spec H ?_
    clear H
    intro w4 H
    rw [if_neg (by simp)] at H
    refine RErr_spec H ?_
    refine rv_neq ?_
    refine cond_false' ?_
    refine share_of (fun vs w => vs = [] ∧ 0 ≤ sh ∧ sh < (cat B ops).length ∧ St W w (Rr r 0 (cat B ops) (cat B ops).length :: Bs y (cat B ops) :: Es ev ops.length (ends B ops ops.length) :: L)) ?_ ?_
    · clear H
      rintro vs w ⟨rfl, h0, h1, H⟩ σ
      obtain ⟨s, rfl⟩ := Int.eq_ofNat_of_zero_le h0
      have h1 : s < (cat B ops).length := by omega
      rcases H.up1.sl_form.2 with ⟨_, hz⟩ | ⟨gy, capy, rfl, hn, _⟩
      · omega
      refine rv_slice_h' (by omega) (by omega) ?_
      have et : ((s : Nat) : Int).toNat = s := by simp
      rw [et]
      have hts : ((cat B ops).take s).length = s := by simp; omega
      refine NewReader_spec (bs := (cat B ops).take s) H ?_ (by omega) ?_
      · intro w' h
        have := Rd_take (v := .nilIface) h.up1.rd (n := s) (by omega)
        rw [hts]
        simpa [bv, List.map_take] using this
      clear H
      intro p w5 H
      refine share_of (fun vs w => vs = [] ∧ ∃ i, pos B ops i ≤ s ∧ i < ops.length ∧ s < pos B ops (i + 1) ∧ St W w (Es ev ops.length (ends B ops ops.length) :: Rr p 0 ((cat B ops).take s) (pos B ops i) :: L)) ?_ ?_
      · clear H
        rintro vs w ⟨rfl, i, hi0, hi1, hi2, H⟩ σ
        obtain ⟨g3, off, cap3, ha⟩ := form3 (by omega)
        obtain ⟨ge, cape, hev⟩ := formE H (by omega)
        refine loop_of (fun vs w => ∃ (j : Nat), vs = [.int .i64 j] ∧ j ≤ i ∧ St W w (Es ev ops.length (ends B ops ops.length) :: Rr p 0 ((cat B ops).take s) (pos B ops i) :: L))
          (fun vs _ => match vs with | [.int _ j] => i - j.toNat | _ => 0) ⟨0, rfl, by omega, H⟩ ?_
        clear H
        rintro vs w kk ⟨j, rfl, hj, H⟩ hkk σ
        simp only [List.getD_cons_zero, List.getD_cons_succ]
        refine rv_len_rd (R3.old H) ?_
        refine rv_lss ?_
        rw [decide_eq_true (by omega)]
        refine cond_true' ?_
        rw [hev]
        refine rv_index (by omega) (by omega) ?_
        rw [ei1]
        refine rv (ldE hev (by omega) H) ?_
        refine rv_gtr ?_
        refine cond_split (fun h => ?_) (fun h => ?_)
        · have h : s < pos B ops (j + 1) := by have := of_decide_eq_true h; omega
          have hji : j = i := by
            refine Classical.byContradiction fun hne => ?_
            have := pos_mono B ops (i := j + 1) (j := i) (by omega)
            omega
          subst hji
          obtain ⟨o, ho, hoo, Rx⟩ := opx hi1
          rw [ha]
          refine rv_index (by omega) (by omega) ?_
          rw [ei5]
          refine rv (ld3 ha ho H) ?_
          refine got_spec (xs := B o) Rx H.up1 ?_
          clear H
          intro w6 H
          have hps := pos_succ B ho
          rw [got_short hoo (m := s - pos B ops j) (by rw [cat_short B ho hi0, List.take_append_of_le_length (by omega)]) (by omega)] at H
          refine RErr_spec H ?_
          refine rv_eql ?_
          exact k _ H.drop.drop
        · have h : ¬ s < pos B ops (j + 1) := by have := of_decide_eq_false h; omega
          have hji : j ≠ i := by rintro rfl; exact h hi2
          refine rv_add ?_
          rw [i64_small (by omega) (by omega)]
          exact hkk _ _ ⟨j + 1, rfl, by omega, H⟩ (by simp; omega)
      intro J hJ
      refine loop_of (fun vs w => ∃ (i : Nat), vs = [.int .i64 i] ∧ i ≤ ops.length ∧ pos B ops i ≤ s ∧ St W w (Es ev ops.length (ends B ops ops.length) :: Rr p 0 ((cat B ops).take s) (pos B ops i) :: L))
        (fun vs _ => match vs with | [.int _ j] => ops.length - j.toNat | _ => 0) ⟨0, rfl, by omega, by simp [pos, cat], ?_⟩ ?_
      · have e0 : pos B ops 0 = 0 := by simp [pos, cat]
        rw [e0]
        exact H.up1.drop.up1.drop.up1
      clear H
      rintro vs w kk ⟨i, rfl, hi, hps, H⟩ hkk σ
      simp only [List.getD_cons_zero, List.getD_cons_succ]
      refine share_of (fun vs w => vs = [] ∧ i < ops.length ∧ pos B ops (i + 1) ≤ s ∧ St W w (Es ev ops.length (ends B ops ops.length) :: Rr p 0 ((cat B ops).take s) (pos B ops i) :: L)) ?_ ?_
      · clear H
        rintro vs w ⟨rfl, hi1, hi2, H⟩ σ
        obtain ⟨g3, off, cap3, ha⟩ := form3 (by omega)
        obtain ⟨o, ho, hoo, Rx⟩ := opx hi1
        have hpp := pos_succ B ho
        refine share_of (fun vs w => vs = [] ∧ St W w (Es ev ops.length (ends B ops ops.length) :: Rr p 0 ((cat B ops).take s) (pos B ops (i + 1)) :: L)) ?_ ?_
        · clear H
          rintro vs w ⟨rfl, H⟩ σ
          refine rv_add ?_
          rw [i64_small (by omega) (by omega)]
          exact hkk _ _ ⟨i + 1, rfl, by omega, hi2, H⟩ (by simp; omega)
        intro J2 hJ2
        rw [ha]
        refine rv_index (by omega) (by omega) ?_
        rw [ei5]
        refine rv (ld3 ha ho H) ?_
        refine got_spec (xs := B o) Rx H.up1 ?_
        clear H
        intro w6 H
        have hg := got_back (rest := (cat B (ops.drop (i + 1))).take (s - pos B ops (i + 1))) (xs := B o) (bs := (cat B ops).take s) (at_ := pos B ops i) hoo (by
          rw [cat_short B ho hps, List.take_append, List.take_of_length_le (by omega)]
          congr 2
          omega)
        rw [hg] at H ⊢
        refine rv_not_t ?_
        refine guard_ff ?_
        refine RErr_spec H ?_
        refine rv_neq ?_
        refine pick_f ?_
        refine cond_false' ?_
        refine hJ2 _ _ ⟨rfl, ?_⟩
        rw [hpp]
        exact H.up1
      intro J2 hJ2
      refine rv_len_rd (R3.old H) ?_
      refine rv_lss ?_
      refine guard_split (fun h => ?_) (fun h => ?_)
      · rw [h]
        have hi1 : i < ops.length := by have := of_decide_eq_true h; omega
        obtain ⟨ge, cape, hev⟩ := formE H (by omega)
        rw [hev]
        refine rv_index (by omega) (by omega) ?_
        rw [ei1]
        refine rv (ldE hev (by omega) H) ?_
        refine rv_leq ?_
        refine pick_t ?_
        refine cond_split (fun h => ?_) (fun h => ?_)
        · exact hJ2 _ _ ⟨rfl, hi1, by have := of_decide_eq_true h; omega, H⟩
        · exact hJ _ _ ⟨rfl, i, hps, hi1, by have := of_decide_eq_false h; omega, H⟩
      · exfalso
        have : i = ops.length := by have := of_decide_eq_false h; omega
        subst this
        rw [pos_all] at hps
        omega
    · intro J hJ
      refine rv_lss ?_
      refine guard_split (fun h => ?_) (fun h => ?_)
      · rw [h]
        have h0 : 0 ≤ sh := by have := of_decide_eq_false h; omega
        refine rv_len_rd H.up1.rd ?_
        refine rv_geq ?_
        refine pick_f ?_
        refine cond_split (fun h => ?_) (fun h => ?_)
        · exact k _ H.drop.drop.drop
        · exact hJ _ _ ⟨rfl, h0, by have := of_decide_eq_false h; omega, H⟩
      · have h : decide (sh < 0) = true := h
        rw [h]
        refine pick_t ?_
        refine cond_true' ?_
        exact k _ H.drop.drop.drop
  · intro J hJ
    refine loop_of (fun vs w => ∃ (i : Nat), vs = [.int .i64 i] ∧ i ≤ ops.length ∧ St W w (Es ev ops.length (ends B ops ops.length) :: Rr r 0 (cat B ops) (pos B ops i) :: Bs y (cat B ops) :: L))
      (fun vs _ => match vs with | [.int _ j] => ops.length - j.toNat | _ => 0) ⟨0, rfl, by omega, ?_⟩ ?_
    · have e0 : pos B ops 0 = 0 := by simp [pos, cat]
      rw [e0]
      exact H.up2
    clear H
    rintro vs w kk ⟨i, rfl, hi, H⟩ hkk σ
    simp only [List.getD_cons_zero, List.getD_cons_succ]
    refine rv_len_rd (R3.old H) ?_
    refine rv_lss ?_
    refine cond_split (fun h => ?_) (fun h => ?_)
    · have hi1 : i < ops.length := by have := of_decide_eq_true h; omega
      obtain ⟨g3, off, cap3, ha⟩ := form3 (by omega)
      obtain ⟨o, ho, hoo, Rx⟩ := opx hi1
      have hpp := pos_succ B ho
      have hpl := posx (i := i + 1) (by omega)
      obtain ⟨ge, cape, hev⟩ := formE H (by omega)
      refine share_of (fun vs w => vs = [] ∧ St W w (Es ev ops.length (ends B ops ops.length) :: Rr r 0 (cat B ops) (pos B ops (i + 1)) :: Bs y (cat B ops) :: L)) ?_ ?_
      · clear H
        rintro vs w ⟨rfl, H⟩ σ
        refine rv_add ?_
        rw [i64_small (by omega) (by omega)]
        exact hkk _ _ ⟨i + 1, rfl, by omega, H⟩ (by simp; omega)
      intro J2 hJ2
      replace H := H.drew
      refine ⟨fun w => St W w [Es ev ops.length (ends B ops ops.length)], St.head H, ?_⟩
      rw [ha]
      refine tp_index (by omega) (by omega) ?_
      rw [ei5]
      refine rv (ld3 ha ho H) ?_
      first | refine keep_same (St.head H) ?_ | refine ⟨St.head H, ?_⟩
      refine got_spec (xs := B o) Rx H.up1 ?_
      clear H
      intro w6 H
      rw [got_back (rest := cat B (ops.drop (i + 1))) hoo (cat_drop B ho)] at H ⊢
      first | refine keep_same (St.head H.up1) ?_ | refine ⟨St.head H.up1, ?_⟩
      refine tp_not_t ?_
      refine share_of (fun vs w => vs = [.bool false] ∧ St W w (Rr r 0 (cat B ops) (pos B ops (i + 1)) :: Es ev ops.length (ends B ops ops.length) :: Bs y (cat B ops) :: L)) ?_ ?_
      · clear H
        rintro vs w ⟨rfl, H⟩ σ
        simp only [List.getD_cons_zero, List.getD_cons_succ]
        refine pick_f ?_
        refine guard_ff ?_
        rw [hev]
        refine tp_index (by omega) (by omega) ?_
        rw [ei1, ← hev]
        refine tk (fun w h => ldE hev (by omega) h) ?_
        refine RAt_spec H ?_
        first | refine keep_same (St.head H.up1) ?_ | refine ⟨St.head H.up1, ?_⟩
        refine tp_neq ?_
        rw [bne_self_eq_false]
        refine pick_f ?_
        refine cond_false' ?_
        exact hJ2 _ _ ⟨rfl, H.up1⟩
      · intro J3 hJ3
        refine guard_ff ?_
        refine RErr_spec H ?_
        refine ⟨St.head H.up1, ?_⟩
        refine tp_neq ?_
        refine hJ3 _ _ ⟨rfl, ?_⟩
        rw [hpp]
        exact H
    · have hi1 : i = ops.length := by have := of_decide_eq_false h; omega
      subst hi1
      rw [pos_all] at H
      exact hJ _ _ ⟨rfl, H.dn2⟩
end
end Go.Proofs.Ytpfbpjoknlcbkaa
