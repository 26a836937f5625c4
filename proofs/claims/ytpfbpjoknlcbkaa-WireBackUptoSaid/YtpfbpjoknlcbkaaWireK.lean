/-
  WireReads: the walk of the law.
-/
import Derived.Test.YtpfbpjoknlcbkaaWireJ
namespace Go.Proofs.Ytpfbpjoknlcbkaa
open Go.Vc Go.Sep Go.Ops
set_option linter.unusedVariables false
set_option linter.unusedSectionVars false
set_option linter.unusedSimpArgs false

structure OpV where
  kd : Int
  two : Bool
  vv : Nat
  nn : Int
  b : Value
def OpV.cs (o : OpV) : List Value := [.int .i64 o.kd, .bool o.two, .int .u64 o.vv, .int .i64 o.nn, o.b]
def OpV.ok (o : OpV) : Prop := o.vv < 18446744073709551616 ∧ -9223372036854775808 ≤ o.nn ∧ o.nn < 9223372036854775808
def flat (ops : List OpV) : List Value := ops.flatMap OpV.cs
theorem flat_get : ∀ (ops : List OpV) (i j : Nat) (o : OpV), ops[i]? = some o → j < 5 → (flat ops)[i * 5 + j]? = o.cs[j]?
  | [], i, j, o, h, _ => by simp at h
  | p :: r, 0, j, o, h, hj => by
    simp only [List.getElem?_cons_zero, Option.some.injEq] at h
    subst h
    simp only [flat, List.flatMap_cons, Nat.zero_mul, Nat.zero_add]
    rw [List.getElem?_append_left (by simpa [OpV.cs] using hj)]
  | p :: r, i + 1, j, o, h, hj => by
    have ih := flat_get r i j o (by simpa using h) hj
    simp only [flat, List.flatMap_cons] at ih ⊢
    rw [List.getElem?_append_right (by simp [OpV.cs]; omega)]
    have e : (i + 1) * 5 + j - p.cs.length = i * 5 + j := by simp [OpV.cs]; omega
    rw [e]
    exact ih

section
variable {W w : World} {L : List HProp} {K : Value → World → Prop} {KU : World → Prop} {X : XPost}
theorem run_load_agg {t n : Nat} [h : TAgg Try.prog t n] {a : Addr} {cs : List Value} (hn : cs.length = n) (hc : ∀ j v, cs[j]? = some v → w.cell? (a.add j) = some v) : (Instr.loadAt t (.pointer (some a))).run Try.prog w = .ok (.agg cs.toArray) w := by
  subst hn
  have := run_loadCells_list (P := Try.prog) w a cs hc
  simp [Instr.loadAt, Instr.sureAddr, loadVar, Sem.run_bind, h.run_isAgg, run_sizeOf' h.size, this]
/-- An operation of the script: one of its cells. -/
theorem op_cell {v : Value} {ops : List OpV} {g off cap i : Nat} {o : OpV} (R : Rd w (.slice (some ⟨g, off, none⟩) ops.length cap) ops.length (flat ops)) (hi : ops[i]? = some o) {j : Nat} {u : Value} (hu : o.cs[j]? = some u) : w.cell? ⟨g, off + i * 5 + j, none⟩ = some u := by
  have hj : j < 5 := by have := (List.getElem?_eq_some_iff.1 hu).1; simpa [OpV.cs] using this
  have := cell_at (v := v) R (j := i * 5 + j) (u := u) (by rw [flat_get ops i j o hi hj]; exact hu)
  rw [Nat.add_assoc]; exact this

theorem xor_bounds {a b : Int} : 0 ≤ bitsOf .xor .u8 a b ∧ bitsOf .xor .u8 a b < 256 := by
  have h : bitsOf .xor .u8 a b = IntKind.u8.wrap ((BitVec.ofInt 8 a ^^^ BitVec.ofInt 8 b).toNat : Int) := rfl
  rw [h]
  simp only [IntKind.wrap, IntKind.bits, IntKind.signed]
  simp
  omega
theorem view_rd {g cap : Nat} {bs tl : List UInt8} (H : St W w (Bs (.slice (some ⟨g, 0, none⟩) (bs.length + tl.length) cap) (bs ++ tl) :: L)) : Rd w (.slice (some ⟨g, 0, none⟩) bs.length cap) bs.length (bv bs) := by
  have hr := H.rd
  simp only [List.length_append] at hr
  have := Rd_take (v := .nilIface) hr (n := bs.length) (by omega)
  rw [bv_append, List.take_append_of_le_length (by simp [bv]), List.take_of_length_le (by simp [bv])] at this
  exact this

theorem wreads_spec {a1 a2 a3 : Value} {b1 b2 : List UInt8} {ops : List OpV} (R1 : Rd W a1 b1.length (bv b1)) (R2 : Rd W a2 b2.length (bv b2)) (R3 : Rd W a3 ops.length (flat ops)) (hok : ∀ o ∈ ops, o.ok)
    (hl1 : b1.length ≤ 140737488351232) (hl2 : b2.length ≤ 140737488351232) (hl3 : ops.length ≤ 3900000000000) (H : St W w L)
    (k : ∀ w', St W w' L → K (.bool true) w') : FCall Try.prog Fn.sluicelaw07_WireReads #[a1, a2, a3] w K X := by
  refine sluicelaw07_WireReads_call ?_
  unfold Sh.sluicelaw07_WireReads
  refine taken_spec H ?_
  clear H
  intro w1 H
  (repeat with_reducible (first | refine Red.to ?_ | (refine is_rload ?_; (first | refine rv_load H rfl ?_ | refine rv_load H.up1 rfl ?_ | refine rv_load H.up2 rfl ?_ | refine rv_load H.up3 rfl ?_ | refine rv_load H.up4 rfl ?_))))
  refine lent_spec H (Kn.old R1) hl1 ?_
  clear H
  intro g cap w2 hcap H
  refine NewReader_spec H (fun w h => view_rd (tl := [0xC3, 0x3C]) h) hl1 ?_
  clear H
  intro p w3 H
  refine rv_build0 H ?_
  clear H
  intro g0 w4 H
  have H := H.sl_of_cells (size := 1) (n := 0) (cap := 0) rfl (by omega) (by unfold maxLen; omega)
  refine rv_append_rd H (R2.old H) (by simp [bv]) bv_one (by unfold maxLen; omega) (by omega) ?_
  clear H
  intro y w5 H _
  have H : St W w5 (Bs y b2 :: Rr p 0 b1 0 :: Bs (.slice (some ⟨g, 0, none⟩) (b1.length + 2) cap) (b1 ++ [0xC3, 0x3C]) :: L) := by simpa [Bs] using H
  refine NewReader_spec H Kn.here hl2 ?_
  clear H
  intro q w6 H
  refine ⟨?_⟩
  (repeat (first | (with_reducible (first | refine Red.to ?_ | (refine is_rload ?_; (first | refine rv_load H rfl ?_ | refine rv_load H.up1 rfl ?_ | refine rv_load H.up2 rfl ?_ | refine rv_load H.up3 rfl ?_ | refine rv_load H.up4 rfl ?_)) | (refine is_tload ?_; (first | refine tk_load (fun _ H => H) rfl ?_ | refine tk_load (fun _ H => H.up1) rfl ?_ | refine tk_load (fun _ H => H.up2) rfl ?_ | refine tk_load (fun _ H => H.up3) rfl ?_)))) | (intro _) | (simp only [List.getD_cons_zero, List.getD_cons_succ])))
  refine ⟨?_⟩
  (repeat (first | (with_reducible (first | refine Red.to ?_ | (refine is_rload ?_; (first | refine rv_load H rfl ?_ | refine rv_load H.up1 rfl ?_ | refine rv_load H.up2 rfl ?_ | refine rv_load H.up3 rfl ?_ | refine rv_load H.up4 rfl ?_)) | (refine is_tload ?_; (first | refine tk_load (fun _ H => H) rfl ?_ | refine tk_load (fun _ H => H.up1) rfl ?_ | refine tk_load (fun _ H => H.up2) rfl ?_ | refine tk_load (fun _ H => H.up3) rfl ?_)))) | (intro _) | (simp only [List.getD_cons_zero, List.getD_cons_succ])))
  refine kept_spec hcap hl1 H.up3 (Kn.old R1) ?_
  clear H
  intro w7 H
  (repeat (first | (with_reducible (first | refine Red.to ?_ | (refine is_rload ?_; (first | refine rv_load H rfl ?_ | refine rv_load H.up1 rfl ?_ | refine rv_load H.up2 rfl ?_ | refine rv_load H.up3 rfl ?_ | refine rv_load H.up4 rfl ?_)) | (refine is_tload ?_; (first | refine tk_load (fun _ H => H) rfl ?_ | refine tk_load (fun _ H => H.up1) rfl ?_ | refine tk_load (fun _ H => H.up2) rfl ?_ | refine tk_load (fun _ H => H.up3) rfl ?_)))) | (intro _) | (simp only [List.getD_cons_zero, List.getD_cons_succ])))
  have H : St W w7 (Bs (.slice (some ⟨g, 0, none⟩) (b1.length + 2) cap) (b1 ++ [0xC3, 0x3C]) :: Rr p 0 b1 0 :: Rr q 0 b2 0 :: L) := H.up2.drop.up2.up1
  refine share_of (fun vs w => vs = [] ∧ St W w (Rr p 0 b1 0 :: Rr q 0 b2 0 :: L)) ?_ ?_
  · clear H
    rintro vs w ⟨rfl, H⟩ σ
    refine NewRf_spec H (Kn.old R1) hl1 ?_
    clear H
    intro r w1 H
    refine NewRf_spec H (Kn.old R2) hl2 ?_
    clear H
    intro s w2 H
    refine rv (v := .agg #[.slice none 0 0, .slice none 0 0]) (w' := w2) (by kernel_rfl) ?_
    refine rv_box (c := [.slice none 0 0, .slice none 0 0]) H rfl ?_
    clear H
    intro kb w3 H
    have H : St W w3 (Bk kb [] :: Rf s 0 b2 0 :: Rf r 0 b1 0 :: Rr p 0 b1 0 :: Rr q 0 b2 0 :: L) := by
      have H := ((H.sl_nil 9 1).sl_nil 27 1).up2
      exact Bk.m (l := []) H
    refine share_of (fun vs w => ∃ l : List (Value × List UInt8), l.length ≤ ops.length ∧ (∀ q ∈ l, q.2.length ≤ 65536) ∧ St W w (Bk kb l :: L)) ?_ ?_
    · clear H
      rintro vs w ⟨l, hl, hb, H⟩ σ
      refine whole_spec (by omega) (fun q h => by have := hb q h; omega) H ?_
      intro w' H
      exact k w' H
    · intro J hJ
      refine loop_of (fun vs w => ∃ (i e1 at1 e2 at2 : Nat) (l : List (Value × List UInt8)), vs = [.int .i64 i] ∧ i ≤ ops.length ∧ l.length ≤ i ∧ (∀ q ∈ l, q.2.length ≤ 65536) ∧ St W w (Rr p e1 b1 at1 :: Rf r e1 b1 at1 :: Rr q e2 b2 at2 :: Rf s e2 b2 at2 :: Bk kb l :: L))
        (fun vs _ => match vs with | [.int _ i] => ops.length - i.toNat | _ => 0) ⟨0, 0, 0, 0, 0, [], rfl, by omega, by simp, by simp, ?_⟩ ?_
      · exact H.up1.up4.up3.up4
      clear H
      rintro vs w kk ⟨i, e1, at1, e2, at2, l, rfl, hi, hli, hlb, H⟩ hkk σ
      simp only [List.getD_cons_zero, List.getD_cons_succ]
      refine rv_len_rd (R3.old H) ?_
      (repeat with_reducible (first | refine Red.to ?_ | (refine is_rload ?_; (first | refine rv_load H rfl ?_ | refine rv_load H.up1 rfl ?_ | refine rv_load H.up2 rfl ?_ | refine rv_load H.up3 rfl ?_ | refine rv_load H.up4 rfl ?_))))
      refine cond_split (fun h => ?_) (fun h => ?_)
      · have h : i < ops.length := by have := of_decide_eq_true h; omega
        obtain ⟨o, ho⟩ : ∃ o, ops[i]? = some o := ⟨_, List.getElem?_eq_getElem h⟩
        have hoo := hok o (List.mem_of_getElem? ho)
        refine share_of (fun vs w => vs = [.bool true] ∧ ∃ (e1 at1 e2 at2 : Nat) (l : List (Value × List UInt8)), l.length ≤ i + 1 ∧ (∀ q ∈ l, q.2.length ≤ 65536) ∧ St W w (Rr p e1 b1 at1 :: Rf r e1 b1 at1 :: Rr q e2 b2 at2 :: Rf s e2 b2 at2 :: Bk kb l :: L)) ?_ ?_
        · clear H
          rintro vs w ⟨rfl, e1, at1, e2, at2, l, hl, hb, H⟩ σ
          simp only [List.getD_cons_zero, List.getD_cons_succ]
          (repeat with_reducible (first | refine Red.to ?_ | (refine is_rload ?_; (first | refine rv_load H rfl ?_ | refine rv_load H.up1 rfl ?_ | refine rv_load H.up2 rfl ?_ | refine rv_load H.up3 rfl ?_ | refine rv_load H.up4 rfl ?_))))
          rw [i64_small (by omega) (by omega)]
          exact hkk _ _ ⟨i + 1, e1, at1, e2, at2, l, by simp, by omega, hl, hb, H⟩ (by simp; omega)
        · intro J2 hJ2
          rcases R3 with ⟨_, h0, _⟩ | ⟨g3, off, cap3, rfl, hn3, hc3⟩
          · omega
          have R3 : Rd W (.slice (some ⟨g3, off, none⟩) ops.length cap3) ops.length (flat ops) := .inr ⟨g3, off, cap3, rfl, hn3, hc3⟩
          have ha : ∀ w, St W w L → ∀ j v, o.cs[j]? = some v → w.cell? (Addr.add ⟨g3, off + i * 5, none⟩ j) = some v := by
            intro w H j v hj
            have e : Addr.add ⟨g3, off + i * 5, none⟩ j = ⟨g3, off + i * 5 + j, none⟩ := by by_cases h : j = 0 <;> simp [Addr.add, h]
            rw [e]
            exact op_cell (v := .nilIface) (R3.old H) ho hj
          have H0 := St.dropL (A := [_, _, _, _, _]) H
          have ei : off + ((i : Nat) : Int).toNat * 5 = off + i * 5 := by simp
          refine rv_index (by omega) (by omega) ?_
          rw [ei]
          (repeat with_reducible (first | refine Red.to ?_ | (refine is_rload ?_; (first | refine rv_load H rfl ?_ | refine rv_load H.up1 rfl ?_ | refine rv_load H.up2 rfl ?_ | refine rv_load H.up3 rfl ?_ | refine rv_load H.up4 rfl ?_))))
          refine rv (Ops.run_load (op_cell (v := .nilIface) (R3.old H0) ho (j := 1) rfl)) ?_
          refine cond_split (fun h2 => ?_) (fun h2 => ?_)
          · refine rv_index (by omega) (by omega) ?_
            rw [ei]
            refine rv (run_load_agg (cs := o.cs) rfl (ha _ H0)) ?_
            refine reads_spec hoo.1 hoo.2 (by omega) H.up4.up4.up4 ?_
            intro e' at' l' w' h3 h4 H
            refine hJ2 _ _ ⟨rfl, e1, at1, e', at', l', by omega, ?_, ?_⟩
            · intro q hq
              rcases h4 q hq with h5 | h5
              · exact hlb q h5
              · exact h5
            · exact H.up4.up4
          · refine rv_index (by omega) (by omega) ?_
            rw [ei]
            refine rv (run_load_agg (cs := o.cs) rfl (ha _ H0)) ?_
            refine reads_spec hoo.1 hoo.2 (by omega) H.up4.up2.up2 ?_
            intro e' at' l' w' h3 h4 H
            refine hJ2 _ _ ⟨rfl, e', at', e2, at2, l', by omega, ?_, ?_⟩
            · intro q hq
              rcases h4 q hq with h5 | h5
              · exact hlb q h5
              · exact h5
            · exact H.up2.up4.up4.up4.up4
      · exact hJ _ _ ⟨l, by omega, hlb, H.drop.drop.drop.drop⟩
  · intro J hJ
    refine loop_of (fun vs w => ∃ (i : Nat) (bs' : List UInt8), vs = [.int .i64 i] ∧ i ≤ b1.length ∧ bs'.length = b1.length + 2 ∧ St W w (Bs (.slice (some ⟨g, 0, none⟩) bs'.length cap) bs' :: Rr p 0 b1 0 :: Rr q 0 b2 0 :: L))
      (fun vs _ => match vs with | [.int _ i] => b1.length - i.toNat | _ => 0) ⟨0, b1 ++ [0xC3, 0x3C], rfl, by omega, by simp, by simpa using H⟩ ?_
    clear H
    rintro vs w kk ⟨i, bs', rfl, hi, hbl, H⟩ hkk σ
    simp only [List.getD_cons_zero, List.getD_cons_succ]
    (repeat with_reducible (first | refine Red.to ?_ | (refine is_rload ?_; (first | refine rv_load H rfl ?_ | refine rv_load H.up1 rfl ?_ | refine rv_load H.up2 rfl ?_ | refine rv_load H.up3 rfl ?_ | refine rv_load H.up4 rfl ?_))))
    refine cond_split (fun h => ?_) (fun h => ?_)
    · have h : i < b1.length := by have := of_decide_eq_true h; omega
      obtain ⟨x, hx⟩ : ∃ x, bs'[i]? = some x := ⟨_, List.getElem?_eq_getElem (by omega)⟩
      refine rv_index (by omega) (by omega) ?_
      have ei : 0 + ((i : Nat) : Int).toNat * 1 = i := by simp
      rw [ei]
      refine rv (Ops.run_load (H.sl_cells (g := g) (cap := cap) rfl i (.int .u8 (x.toNat : Int)) (by simp [bv, hx]))) ?_
      (repeat with_reducible (first | refine Red.to ?_ | (refine is_rload ?_; (first | refine rv_load H rfl ?_ | refine rv_load H.up1 rfl ?_ | refine rv_load H.up2 rfl ?_ | refine rv_load H.up3 rfl ?_ | refine rv_load H.up4 rfl ?_))))
      refine rv_index (by omega) (by omega) ?_
      rw [ei]
      refine ru_bs H (by omega) xor_bounds ?_
      clear H
      intro w1 H
      (repeat with_reducible (first | refine Red.to ?_ | (refine is_rload ?_; (first | refine rv_load H rfl ?_ | refine rv_load H.up1 rfl ?_ | refine rv_load H.up2 rfl ?_ | refine rv_load H.up3 rfl ?_ | refine rv_load H.up4 rfl ?_))))
      rw [i64_small (by omega) (by omega)]
      refine hkk _ _ ⟨i + 1, bs'.set i (UInt8.ofNat (bitsOf .xor .u8 (x.toNat : Int) 85).toNat), rfl, by omega, by rw [List.length_set]; exact hbl, ?_⟩ (by simp; omega)
      rw [List.length_set]
      exact H
    · exact hJ _ _ ⟨rfl, H.drop⟩
end
end Go.Proofs.Ytpfbpjoknlcbkaa
