/-
  Contracts of the document's own answer for package wire: the reader.
-/
import Derived.Test.YtpfbpjoknlcbkaaWireE
namespace Go.Proofs.Ytpfbpjoknlcbkaa
open Go.Vc Go.Sep Go.Ops
set_option linter.unusedVariables false
set_option linter.unusedSectionVars false
set_option linter.unusedSimpArgs false

/-- the document's reader: at 'at_' of bs -/
def Rf (b : Nat) (e : Int) (bs : List UInt8) (at_ : Nat) : HProp :=
  pr (at_ ≤ bs.length ∧ bs.length ≤ 140737488351232) (ex fun (p : Nat × Nat × Nat × List Value) =>
    pr ((at_ < bs.length → p.2.1 = at_) ∧ bs.length - at_ ≤ p.2.2.1 ∧ p.2.2.2.take bs.length = bv bs)
      (all [cells b 75 [.slice (some ⟨p.1, p.2.1, none⟩) (bs.length - at_ : Nat) p.2.2.1, .int .i64 at_, .int .i64 e], cells p.1 5 p.2.2.2]))
def numM (l : List UInt8) (most : Nat) : Nat × Nat × Nat :=
  if (num l).2.2 ≠ 0 then (0, 0, (num l).2.2) else if most < (num l).1 then (0, 0, 12) else num l
section
variable {W w : World} {L : List HProp} {K : Value → World → Prop} {X : XPost}
theorem Rf.o {b : Nat} {e : Int} {bs : List UInt8} {at_ : Nat} (H : St W w (Rf b e bs at_ :: L)) : at_ ≤ bs.length ∧ bs.length ≤ 140737488351232 ∧ ∃ g off c cur, (at_ < bs.length → off = at_) ∧ bs.length - at_ ≤ c ∧ cur.take bs.length = bv bs ∧
    St W w (cells b 75 [.slice (some ⟨g, off, none⟩) (bs.length - at_ : Nat) c, .int .i64 at_, .int .i64 e] :: cells g 5 cur :: L) := by
  obtain ⟨h, H⟩ := H.pr
  obtain ⟨⟨g, off, c, cur⟩, H⟩ := H.ex
  obtain ⟨h2, H⟩ := H.pr
  exact ⟨h.1, h.2, g, off, c, cur, h2.1, h2.2.1, h2.2.2, H.all⟩
theorem Rf.m {b : Nat} {e : Int} {bs : List UInt8} {at_ g off c : Nat} {cur : List Value} (h1 : at_ ≤ bs.length) (h2 : bs.length ≤ 140737488351232) (h3 : at_ < bs.length → off = at_) (h4 : bs.length - at_ ≤ c) (h5 : cur.take bs.length = bv bs)
    (H : St W w (cells b 75 [.slice (some ⟨g, off, none⟩) (bs.length - at_ : Nat) c, .int .i64 at_, .int .i64 e] :: cells g 5 cur :: L)) : St W w (Rf b e bs at_ :: L) :=
  St.pr_mk ⟨h1, h2⟩ (St.ex_mk (g, off, c, cur) (St.pr_mk ⟨h3, h4, h5⟩ (St.all_mk H)))
/-- what is left reads so -/
theorem rest_rd {bs : List UInt8} {at_ g off c : Nat} {cur : List Value} (h1 : at_ ≤ bs.length) (h3 : at_ < bs.length → off = at_) (h4 : bs.length - at_ ≤ c) (h5 : cur.take bs.length = bv bs)
    (H : St W w (cells g 5 cur :: L)) : Rd w (.slice (some ⟨g, off, none⟩) (bs.length - at_ : Nat) c) (bs.drop at_).length (bv (bs.drop at_)) := by
  refine .inr ⟨g, off, c, by simp, by simpa using h4, ?_⟩
  intro j u hj
  have hjl : j < bs.length - at_ := by
    have := (List.getElem?_eq_some_iff.1 hj).1
    simpa [bv] using this
  have h3 := h3 (by omega)
  subst h3
  refine H.load ?_
  have : (bv bs)[off + j]? = some u := by
    simp only [bv, List.map_drop, List.getElem?_drop] at hj
    simpa [bv] using hj
  rw [← h5, List.getElem?_take_of_lt (by omega)] at this
  exact this

theorem run_rem8 {t : Nat} {cx cy : Bool} {a b : Int} {w : World} (h : b ≠ 0) : (bin .rem t cx cy (.int .u8 a) (.int .u8 b)).run Try.prog w = .ok (.int .u8 (a.tmod b)) w := by
  refine run_bin_int ?_
  simp [binOp, Op.intDiv, h]
theorem cell_at {v : Value} {n : Nat} {cs : List Value} {g off cap : Nat} (R : Rd w (.slice (some ⟨g, off, none⟩) n cap) n cs) {j : Nat} {u : Value} (h : cs[j]? = some u) : w.cell? ⟨g, off + j, none⟩ = some u := by
  rcases R with ⟨h1, _⟩ | ⟨g', off', cap', hv, _, hc⟩
  · cases h1
  · cases hv; exact hc j u h

theorem numberf_spec {v : Value} {xs : List UInt8} {most : Nat} (H : St W w L) (R : Kn W L v xs.length (bv xs)) (hl : xs.length ≤ 140737488351232)
    (k : ∀ w', St W w' L → K (numTuple (numM xs most)) w') : FCall Try.prog Fn.sluiceref07_number #[v, .int .u64 most] w K X := by
  refine sluiceref07_number_call ?_
  unfold Sh.sluiceref07_number
  refine share_of (fun _ _ => False) (fun _ _ h => h.elim) ?_
  intro J _
  refine loop_of (fun vs w => ∃ (u i : Nat), vs = [.int .u64 u, .int .u64 (128 ^ i : Nat), .int .i64 i] ∧ u < 128 ^ i ∧ i ≤ 9 ∧ i ≤ xs.length ∧ numGo i u (xs.drop i) = num xs ∧ St W w L) (fun vs _ => match vs with | [_, _, .int _ i] => 10 - i.toNat | _ => 0) ⟨0, 0, rfl, by decide, by omega, by omega, rfl, H⟩ ?_
  clear H
  rintro vs w kk ⟨u, i, rfl, hu, hi9, hil, hnum, H⟩ hkk σ
  simp only [List.getD_cons_zero, List.getD_cons_succ]
  (repeat with_reducible (first | refine Red.to ?_ | (refine is_rload ?_; (first | refine rv_load H rfl ?_ | refine rv_load H.up1 rfl ?_ | refine rv_load H.up2 rfl ?_ | refine rv_load H.up3 rfl ?_ | refine rv_load H.up4 rfl ?_))))
  have h10 : decide ((i : Int) < 10) = true := by simp; omega
  rw [h10]
  refine cond_true' ?_
  refine rv_len_rd (R _ H) ?_
  (repeat with_reducible (first | refine Red.to ?_ | (refine is_rload ?_; (first | refine rv_load H rfl ?_ | refine rv_load H.up1 rfl ?_ | refine rv_load H.up2 rfl ?_ | refine rv_load H.up3 rfl ?_ | refine rv_load H.up4 rfl ?_))))
  refine cond_split (fun h => ?_) (fun h => ?_)
  · have h : xs.length ≤ i := by simpa using h
    have e : xs.drop i = [] := List.drop_of_length_le h
    rw [e] at hnum
    have := k w H
    unfold numM at this
    rw [← hnum] at this
    simpa [numGo, numTuple] using this
  have hlt : i < xs.length := by simpa using h
  rcases R.form H with ⟨rfl, hn⟩ | ⟨g, off, cap, rfl, hn⟩
  · omega
  obtain ⟨x, hx⟩ : ∃ x, xs[i]? = some x := ⟨_, List.getElem?_eq_getElem hlt⟩
  have hcell : ∀ w, St W w L → w.cell? ⟨g, off + (i : Int).toNat * 1, none⟩ = some (.int .u8 (x.toNat : Int)) := by
    intro w H
    have := cell_at (v := .nilIface) (R w H) (j := i) (u := .int .u8 (x.toNat : Int)) (by simp [bv, hx])
    simpa using this
  have hdrop : xs.drop i = x :: xs.drop (i + 1) := by
    rw [List.drop_eq_getElem_cons hlt]
    congr 1
    rw [List.getElem?_eq_getElem hlt] at hx
    simpa using hx
  rw [hdrop, numGo_cons] at hnum
  have hx256 := x.toNat_lt
  refine share_of (fun vs w => vs = [.bool (bad i x)] ∧ St W w L) ?_ ?_
  · clear H
    rintro vs w ⟨rfl, H⟩ σ2
    simp only [List.getD_cons_zero, List.getD_cons_succ]
    refine cond_split (fun h => ?_) (fun h => ?_)
    · rw [if_pos h] at hnum
      have := k w H
      unfold numM at this
      rw [← hnum] at this
      simpa [numTuple] using this
    · rw [if_neg (by simp [h])] at hnum
      refine rv_index (by omega) (by omega) ?_
      refine rv (Ops.run_load (hcell w H)) ?_
      refine rv (run_rem8 (by decide)) ?_
      (repeat with_reducible (first | refine Red.to ?_ | (refine is_rload ?_; (first | refine rv_load H rfl ?_ | refine rv_load H.up1 rfl ?_ | refine rv_load H.up2 rfl ?_ | refine rv_load H.up3 rfl ?_ | refine rv_load H.up4 rfl ?_))))
      refine rv_index (by omega) (by omega) ?_
      refine rv (Ops.run_load (hcell w H)) ?_
      (repeat with_reducible (first | refine Red.to ?_ | (refine is_rload ?_; (first | refine rv_load H rfl ?_ | refine rv_load H.up1 rfl ?_ | refine rv_load H.up2 rfl ?_ | refine rv_load H.up3 rfl ?_ | refine rv_load H.up4 rfl ?_))))
      have hm : x.toNat % 128 < 128 := Nat.mod_lt _ (by decide)
      have e0 : IntKind.u64.wrap ((x.toNat : Int).tmod 128) = ((x.toNat % 128 : Nat) : Int) := by
        rw [Int.tmod_eq_emod_of_nonneg (by omega), u64_wrap]; omega
      have p9 : (128 : Nat) ^ i ≤ 9223372036854775808 := by
        have h2 : 128 ^ i ≤ 128 ^ 9 := Nat.pow_le_pow_right (by decide) hi9
        simpa using h2
      have hle : u + x.toNat % 128 * 128 ^ i < 128 ^ (i + 1) := by
        have : x.toNat % 128 * 128 ^ i ≤ 127 * 128 ^ i := Nat.mul_le_mul_right _ (by omega)
        rw [Nat.pow_succ]; omega
      have hfit : u + x.toNat % 128 * 128 ^ i < 18446744073709551616 := by
        by_cases h9 : i = 9
        · have h1 : x = 1 := by
            refine Classical.byContradiction fun hne => ?_
            simp [bad, h9, hne] at h
          subst h9; subst h1
          have : (1 : UInt8).toNat % 128 = 1 := by decide
          rw [this]
          have e9 : (128 : Nat) ^ 9 = 9223372036854775808 := by simp
          rw [e9] at hu ⊢
          clear hle p9
          omega
        · have h2 : 128 ^ (i + 1) ≤ 128 ^ 9 := Nat.pow_le_pow_right (by decide) (by omega)
          have : (128 : Nat) ^ 9 = 9223372036854775808 := by simp
          omega
      have e1 : IntKind.u64.wrap ((u : Int) + IntKind.u64.wrap (((128 ^ i : Nat) : Int) * IntKind.u64.wrap ((x.toNat : Int).tmod 128))) = ((u + x.toNat % 128 * 128 ^ i : Nat) : Int) := by
        rw [e0]
        have : ((128 ^ i : Nat) : Int) * ((x.toNat % 128 : Nat) : Int) = ((x.toNat % 128 * 128 ^ i : Nat) : Int) := by rw [Nat.mul_comm]; simp
        rw [this, u64_small (n := ((x.toNat % 128 * 128 ^ i : Nat) : Int)) (by omega) (by omega), u64_small (by omega) (by omega)]
        simp
      rw [e1]
      refine cond_split (fun h128 => ?_) (fun h128 => ?_)
      · have h128 : x.toNat < 128 := by simp at h128; omega
        rw [if_pos h128] at hnum
        (repeat with_reducible (first | refine Red.to ?_ | (refine is_rload ?_; (first | refine rv_load H rfl ?_ | refine rv_load H.up1 rfl ?_ | refine rv_load H.up2 rfl ?_ | refine rv_load H.up3 rfl ?_ | refine rv_load H.up4 rfl ?_))))
        have := k w H
        unfold numM at this
        rw [← hnum] at this
        refine cond_split (fun hm => ?_) (fun hm => ?_)
        · have hm : most < u + x.toNat % 128 * 128 ^ i := by have := of_decide_eq_true hm; omega
          simpa [numTuple, hm] using this
        · have hm : ¬ most < u + x.toNat % 128 * 128 ^ i := by have := of_decide_eq_false hm; omega
          (repeat with_reducible (first | refine Red.to ?_ | (refine is_rload ?_; (first | refine rv_load H rfl ?_ | refine rv_load H.up1 rfl ?_ | refine rv_load H.up2 rfl ?_ | refine rv_load H.up3 rfl ?_ | refine rv_load H.up4 rfl ?_))))
          rw [i64_small (by omega) (by omega)]
          simpa [numTuple, hm] using this
      · have h128 : ¬ x.toNat < 128 := by simp at h128; omega
        rw [if_neg h128] at hnum
        (repeat with_reducible (first | refine Red.to ?_ | (refine is_rload ?_; (first | refine rv_load H rfl ?_ | refine rv_load H.up1 rfl ?_ | refine rv_load H.up2 rfl ?_ | refine rv_load H.up3 rfl ?_ | refine rv_load H.up4 rfl ?_))))
        rw [i64_small (by omega) (by omega)]
        have hi8 : i ≠ 9 := by
          rintro rfl
          simp [bad] at h
          rw [h.2] at h128
          exact h128 (by decide)
        have e2 : IntKind.u64.wrap (((128 ^ i : Nat) : Int) * 128) = ((128 ^ (i + 1) : Nat) : Int) := by
          have h2 : 128 ^ (i + 1) ≤ 128 ^ 9 := Nat.pow_le_pow_right (by decide) (by omega)
          have e9 : (128 : Nat) ^ 9 = 9223372036854775808 := by simp
          rw [Nat.pow_succ] at h2 ⊢
          rw [u64_small (by omega) (by omega)]
          simp
        rw [e2]
        refine hkk _ _ ⟨u + x.toNat % 128 * 128 ^ i, i + 1, by simp, hle, by omega, by omega, hnum, H⟩ ?_
        simp; omega
  · intro J2 hJ2
    obtain ⟨p, hp⟩ : ∃ p, decide (0 < (i : Int)) = p := ⟨_, rfl⟩
    obtain ⟨q, hq⟩ : ∃ q, ((x.toNat : Int) == 0) = q := ⟨_, rfl⟩
    obtain ⟨r, hr⟩ : ∃ r, ((i : Int) == 9) = r := ⟨_, rfl⟩
    obtain ⟨t, ht⟩ : ∃ t, decide (1 < (x.toNat : Int)) = t := ⟨_, rfl⟩
    have fin : bad i x = ((p && q) || (r && t)) := by
      have e1 : decide (0 < (i : Int)) = decide (0 < i) := by simp
      have e2 : ((i : Int) == 9) = decide (i = 9) := by rw [Bool.eq_iff_iff]; simp; omega
      have e3 : decide (1 < (x.toNat : Int)) = decide (x ≠ 0 ∧ x ≠ 1) := by
        rw [decide_eq_decide, ne_eq, ne_eq, ← UInt8.toNat_inj, ← UInt8.toNat_inj]
        simp; omega
      rw [← hp, ← hq, ← hr, ← ht, u8_zero, e1, e2, e3, Bool.eq_iff_iff]
      simp [bad]
      by_cases h9 : i = 9 <;> by_cases h0 : x = 0 <;> simp [h9, h0]
    have hc := hcell w H
    cases p <;> cases q <;> cases r <;> cases t <;> (repeat (first | (with_reducible (first | refine Red.to ?_ | (refine is_rload ?_; (first | refine rv_load H rfl ?_ | refine rv_load H.up1 rfl ?_ | refine rv_load H.up2 rfl ?_ | refine rv_load H.up3 rfl ?_ | refine rv_load H.up4 rfl ?_)) | (refine is_tload ?_; (first | refine tk_load (fun _ H => H) rfl ?_ | refine tk_load (fun _ H => H.up1) rfl ?_ | refine tk_load (fun _ H => H.up2) rfl ?_ | refine tk_load (fun _ H => H.up3) rfl ?_)))) | (refine rv_index (by omega) (by omega) ?_) | (refine rv (Ops.run_load hc) ?_) | (refine Share.mk ?_) | (intro _) | (simp only [List.getD_cons_zero, List.getD_cons_succ, hp, hq, hr, ht]))) <;> exact hJ2 _ _ ⟨by rw [fin]; rfl, H⟩

theorem Rd_take {v : Value} {g off m c n : Nat} {cs : List Value} (R : Rd w (.slice (some ⟨g, off, none⟩) m c) m cs) (h : n ≤ m) : Rd w (.slice (some ⟨g, off, none⟩) n c) n (cs.take n) := by
  rcases R with ⟨h1, _⟩ | ⟨g', off', cap', hv, hn, hc⟩
  · cases h1
  · cases hv
    refine .inr ⟨g, off, c, rfl, by omega, ?_⟩
    intro j u hj
    refine hc j u ?_
    by_cases hjn : j < n
    · rwa [List.getElem?_take_of_lt hjn] at hj
    · rw [List.getElem?_take_eq_none (by omega)] at hj
      cases hj
theorem take_spec {b n : Nat} {e : Int} {bs : List UInt8} {at_ : Nat} (H : St W w (Rf b e bs at_ :: L)) (hn : at_ + n ≤ bs.length)
    (k : ∀ y w', St W w' (Bs y ((bs.drop at_).take n) :: Rf b e bs (at_ + n) :: L) → K y w') : FCall Try.prog Fn.sluiceref07_Reader_take #[.pointer (some ⟨b, 0, none⟩), .int .i64 (n : Nat)] w K X := by
  refine sluiceref07_Reader_take_call ?_
  unfold Sh.sluiceref07_Reader_take
  obtain ⟨h1, h2, g, off, c, cur, h3, h4, h5, H⟩ := Rf.o H
  refine rv_build0 H ?_
  intro g1 w1 H
  have H := H.sl_of_cells (size := 1) (n := 0) (cap := 0) rfl (by omega) (by unfold maxLen; omega)
  (repeat with_reducible (first | refine Red.to ?_ | (refine is_rload ?_; (first | refine rv_load H rfl ?_ | refine rv_load H.up1 rfl ?_ | refine rv_load H.up2 rfl ?_ | refine rv_load H.up3 rfl ?_ | refine rv_load H.up4 rfl ?_))))
  refine rv_slice_h' (by omega) (by omega) ?_
  have R0 := rest_rd h1 h3 h4 h5 H.up2
  have hd : (bs.drop at_).length = bs.length - at_ := by simp
  rw [hd] at R0
  have R : Rd w1 (.slice (some ⟨g, off, none⟩) (n : Int).toNat c) n (bv ((bs.drop at_).take n)) := by
    have := Rd_take (v := .nilIface) R0 (n := n) (by omega)
    simpa [bv, List.map_take] using this
  refine rv_append_rd H R (by simp [bv]; omega) bv_one (by unfold maxLen; omega) (by omega) ?_
  intro y w2 H _
  (repeat with_reducible (first | refine Red.to ?_ | (refine is_rload ?_; (first | refine rv_load H rfl ?_ | refine rv_load H.up1 rfl ?_ | refine rv_load H.up2 rfl ?_ | refine rv_load H.up3 rfl ?_ | refine rv_load H.up4 rfl ?_))))
  refine rv_slice_l' (by omega) (by omega) ?_
  (repeat with_reducible (first | refine Red.to ?_ | (refine is_rload ?_; (first | refine rv_load H rfl ?_ | refine rv_load H.up1 rfl ?_ | refine rv_load H.up2 rfl ?_ | refine rv_load H.up3 rfl ?_ | refine rv_load H.up4 rfl ?_))))
  refine ru_store H.up1 (by simp) rfl ?_
  intro w3 H
  (repeat with_reducible (first | refine Red.to ?_ | (refine is_rload ?_; (first | refine rv_load H rfl ?_ | refine rv_load H.up1 rfl ?_ | refine rv_load H.up2 rfl ?_ | refine rv_load H.up3 rfl ?_ | refine rv_load H.up4 rfl ?_))))
  rw [i64_small (by omega) (by omega)]
  refine ru_store H (by simp) rfl ?_
  intro w4 H
  refine k y w4 ?_
  have e1 : (n : Int).toNat = n := by simp
  rw [e1] at H
  have hlen : ((bs.drop at_).take n).length = n := by simp; omega
  have H := H.up2.up1
  have H2 : St W w4 (Rf b e bs (at_ + n) :: Bs y ((bs.drop at_).take n) :: L) := by
    refine Rf.m (g := g) (off := if c = n then off else off + n * 1) (c := c - n) hn h2 ?_ (by omega) h5 ?_
    · intro hlt
      rw [if_neg (by omega), h3 (by omega)]
      omega
    · have e2 : bs.length - at_ - n = bs.length - (at_ + n) := by omega
      rw [e2] at H
      simpa [Bs, hlen] using H
  exact H2.up1

theorem numM_max (l : List UInt8) : numM l 18446744073709551615 = num l := by
  have hb := num_bounds l
  unfold numM
  split
  · rename_i h
    have := hb.2.2.2.2 h
    generalize num l = r at *
    obtain ⟨a, b, c⟩ := r
    simp only at this h ⊢
    rw [this.1, this.2]
  · rw [if_neg (by omega)]
theorem rNum_numM (bs : List UInt8) (at_ most : Nat) : rNum 0 bs at_ most = ((numM (bs.drop at_) most).1, (numM (bs.drop at_) most).2.2, at_ + (numM (bs.drop at_) most).2.1) := by
  unfold rNum numM
  rw [if_neg (by simp)]
  split
  · rfl
  · rename_i h
    split
    · rfl
    · have : (num (bs.drop at_)).2.2 = 0 := by simpa using h
      rw [this]
theorem numM_bounds (l : List UInt8) (most : Nat) : (numM l most).1 < 18446744073709551616 ∧ (numM l most).2.1 ≤ l.length := by
  have hb := num_bounds l
  unfold numM
  split
  · simp
  · split
    · simp
    · exact ⟨hb.1, hb.2.1⟩
theorem rest_kn {b : Nat} {c1 : List Value} {ty : Nat} {bs : List UInt8} {at_ g off c : Nat} {cur : List Value} (h1 : at_ ≤ bs.length) (h3 : at_ < bs.length → off = at_) (h4 : bs.length - at_ ≤ c) (h5 : cur.take bs.length = bv bs) :
    Kn W (cells b ty c1 :: cells g 5 cur :: L) (.slice (some ⟨g, off, none⟩) (bs.length - at_ : Nat) c) (bs.drop at_).length (bv (bs.drop at_)) := fun w H => rest_rd h1 h3 h4 h5 H.drop

theorem RfNum_spec {b e : Nat} {bs : List UInt8} {at_ most : Nat} (H : St W w (Rf b e bs at_ :: L))
    (k : ∀ w', St W w' (Rf b ((rNum e bs at_ most).2.1 : Nat) bs (rNum e bs at_ most).2.2 :: L) → K (.int .u64 (rNum e bs at_ most).1) w') : FCall Try.prog Fn.sluiceref07_Reader_Num #[.pointer (some ⟨b, 0, none⟩), .int .u64 most] w K X := by
  refine sluiceref07_Reader_Num_call ?_
  unfold Sh.sluiceref07_Reader_Num
  obtain ⟨h1, h2, g, off, c, cur, h3, h4, h5, H⟩ := Rf.o H
  (repeat with_reducible (first | refine Red.to ?_ | (refine is_rload ?_; (first | refine rv_load H rfl ?_ | refine rv_load H.up1 rfl ?_ | refine rv_load H.up2 rfl ?_ | refine rv_load H.up3 rfl ?_ | refine rv_load H.up4 rfl ?_))))
  refine cond_split (fun h => ?_) (fun h => ?_)
  · have h : e ≠ 0 := by simpa using h
    have := k w
    simp only [rNum, if_pos h] at this
    exact this (Rf.m h1 h2 h3 h4 h5 H)
  have h : e = 0 := by simpa using h
  subst h
  rw [rNum_numM] at k
  have hb := numM_bounds (bs.drop at_) most
  rw [List.length_drop] at hb
  (repeat with_reducible (first | refine Red.to ?_ | (refine is_rload ?_; (first | refine rv_load H rfl ?_ | refine rv_load H.up1 rfl ?_ | refine rv_load H.up2 rfl ?_ | refine rv_load H.up3 rfl ?_ | refine rv_load H.up4 rfl ?_))))
  refine numberf_spec H (rest_kn h1 h3 h4 h5) (by simp; omega) ?_
  clear H
  intro w1 H
  generalize numM (bs.drop at_) most = r at hb k ⊢
  obtain ⟨x, n, er⟩ := r
  simp only [numTuple] at hb k ⊢
  (repeat with_reducible (first | refine Red.to ?_ | (refine is_rload ?_; (first | refine rv_load H rfl ?_ | refine rv_load H.up1 rfl ?_ | refine rv_load H.up2 rfl ?_ | refine rv_load H.up3 rfl ?_ | refine rv_load H.up4 rfl ?_))))
  refine ru_store H (by simp) rfl ?_
  intro w2 H
  refine take_spec (Rf.m (e := (er : Int)) h1 h2 h3 h4 h5 (by simpa using H)) (by omega) ?_
  intro y w3 H
  exact k w3 H.drop
theorem backf_spec {v : Nat} (hv : v < 18446744073709551616) (k : K (.int .i64 (back v)) w) : FCall Try.prog Fn.sluiceref07_back #[.int .u64 v] w K X := by
  refine sluiceref07_back_call ?_
  unfold Sh.sluiceref07_back
  refine rv_rem (by decide) ?_
  (repeat with_reducible (first | refine Red.to ?_ | (refine is_rload ?_; (first | refine rv_load H rfl ?_ | refine rv_load H.up1 rfl ?_ | refine rv_load H.up2 rfl ?_ | refine rv_load H.up3 rfl ?_ | refine rv_load H.up4 rfl ?_))))
  have e1 : (v : Int).tmod 2 = ((v % 2 : Nat) : Int) := by rw [Int.tmod_eq_emod_of_nonneg (by omega)]; omega
  have e2 : IntKind.u64.wrap ((v : Int).tdiv 2) = ((v / 2 : Nat) : Int) := by
    rw [Int.tdiv_eq_ediv_of_nonneg (by omega), u64_wrap]; omega
  rw [e1]
  refine cond_split (fun h => ?_) (fun h => ?_)
  · have h : v % 2 = 0 := by simp at h; omega
    refine rv_quo (by decide) ?_
    (repeat with_reducible (first | refine Red.to ?_ | (refine is_rload ?_; (first | refine rv_load H rfl ?_ | refine rv_load H.up1 rfl ?_ | refine rv_load H.up2 rfl ?_ | refine rv_load H.up3 rfl ?_ | refine rv_load H.up4 rfl ?_))))
    rw [e2, i64_small (by omega) (by omega)]
    unfold back at k
    rw [if_pos h] at k
    exact k
  · have h : v % 2 ≠ 0 := by simp at h; omega
    refine rv_quo (by decide) ?_
    (repeat with_reducible (first | refine Red.to ?_ | (refine is_rload ?_; (first | refine rv_load H rfl ?_ | refine rv_load H.up1 rfl ?_ | refine rv_load H.up2 rfl ?_ | refine rv_load H.up3 rfl ?_ | refine rv_load H.up4 rfl ?_))))
    rw [e2, i64_small (n := ((v / 2 : Nat) : Int)) (by omega) (by omega), i64_small (n := 0 - ((v / 2 : Nat) : Int)) (by omega) (by omega), i64_small (by omega) (by omega)]
    unfold back at k
    rw [if_neg h] at k
    have e3 : (0 : Int) - ((v / 2 : Nat) : Int) - 1 = -((v / 2 : Nat) : Int) - 1 := by omega
    rw [e3]
    exact k
theorem rNum_lt (e : Nat) (bs : List UInt8) (at_ most : Nat) : (rNum e bs at_ most).1 < 18446744073709551616 := by
  have := (num_bounds (bs.drop at_)).1
  unfold rNum
  split
  · simp
  · split
    · simp
    · split
      · simp
      · exact this
theorem rNum_err (e : Nat) (bs : List UInt8) (at_ most : Nat) (h : (rNum e bs at_ most).2.1 ≠ 0) : (rNum e bs at_ most).1 = 0 := by
  unfold rNum at h ⊢
  split
  · rfl
  · split
    · rfl
    · split
      · rfl
      · simp_all
theorem RfInt_spec {b e : Nat} {bs : List UInt8} {at_ : Nat} (H : St W w (Rf b e bs at_ :: L))
    (k : ∀ w', St W w' (Rf b ((rNum e bs at_ 18446744073709551615).2.1 : Nat) bs (rNum e bs at_ 18446744073709551615).2.2 :: L) → K (.int .i64 (back (rNum e bs at_ 18446744073709551615).1)) w') : FCall Try.prog Fn.sluiceref07_Reader_Int #[.pointer (some ⟨b, 0, none⟩)] w K X := by
  refine sluiceref07_Reader_Int_call ?_
  unfold Sh.sluiceref07_Reader_Int
  refine RfNum_spec (most := 18446744073709551615) H ?_
  clear H
  intro w1 H
  have hlt := rNum_lt e bs at_ 18446744073709551615
  have her := rNum_err e bs at_ 18446744073709551615
  generalize rNum e bs at_ 18446744073709551615 = r at *
  obtain ⟨x, er, a⟩ := r
  simp only at *
  obtain ⟨h1, h2, g, off, c, cur, h3, h4, h5, H⟩ := Rf.o H
  (repeat with_reducible (first | refine Red.to ?_ | (refine is_rload ?_; (first | refine rv_load H rfl ?_ | refine rv_load H.up1 rfl ?_ | refine rv_load H.up2 rfl ?_ | refine rv_load H.up3 rfl ?_ | refine rv_load H.up4 rfl ?_))))
  refine cond_split (fun h => ?_) (fun h => ?_)
  · have h : er ≠ 0 := by simpa using h
    have := k w1 (Rf.m h1 h2 h3 h4 h5 H)
    rw [her h] at this
    exact this
  · refine backf_spec hlt ?_
    exact k w1 (Rf.m h1 h2 h3 h4 h5 H)
theorem RfByte_spec {b e : Nat} {bs : List UInt8} {at_ : Nat} (H : St W w (Rf b e bs at_ :: L))
    (k : ∀ w', St W w' (Rf b ((rByte e bs at_).2.1 : Nat) bs (rByte e bs at_).2.2 :: L) → K (.int .u8 (rByte e bs at_).1.toNat) w') : FCall Try.prog Fn.sluiceref07_Reader_Byte #[.pointer (some ⟨b, 0, none⟩)] w K X := by
  refine sluiceref07_Reader_Byte_call ?_
  unfold Sh.sluiceref07_Reader_Byte
  obtain ⟨h1, h2, g, off, c, cur, h3, h4, h5, H⟩ := Rf.o H
  (repeat with_reducible (first | refine Red.to ?_ | (refine is_rload ?_; (first | refine rv_load H rfl ?_ | refine rv_load H.up1 rfl ?_ | refine rv_load H.up2 rfl ?_ | refine rv_load H.up3 rfl ?_ | refine rv_load H.up4 rfl ?_))))
  refine cond_split (fun h => ?_) (fun h => ?_)
  · have h : e ≠ 0 := by simpa using h
    have := k w
    simp only [rByte, if_pos h] at this
    exact this (Rf.m h1 h2 h3 h4 h5 H)
  have h : e = 0 := by simpa using h
  subst h
  simp only [rByte, if_neg (show ¬ (0 ≠ 0) by simp)] at k
  (repeat with_reducible (first | refine Red.to ?_ | (refine is_rload ?_; (first | refine rv_load H rfl ?_ | refine rv_load H.up1 rfl ?_ | refine rv_load H.up2 rfl ?_ | refine rv_load H.up3 rfl ?_ | refine rv_load H.up4 rfl ?_))))
  refine cond_split (fun h => ?_) (fun h => ?_)
  · have h : at_ = bs.length := by simp at h; omega
    have hn : bs[at_]? = none := by rw [h]; simp
    rw [hn] at k
    simp only at k
    (repeat with_reducible (first | refine Red.to ?_ | (refine is_rload ?_; (first | refine rv_load H rfl ?_ | refine rv_load H.up1 rfl ?_ | refine rv_load H.up2 rfl ?_ | refine rv_load H.up3 rfl ?_ | refine rv_load H.up4 rfl ?_))))
    refine ru_store H (by simp) rfl ?_
    intro w1 H
    exact k w1 (Rf.m (e := ((30 : Nat) : Int)) h1 h2 h3 h4 h5 (by simpa using H))
  · have h : at_ < bs.length := by simp at h; omega
    obtain ⟨x, hx⟩ : ∃ x, bs[at_]? = some x := ⟨_, List.getElem?_eq_getElem h⟩
    rw [hx] at k
    simp only at k
    refine take_spec (n := 1) (Rf.m h1 h2 h3 h4 h5 H) (by omega) ?_
    clear H
    intro y w1 H
    have e1 : (bs.drop at_).take 1 = [x] := by
      have : bs.drop at_ = x :: bs.drop (at_ + 1) := by
        rw [List.drop_eq_getElem_cons h]
        congr 1
        simpa [List.getElem?_eq_getElem h] using hx
      rw [this]
      rfl
    rw [e1] at H
    rcases H.sl_form.2 with ⟨rfl, hz⟩ | ⟨g, cap, rfl, hn, hc⟩
    · simp at hz
    refine rv_index (by omega) (by simp) ?_
    have hcell := H.sl_cells rfl 0 (.int .u8 (x.toNat : Int)) (by simp [bv])
    refine rv (Ops.run_load (by simpa using hcell)) ?_
    exact k _ H.drop
theorem RfEnd_spec {b : Nat} {e : Int} {bs : List UInt8} {at_ : Nat} (H : St W w (Rf b e bs at_ :: L))
    (k : ∀ w', St W w' (Rf b (if e = 0 ∧ at_ < bs.length then 32 else e) bs at_ :: L) → K (.tuple #[]) w') : FCall Try.prog Fn.sluiceref07_Reader_End #[.pointer (some ⟨b, 0, none⟩)] w K X := by
  refine sluiceref07_Reader_End_call ?_
  unfold Sh.sluiceref07_Reader_End
  refine share_of (fun vs w => vs = [.bool (decide (e = 0 ∧ at_ < bs.length))] ∧ St W w (Rf b e bs at_ :: L)) ?_ ?_
  · clear H
    rintro vs w ⟨rfl, H⟩ σ
    simp only [List.getD_cons_zero, List.getD_cons_succ]
    obtain ⟨h1, h2, g, off, c, cur, h3, h4, h5, H⟩ := Rf.o H
    refine cond_split (fun h => ?_) (fun h => ?_)
    · rw [if_pos (of_decide_eq_true h)] at k
      (repeat with_reducible (first | refine Red.to ?_ | (refine is_rload ?_; (first | refine rv_load H rfl ?_ | refine rv_load H.up1 rfl ?_ | refine rv_load H.up2 rfl ?_ | refine rv_load H.up3 rfl ?_ | refine rv_load H.up4 rfl ?_))))
      refine ru_store H (by simp) rfl ?_
      intro w1 H
      exact k w1 (Rf.m (e := 32) h1 h2 h3 h4 h5 (by simpa using H))
    · rw [if_neg (of_decide_eq_false h)] at k
      exact k w (Rf.m h1 h2 h3 h4 h5 H)
  · intro J hJ
    obtain ⟨h1, h2, g, off, c, cur, h3, h4, h5, H⟩ := Rf.o H
    (repeat with_reducible (first | refine Red.to ?_ | (refine is_rload ?_; (first | refine rv_load H rfl ?_ | refine rv_load H.up1 rfl ?_ | refine rv_load H.up2 rfl ?_ | refine rv_load H.up3 rfl ?_ | refine rv_load H.up4 rfl ?_))))
    refine guard_split (fun h => ?_) (fun h => ?_)
    · have he : e = 0 := by simpa using h
      rw [h]
      (repeat with_reducible (first | refine Red.to ?_ | (refine is_rload ?_; (first | refine rv_load H rfl ?_ | refine rv_load H.up1 rfl ?_ | refine rv_load H.up2 rfl ?_ | refine rv_load H.up3 rfl ?_ | refine rv_load H.up4 rfl ?_))))
      refine hJ _ _ ⟨?_, Rf.m h1 h2 h3 h4 h5 H⟩
      simp [he]
      omega
    · have he : e ≠ 0 := by simpa using h
      rw [h]
      (repeat with_reducible (first | refine Red.to ?_ | (refine is_rload ?_; (first | refine rv_load H rfl ?_ | refine rv_load H.up1 rfl ?_ | refine rv_load H.up2 rfl ?_ | refine rv_load H.up3 rfl ?_ | refine rv_load H.up4 rfl ?_))))
      refine hJ _ _ ⟨?_, Rf.m h1 h2 h3 h4 h5 H⟩
      simp [he]
theorem NewRf_spec {v : Value} {bs : List UInt8} (H : St W w L) (R : Kn W L v bs.length (bv bs)) (hl : bs.length ≤ 140737488351232)
    (k : ∀ b w', St W w' (Rf b 0 bs 0 :: L) → K (.pointer (some ⟨b, 0, none⟩)) w') : FCall Try.prog Fn.sluiceref07_NewReader #[v] w K X := by
  refine sluiceref07_NewReader_call ?_
  unfold Sh.sluiceref07_NewReader
  refine rv_build0 H ?_
  intro g w1 H
  have H := H.sl_of_cells (size := 1) (n := 0) (cap := 0) rfl (by omega) (by unfold maxLen; omega)
  refine rv_append_rd H (R _ H.drop) (by simp [bv]) bv_one (by unfold maxLen; omega) (by omega) ?_
  intro y w2 H hnil
  have H : St W w2 (Bs y bs :: L) := by simpa [Bs] using H
  rcases H.sl_form.2 with ⟨rfl, _⟩ | ⟨g, cap, rfl, hn, hc⟩
  · simp at hnil
  obtain ⟨rest, hr, H⟩ := H.cells_of_sl
  refine rv (v := .agg #[.slice (some ⟨g, 0, none⟩) bs.length cap, .int .i64 0, .int .i64 0]) (w' := w2) (by kernel_rfl) ?_
  refine rv_box (c := [.slice (some ⟨g, 0, none⟩) bs.length cap, .int .i64 0, .int .i64 0]) H rfl ?_
  intro b w3 H
  refine k b w3 (Rf.m (g := g) (off := 0) (c := cap) (cur := bv bs ++ rest) (by omega) hl (fun _ => rfl) (by omega) ?_ (by simpa using H))
  rw [List.take_append_of_le_length (by simp [bv])]
  rw [List.take_of_length_le (by simp [bv])]

theorem RfBytes_spec {b e : Nat} {bs : List UInt8} {at_ : Nat} {most : Int} (hm : -9223372036854775808 ≤ most ∧ most < 9223372036854775808) (H : St W w (Rf b e bs at_ :: L))
    (k : ∀ y w', St W w' (Bs y (rBytes e bs at_ most).1 :: Rf b ((rBytes e bs at_ most).2.1 : Nat) bs (rBytes e bs at_ most).2.2 :: L) → K y w') : FCall Try.prog Fn.sluiceref07_Reader_Bytes #[.pointer (some ⟨b, 0, none⟩), .int .i64 most] w K X := by
  refine sluiceref07_Reader_Bytes_call ?_
  unfold Sh.sluiceref07_Reader_Bytes
  obtain ⟨h1, h2, g, off, c, cur, h3, h4, h5, H⟩ := Rf.o H
  (repeat with_reducible (first | refine Red.to ?_ | (refine is_rload ?_; (first | refine rv_load H rfl ?_ | refine rv_load H.up1 rfl ?_ | refine rv_load H.up2 rfl ?_ | refine rv_load H.up3 rfl ?_ | refine rv_load H.up4 rfl ?_))))
  refine cond_split (fun h => ?_) (fun h => ?_)
  · have h : e ≠ 0 := by simpa using h
    have := k (.slice none 0 0) w
    simp only [rBytes, if_pos h] at this
    exact this ((Rf.m h1 h2 h3 h4 h5 H).sl_nil _ _)
  have h : e = 0 := by simpa using h
  subst h
  simp only [rBytes, if_neg (show ¬ (0 ≠ 0) by simp)] at k
  (repeat with_reducible (first | refine Red.to ?_ | (refine is_rload ?_; (first | refine rv_load H rfl ?_ | refine rv_load H.up1 rfl ?_ | refine rv_load H.up2 rfl ?_ | refine rv_load H.up3 rfl ?_ | refine rv_load H.up4 rfl ?_))))
  refine numberf_spec (most := 18446744073709551615) H (rest_kn h1 h3 h4 h5) (by simp; omega) ?_
  clear H
  intro w1 H
  rw [numM_max]
  replace H := Rf.m (e := ((0 : Nat) : Int)) h1 h2 h3 h4 h5 H
  clear h3 h4 h5 c cur g off
  have hb := num_bounds (bs.drop at_)
  have hE : rBytesE bs at_ most = (if (num (bs.drop at_)).2.2 ≠ 0 then (num (bs.drop at_)).2.2 else
    if most < 0 ∨ most < (num (bs.drop at_)).1 ∨ 65536 < (num (bs.drop at_)).1 then 12 else
    if bs.length - at_ - (num (bs.drop at_)).2.1 < (num (bs.drop at_)).1 then 30 else 0) := rfl
  generalize rBytesE bs at_ most = er at hE k
  generalize num (bs.drop at_) = r at hb k hE ⊢
  obtain ⟨x, n, err⟩ := r
  simp only [numTuple] at hb k hE ⊢
  have hn := hb.2.1
  simp only [List.length_drop] at hn
  (repeat (first | (with_reducible (first | refine Red.to ?_ | (refine is_rload ?_; (first | refine rv_load H rfl ?_ | refine rv_load H.up1 rfl ?_ | refine rv_load H.up2 rfl ?_ | refine rv_load H.up3 rfl ?_ | refine rv_load H.up4 rfl ?_)) | (refine is_tload ?_; (first | refine tk_load (fun _ H => H) rfl ?_ | refine tk_load (fun _ H => H.up1) rfl ?_ | refine tk_load (fun _ H => H.up2) rfl ?_ | refine tk_load (fun _ H => H.up3) rfl ?_)))) | (intro _) | (simp only [List.getD_cons_zero, List.getD_cons_succ])))
  obtain ⟨e1, he1⟩ : ∃ e1 : Nat, e1 = (if err ≠ 0 then err else if most < 0 ∨ most < x ∨ 65536 < x then 12 else 0) := ⟨_, rfl⟩
  refine share_of (fun vs w => vs = [.int .i64 e1] ∧ St W w (Rf b ((0 : Nat) : Int) bs at_ :: L)) ?_ ?_
  · clear H
    rintro vs w ⟨rfl, H⟩ σ
    refine share_of (fun vs w => vs = [.int .i64 er] ∧ St W w (Rf b ((0 : Nat) : Int) bs at_ :: L)) ?_ ?_
    · clear H
      rintro vs w ⟨rfl, H⟩ σ
      simp only [List.getD_cons_zero, List.getD_cons_succ]
      (repeat with_reducible (first | refine Red.to ?_ | (refine is_rload ?_; (first | refine rv_load H rfl ?_ | refine rv_load H.up1 rfl ?_ | refine rv_load H.up2 rfl ?_ | refine rv_load H.up3 rfl ?_ | refine rv_load H.up4 rfl ?_))))
      refine cond_split (fun h => ?_) (fun h => ?_)
      · have h : er ≠ 0 := by simpa using h
        rw [if_pos h] at k
        obtain ⟨h1, h2, g, off, c, cur, h3, h4, h5, H⟩ := Rf.o H
        (repeat with_reducible (first | refine Red.to ?_ | (refine is_rload ?_; (first | refine rv_load H rfl ?_ | refine rv_load H.up1 rfl ?_ | refine rv_load H.up2 rfl ?_ | refine rv_load H.up3 rfl ?_ | refine rv_load H.up4 rfl ?_))))
        refine ru_store H (by simp) rfl ?_
        intro w2 H
        exact k _ w2 ((Rf.m (e := (er : Int)) h1 h2 h3 h4 h5 (by simpa using H)).sl_nil _ _)
      · have h : er = 0 := by simpa using h
        rw [if_neg (by omega)] at k
        have g1 : ¬ err ≠ 0 := by intro h1; rw [if_pos h1] at hE; omega
        rw [if_neg g1] at hE
        have g2 : ¬ (most < 0 ∨ most < x ∨ 65536 < x) := by intro h2; rw [if_pos h2] at hE; omega
        rw [if_neg g2] at hE
        have g3 : ¬ bs.length - at_ - n < x := by intro h3; rw [if_pos h3] at hE; omega
        refine take_spec H (by omega) ?_
        intro y w2 H
        (repeat with_reducible (first | refine Red.to ?_ | (refine is_rload ?_; (first | refine rv_load H rfl ?_ | refine rv_load H.up1 rfl ?_ | refine rv_load H.up2 rfl ?_ | refine rv_load H.up3 rfl ?_ | refine rv_load H.up4 rfl ?_))))
        rw [i64_small (by omega) (by omega)]
        refine take_spec H.up1 (by omega) ?_
        intro y2 w3 H
        exact k y2 w3 H.up2.drop
    · intro J hJ
      simp only [List.getD_cons_zero, List.getD_cons_succ]
      (repeat (first | (with_reducible (first | refine Red.to ?_ | (refine is_rload ?_; (first | refine rv_load H rfl ?_ | refine rv_load H.up1 rfl ?_ | refine rv_load H.up2 rfl ?_ | refine rv_load H.up3 rfl ?_ | refine rv_load H.up4 rfl ?_)) | (refine is_tload ?_; (first | refine tk_load (fun _ H => H) rfl ?_ | refine tk_load (fun _ H => H.up1) rfl ?_ | refine tk_load (fun _ H => H.up2) rfl ?_ | refine tk_load (fun _ H => H.up3) rfl ?_)))) | (intro _) | (simp only [List.getD_cons_zero, List.getD_cons_succ])))
      refine guard_split (fun h => ?_) (fun h => ?_)
      · have h0 : e1 = 0 := by simpa using h
        obtain ⟨h1, h2, g, off, c, cur, h3, h4, h5, H⟩ := Rf.o H
        rw [h]
        (repeat with_reducible (first | refine Red.to ?_ | (refine is_rload ?_; (first | refine rv_load H rfl ?_ | refine rv_load H.up1 rfl ?_ | refine rv_load H.up2 rfl ?_ | refine rv_load H.up3 rfl ?_ | refine rv_load H.up4 rfl ?_))))
        rw [i64_small (by omega) (by omega), u64_small (by omega) (by omega)]
        have g1 : ¬ err ≠ 0 := by intro h1; rw [if_pos h1] at he1; omega
        rw [if_neg g1] at hE he1
        have g2 : ¬ (most < 0 ∨ most < x ∨ 65536 < x) := by intro h2; rw [if_pos h2] at he1; omega
        rw [if_neg g2] at hE he1
        refine cond_split (fun h => ?_) (fun h => ?_)
        · have h := of_decide_eq_true h
          rw [if_pos (by omega)] at hE
          subst hE
          exact hJ _ _ ⟨rfl, Rf.m h1 h2 h3 h4 h5 H⟩
        · have h := of_decide_eq_false h
          rw [if_neg (by omega)] at hE
          subst hE
          exact hJ _ _ ⟨by rw [h0], Rf.m h1 h2 h3 h4 h5 H⟩
      · have h0 : e1 ≠ 0 := by simpa using h
        rw [h]
        (repeat with_reducible (first | refine Red.to ?_ | (refine is_rload ?_; (first | refine rv_load H rfl ?_ | refine rv_load H.up1 rfl ?_ | refine rv_load H.up2 rfl ?_ | refine rv_load H.up3 rfl ?_ | refine rv_load H.up4 rfl ?_))))
        refine cond_false' ?_
        refine hJ _ _ ⟨?_, H⟩
        have : e1 = er := by
          rw [he1, hE]
          split
          · rfl
          · rename_i g1
            rw [if_neg g1] at he1
            split
            · rfl
            · rename_i g2
              rw [if_neg g2] at he1
              exact absurd he1 h0
        rw [this]
  · intro J hJ
    have out1 : err = 0 → (most < 0 ∨ most < x ∨ 65536 < x) → J [.int .i64 12] w1 := by
      intro g1 h
      refine hJ _ _ ⟨?_, H⟩
      rw [he1, if_neg (by omega), if_pos h]
      rfl
    have out2 : (err = 0 → ¬ (most < 0 ∨ most < x ∨ 65536 < x)) → J [.int .i64 err] w1 := by
      intro h
      refine hJ _ _ ⟨?_, H⟩
      by_cases g1 : err = 0
      · rw [he1, if_neg (by omega), if_neg (h g1), g1]
      · rw [he1, if_pos g1]
    obtain ⟨p, hp⟩ : ∃ p, ((err : Int) == 0) = p := ⟨_, rfl⟩
    obtain ⟨q, hq⟩ : ∃ q, decide (most < 0) = q := ⟨_, rfl⟩
    obtain ⟨r, hr⟩ : ∃ r, decide (IntKind.u64.wrap most < (x : Int)) = r := ⟨_, rfl⟩
    obtain ⟨t, ht⟩ : ∃ t, decide (65536 < (x : Int)) = t := ⟨_, rfl⟩
    have fin : err = 0 → ((q || r) || t) = decide (most < 0 ∨ most < x ∨ 65536 < x) := by
      intro _
      rw [← hq, ← hr, ← ht, u64_wrap, Bool.eq_iff_iff]
      simp
      omega
    have hp0 : p = true ↔ err = 0 := by rw [← hp]; simp
    cases p <;> cases q <;> cases r <;> cases t <;> (repeat (first | (with_reducible (first | refine Red.to ?_ | (refine is_rload ?_; (first | refine rv_load H rfl ?_ | refine rv_load H.up1 rfl ?_ | refine rv_load H.up2 rfl ?_ | refine rv_load H.up3 rfl ?_ | refine rv_load H.up4 rfl ?_)) | (refine is_tload ?_; (first | refine tk_load (fun _ H => H) rfl ?_ | refine tk_load (fun _ H => H.up1) rfl ?_ | refine tk_load (fun _ H => H.up2) rfl ?_ | refine tk_load (fun _ H => H.up3) rfl ?_)))) | (refine Share.mk ?_) | (intro _) | (simp only [List.getD_cons_zero, List.getD_cons_succ, hp, hq, hr, ht]))) <;> first
      | exact out2 (fun h => Bool.noConfusion (hp0.2 h : false = true))
      | exact out1 (hp0.1 rfl) (of_decide_eq_true (fin (hp0.1 rfl)).symm)
      | exact out2 (fun h => of_decide_eq_false (fin h).symm)
end
end Go.Proofs.Ytpfbpjoknlcbkaa
