/-
  WireSizes: the walk of the law, and what it says of forms.
-/
import Derived.Test.YtpfbpjoknlcbkaaWireD
namespace Go.Proofs.Ytpfbpjoknlcbkaa
open Go.Vc Go.Sep Go.Ops
set_option linter.unusedVariables false
set_option linter.unusedSectionVars false
set_option linter.unusedSimpArgs false

def unform : List UInt8 → Nat
  | [] => 0
  | x :: l => x.toNat % 128 + 128 * unform l
theorem unform_form (n : Nat) : ∀ v, v < n → unform (form v) = v := by
  induction n with
  | zero => intro v h; omega
  | succ n ih =>
    intro v h
    by_cases h' : v < 128
    · rw [form_lt h']; simp [unform]; omega
    · rw [form_ge (by omega)]
      simp only [unform]
      rw [ih (v / 128) (by omega)]
      simp
      omega
theorem form_inj {v u : Nat} (h : form v = form u) : v = u := by
  rw [← unform_form _ v (Nat.lt_succ_self v), h, unform_form _ u (Nat.lt_succ_self u)]
theorem form_pos (v : Nat) : 1 ≤ (form v).length := by
  by_cases h : v < 128
  · rw [form_lt h]; simp
  · rw [form_ge (by omega)]; simp
theorem form_size (n : Nat) : ∀ v, v < n → v < 128 ^ (form v).length ∧ (1 < (form v).length → 128 ^ ((form v).length - 1) ≤ v) := by
  induction n with
  | zero => intro v h; omega
  | succ n ih =>
    intro v h
    by_cases h' : v < 128
    · rw [form_lt h']; simp; omega
    · rw [form_ge (by omega)]
      obtain ⟨h1, h2⟩ := ih (v / 128) (by omega)
      have hp := form_pos (v / 128)
      rw [List.length_cons, Nat.add_sub_cancel]
      generalize (form (v / 128)).length = l at h1 h2 hp ⊢
      obtain ⟨m, rfl⟩ : ∃ m, l = m + 1 := ⟨l - 1, by omega⟩
      rw [Nat.add_sub_cancel] at h2
      rw [Nat.pow_succ 128 m] at h1
      rw [Nat.pow_succ 128 (m + 1), Nat.pow_succ 128 m]
      refine ⟨by omega, fun _ => ?_⟩
      by_cases hl : 1 < m + 1
      · have := h2 hl
        omega
      · have : m = 0 := by omega
        subst this
        simp; omega
theorem form_one {v : Nat} : (form v).length = 1 ↔ v < 128 := by
  constructor
  · intro h
    have := (form_size _ v (Nat.lt_succ_self v)).1
    rw [h] at this
    simpa using this
  · intro h; rw [form_lt h]; simp
theorem pow7 (l : Nat) : 2 ^ (7 * l) = 128 ^ l := by rw [Nat.pow_mul]
/-- 'v >> 7l', l at most 9 -/
theorem shr7l {v l : Nat} (h : l ≤ 9) : (v : Int).fdiv (2 ^ min (Int.toNat ((7 * l : Nat) : Int)) IntKind.u64.bits) = ((v / 128 ^ l : Nat) : Int) := by
  have e : min (Int.toNat ((7 * l : Nat) : Int)) IntKind.u64.bits = 7 * l := by simp [IntKind.bits]; omega
  rw [e, Int.fdiv_eq_ediv_of_nonneg _ (Int.le_of_lt (Int.pow_pos (by decide))), ← pow7]
  simp

theorem wf_u64 {n : Int} (h : (Lit.int .u64 n).wf = true) : 0 ≤ n ∧ n < 18446744073709551616 := by
  simp [Lit.wf, IntKind.min, IntKind.max, IntKind.signed, IntKind.bits] at h
  omega
theorem wf_i64 {n : Int} (h : (Lit.int .i64 n).wf = true) : -9223372036854775808 ≤ n ∧ n < 9223372036854775808 := by
  simp [Lit.wf, IntKind.min, IntKind.max, IntKind.signed, IntKind.bits] at h
  omega
section
variable {W w : World} {L : List HProp} {K : Value → World → Prop} {X : XPost}
theorem sizes_spec {K0 : Value → World → Prop} {v u : Nat} {n : Int} (hv : v < 18446744073709551616) (hu : u < 18446744073709551616) (hn : -9223372036854775808 ≤ n ∧ n < 9223372036854775808) (H : St W w L)
    (k : ∀ w', St W w' L → K0 (.bool true) w') : FCall Try.prog Fn.sluicelaw07_WireSizes #[.int .u64 v, .int .u64 u, .int .i64 n] w K0 X := by
  refine sluicelaw07_WireSizes_call ?_
  unfold Sh.sluicelaw07_WireSizes
  refine NewWriter_spec H ?_
  intro b1 w1 H
  refine NewWriter_spec H ?_
  intro b2 w2 H
  refine NewWriter_spec H ?_
  intro b3 w3 H
  (repeat (first | (with_reducible (first | refine rv_nilc ?_ | refine rv_field0 ?_ | refine rv_field' ?_ | refine rv_eql ?_ | refine rv_neq ?_ | refine rv_lss ?_ | refine rv_leq ?_ | refine rv_gtr ?_ | refine rv_geq ?_ | refine rv_add ?_ | refine rv_sub ?_ | refine rv_mul ?_ | refine rv_and ?_ | refine rv_or ?_ | refine rv_xor ?_ | refine rv_convert_i ?_ | refine rv_eql_b ?_ | refine rv_neq_b ?_ | refine rv_eql_s ?_ | refine rv_neq_s ?_ | refine rv_eql_p0 ?_ | refine rv_eql_ps ?_ | refine rv_neq_p0 ?_ | refine rv_neq_ps ?_ | refine rv_eql_s0 ?_ | refine rv_eql_ss ?_ | refine rv_not_t ?_ | refine rv_not_f ?_ | refine rv_not ?_ | refine rv_neg ?_ | refine rv_min ?_ | refine rv_max ?_ | refine rv_len ?_ | refine rv_len_s ?_ | refine rv_ext2_0 ?_ | refine rv_ext2_1 ?_ | refine rv_ext3_0 ?_ | refine rv_ext3_1 ?_ | refine rv_ext3_2 ?_ | refine rv_ext4_0 ?_ | refine rv_ext4_1 ?_ | refine rv_ext4_2 ?_ | refine rv_ext4_3 ?_ | refine cond_true' ?_ | refine cond_false' ?_ | refine pick_t ?_ | refine pick_f ?_ | refine pick_bool ?_ | refine guard_undef ?_ | refine guard_tt ?_ | refine guard_ff ?_ | refine guard_tf ?_ | refine guard_ft ?_ | refine rv_load H rfl ?_ | refine rv_load H.up1 rfl ?_ | refine rv_load H.up2 rfl ?_ | refine rv_load H.up3 rfl ?_ | refine rv_load H.up4 rfl ?_ | refine tp_nilc ?_ | refine tp_field0 ?_ | refine tp_field' ?_ | refine tp_eql ?_ | refine tp_neq ?_ | refine tp_lss ?_ | refine tp_leq ?_ | refine tp_gtr ?_ | refine tp_geq ?_ | refine tp_add ?_ | refine tp_sub ?_ | refine tp_mul ?_ | refine tp_and ?_ | refine tp_or ?_ | refine tp_xor ?_ | refine tp_convert_i ?_ | refine tp_eql_b ?_ | refine tp_neq_b ?_ | refine tp_eql_s ?_ | refine tp_neq_s ?_ | refine tp_eql_p0 ?_ | refine tp_eql_ps ?_ | refine tp_not_t ?_ | refine tp_not_f ?_ | refine tp_not ?_ | refine tp_neg ?_ | refine tp_min ?_ | refine tp_max ?_ | refine tp_len ?_ | refine tp_len_s ?_ | refine tp_ext2_0 ?_ | refine tp_ext2_1 ?_ | refine tp_ext3_0 ?_ | refine tp_ext3_1 ?_ | refine tp_ext3_2 ?_ | refine tp_ext4_0 ?_ | refine tp_ext4_1 ?_ | refine tp_ext4_2 ?_ | refine tp_ext4_3 ?_ | refine tk_load (fun _ H => H) rfl ?_ | refine tk_load (fun _ H => H.up1) rfl ?_ | refine tk_load (fun _ H => H.up2) rfl ?_ | refine tk_load (fun _ H => H.up3) rfl ?_)) | (refine Share.mk ?_) | (intro _) | (simp only [List.getD_cons_zero, List.getD_cons_succ])))
  refine taken_spec H ?_
  intro w4 H
  (repeat (first | (with_reducible (first | refine rv_nilc ?_ | refine rv_field0 ?_ | refine rv_field' ?_ | refine rv_eql ?_ | refine rv_neq ?_ | refine rv_lss ?_ | refine rv_leq ?_ | refine rv_gtr ?_ | refine rv_geq ?_ | refine rv_add ?_ | refine rv_sub ?_ | refine rv_mul ?_ | refine rv_and ?_ | refine rv_or ?_ | refine rv_xor ?_ | refine rv_convert_i ?_ | refine rv_eql_b ?_ | refine rv_neq_b ?_ | refine rv_eql_s ?_ | refine rv_neq_s ?_ | refine rv_eql_p0 ?_ | refine rv_eql_ps ?_ | refine rv_neq_p0 ?_ | refine rv_neq_ps ?_ | refine rv_eql_s0 ?_ | refine rv_eql_ss ?_ | refine rv_not_t ?_ | refine rv_not_f ?_ | refine rv_not ?_ | refine rv_neg ?_ | refine rv_min ?_ | refine rv_max ?_ | refine rv_len ?_ | refine rv_len_s ?_ | refine rv_ext2_0 ?_ | refine rv_ext2_1 ?_ | refine rv_ext3_0 ?_ | refine rv_ext3_1 ?_ | refine rv_ext3_2 ?_ | refine rv_ext4_0 ?_ | refine rv_ext4_1 ?_ | refine rv_ext4_2 ?_ | refine rv_ext4_3 ?_ | refine cond_true' ?_ | refine cond_false' ?_ | refine pick_t ?_ | refine pick_f ?_ | refine pick_bool ?_ | refine guard_undef ?_ | refine guard_tt ?_ | refine guard_ff ?_ | refine guard_tf ?_ | refine guard_ft ?_ | refine rv_load H rfl ?_ | refine rv_load H.up1 rfl ?_ | refine rv_load H.up2 rfl ?_ | refine rv_load H.up3 rfl ?_ | refine rv_load H.up4 rfl ?_ | refine tp_nilc ?_ | refine tp_field0 ?_ | refine tp_field' ?_ | refine tp_eql ?_ | refine tp_neq ?_ | refine tp_lss ?_ | refine tp_leq ?_ | refine tp_gtr ?_ | refine tp_geq ?_ | refine tp_add ?_ | refine tp_sub ?_ | refine tp_mul ?_ | refine tp_and ?_ | refine tp_or ?_ | refine tp_xor ?_ | refine tp_convert_i ?_ | refine tp_eql_b ?_ | refine tp_neq_b ?_ | refine tp_eql_s ?_ | refine tp_neq_s ?_ | refine tp_eql_p0 ?_ | refine tp_eql_ps ?_ | refine tp_not_t ?_ | refine tp_not_f ?_ | refine tp_not ?_ | refine tp_neg ?_ | refine tp_min ?_ | refine tp_max ?_ | refine tp_len ?_ | refine tp_len_s ?_ | refine tp_ext2_0 ?_ | refine tp_ext2_1 ?_ | refine tp_ext3_0 ?_ | refine tp_ext3_1 ?_ | refine tp_ext3_2 ?_ | refine tp_ext4_0 ?_ | refine tp_ext4_1 ?_ | refine tp_ext4_2 ?_ | refine tp_ext4_3 ?_ | refine tk_load (fun _ H => H) rfl ?_ | refine tk_load (fun _ H => H.up1) rfl ?_ | refine tk_load (fun _ H => H.up2) rfl ?_ | refine tk_load (fun _ H => H.up3) rfl ?_)) | (refine Share.mk ?_) | (intro _) | (simp only [List.getD_cons_zero, List.getD_cons_succ])))
  refine Num_spec H.up2 hv (by simp) ?_
  intro w5 H
  refine Num_spec H.up2 hu (by simp) ?_
  intro w6 H
  refine Int_spec H.up2 hn.1 hn.2 (by simp) ?_
  intro w7 H
  have z := zz_lt hn.1 hn.2
  have l1 := form_length10 hv
  have l2 := form_length10 hu
  have l3 := form_length10 z
  have p1 := form_pos v
  have p3 := form_pos (zz n)
  simp only [if_pos, List.nil_append] at H
  refine Data_spec H.up2 (by omega) ?_
  intro y1 w8 H
  refine Data_spec (H.up3) (by omega) ?_
  intro y2 w9 H
  refine Data_spec (H.up4) (by omega) ?_
  intro y3 w10 H
  have R1 := H.up4.rd
  have R2 := H.up2.rd
  have R3 := H.rd
  have hs := form_size _ v (Nat.lt_succ_self v)
  have hq := @form_inj v u
  have hz := @form_one (zz n)
  rcases R1 with ⟨_, h, _⟩ | ⟨g1, o1, c1, rfl, n1, m1⟩
  · omega
  rcases R3 with ⟨_, h, _⟩ | ⟨g3, o3, c3, rfl, n3, m3⟩
  · omega
  have R1 := H.up4.rd
  have K := k _ H.drop.drop.drop.drop.drop.drop
  clear H k
  have fa1 : decide (((form v).length : Int) < 1) = false := by simp; omega
  have fa2 : decide (10 < ((form v).length : Int)) = false := by simp; omega
  have fc1 : decide (((form (zz n)).length : Int) < 1) = false := by simp; omega
  have fc2 : decide (10 < ((form (zz n)).length : Int)) = false := by simp; omega
  have fe : (!(decide (form v = form u) == ((v : Int) == (u : Int)))) = false := by
    by_cases e : v = u
    · subst e; simp
    · have h1 : form v ≠ form u := fun h => e (hq h)
      have h2 : ¬ (v : Int) = u := by omega
      simp [h1, h2]
  refine ⟨?_⟩
  (repeat (first | (with_reducible (first | refine rv_nilc ?_ | refine rv_field0 ?_ | refine rv_field' ?_ | refine rv_eql ?_ | refine rv_neq ?_ | refine rv_lss ?_ | refine rv_leq ?_ | refine rv_gtr ?_ | refine rv_geq ?_ | refine rv_add ?_ | refine rv_sub ?_ | refine rv_mul ?_ | refine rv_and ?_ | refine rv_or ?_ | refine rv_xor ?_ | refine rv_convert_i ?_ | refine rv_eql_b ?_ | refine rv_neq_b ?_ | refine rv_eql_s ?_ | refine rv_neq_s ?_ | refine rv_eql_p0 ?_ | refine rv_eql_ps ?_ | refine rv_neq_p0 ?_ | refine rv_neq_ps ?_ | refine rv_eql_s0 ?_ | refine rv_eql_ss ?_ | refine rv_not_t ?_ | refine rv_not_f ?_ | refine rv_not ?_ | refine rv_neg ?_ | refine rv_min ?_ | refine rv_max ?_ | refine rv_len ?_ | refine rv_len_s ?_ | refine rv_ext2_0 ?_ | refine rv_ext2_1 ?_ | refine rv_ext3_0 ?_ | refine rv_ext3_1 ?_ | refine rv_ext3_2 ?_ | refine rv_ext4_0 ?_ | refine rv_ext4_1 ?_ | refine rv_ext4_2 ?_ | refine rv_ext4_3 ?_ | refine cond_true' ?_ | refine cond_false' ?_ | refine pick_t ?_ | refine pick_f ?_ | refine pick_bool ?_ | refine guard_undef ?_ | refine guard_tt ?_ | refine guard_ff ?_ | refine guard_tf ?_ | refine guard_ft ?_ | refine rv_load H rfl ?_ | refine rv_load H.up1 rfl ?_ | refine rv_load H.up2 rfl ?_ | refine rv_load H.up3 rfl ?_ | refine rv_load H.up4 rfl ?_ | refine tp_nilc ?_ | refine tp_field0 ?_ | refine tp_field' ?_ | refine tp_eql ?_ | refine tp_neq ?_ | refine tp_lss ?_ | refine tp_leq ?_ | refine tp_gtr ?_ | refine tp_geq ?_ | refine tp_add ?_ | refine tp_sub ?_ | refine tp_mul ?_ | refine tp_and ?_ | refine tp_or ?_ | refine tp_xor ?_ | refine tp_convert_i ?_ | refine tp_eql_b ?_ | refine tp_neq_b ?_ | refine tp_eql_s ?_ | refine tp_neq_s ?_ | refine tp_eql_p0 ?_ | refine tp_eql_ps ?_ | refine tp_not_t ?_ | refine tp_not_f ?_ | refine tp_not ?_ | refine tp_neg ?_ | refine tp_min ?_ | refine tp_max ?_ | refine tp_len ?_ | refine tp_len_s ?_ | refine tp_ext2_0 ?_ | refine tp_ext2_1 ?_ | refine tp_ext3_0 ?_ | refine tp_ext3_1 ?_ | refine tp_ext3_2 ?_ | refine tp_ext4_0 ?_ | refine tp_ext4_1 ?_ | refine tp_ext4_2 ?_ | refine tp_ext4_3 ?_ | refine tk_load (fun _ H => H) rfl ?_ | refine tk_load (fun _ H => H.up1) rfl ?_ | refine tk_load (fun _ H => H.up2) rfl ?_ | refine tk_load (fun _ H => H.up3) rfl ?_)) | (refine Share.mk ?_) | (intro _) | (simp only [List.getD_cons_zero, List.getD_cons_succ, fa1, fa2, fc1, fc2])))
  refine rv_str R1 ?_
  refine rv_str R2 ?_
  refine rv_eql_s ?_
  rw [eql_txt]
  (repeat (first | (with_reducible (first | refine rv_nilc ?_ | refine rv_field0 ?_ | refine rv_field' ?_ | refine rv_eql ?_ | refine rv_neq ?_ | refine rv_lss ?_ | refine rv_leq ?_ | refine rv_gtr ?_ | refine rv_geq ?_ | refine rv_add ?_ | refine rv_sub ?_ | refine rv_mul ?_ | refine rv_and ?_ | refine rv_or ?_ | refine rv_xor ?_ | refine rv_convert_i ?_ | refine rv_eql_b ?_ | refine rv_neq_b ?_ | refine rv_eql_s ?_ | refine rv_neq_s ?_ | refine rv_eql_p0 ?_ | refine rv_eql_ps ?_ | refine rv_neq_p0 ?_ | refine rv_neq_ps ?_ | refine rv_eql_s0 ?_ | refine rv_eql_ss ?_ | refine rv_not_t ?_ | refine rv_not_f ?_ | refine rv_not ?_ | refine rv_neg ?_ | refine rv_min ?_ | refine rv_max ?_ | refine rv_len ?_ | refine rv_len_s ?_ | refine rv_ext2_0 ?_ | refine rv_ext2_1 ?_ | refine rv_ext3_0 ?_ | refine rv_ext3_1 ?_ | refine rv_ext3_2 ?_ | refine rv_ext4_0 ?_ | refine rv_ext4_1 ?_ | refine rv_ext4_2 ?_ | refine rv_ext4_3 ?_ | refine cond_true' ?_ | refine cond_false' ?_ | refine pick_t ?_ | refine pick_f ?_ | refine pick_bool ?_ | refine guard_undef ?_ | refine guard_tt ?_ | refine guard_ff ?_ | refine guard_tf ?_ | refine guard_ft ?_ | refine rv_load H rfl ?_ | refine rv_load H.up1 rfl ?_ | refine rv_load H.up2 rfl ?_ | refine rv_load H.up3 rfl ?_ | refine rv_load H.up4 rfl ?_ | refine tp_nilc ?_ | refine tp_field0 ?_ | refine tp_field' ?_ | refine tp_eql ?_ | refine tp_neq ?_ | refine tp_lss ?_ | refine tp_leq ?_ | refine tp_gtr ?_ | refine tp_geq ?_ | refine tp_add ?_ | refine tp_sub ?_ | refine tp_mul ?_ | refine tp_and ?_ | refine tp_or ?_ | refine tp_xor ?_ | refine tp_convert_i ?_ | refine tp_eql_b ?_ | refine tp_neq_b ?_ | refine tp_eql_s ?_ | refine tp_neq_s ?_ | refine tp_eql_p0 ?_ | refine tp_eql_ps ?_ | refine tp_not_t ?_ | refine tp_not_f ?_ | refine tp_not ?_ | refine tp_neg ?_ | refine tp_min ?_ | refine tp_max ?_ | refine tp_len ?_ | refine tp_len_s ?_ | refine tp_ext2_0 ?_ | refine tp_ext2_1 ?_ | refine tp_ext3_0 ?_ | refine tp_ext3_1 ?_ | refine tp_ext3_2 ?_ | refine tp_ext4_0 ?_ | refine tp_ext4_1 ?_ | refine tp_ext4_2 ?_ | refine tp_ext4_3 ?_ | refine tk_load (fun _ H => H) rfl ?_ | refine tk_load (fun _ H => H.up1) rfl ?_ | refine tk_load (fun _ H => H.up2) rfl ?_ | refine tk_load (fun _ H => H.up3) rfl ?_)) | (refine Share.mk ?_) | (intro _) | (simp only [List.getD_cons_zero, List.getD_cons_succ, fe])))
  generalize (form v).length = l at *
  have s1 : IntKind.i64.wrap (7 * IntKind.i64.wrap ((l : Int) - 1)) = ((7 * (l - 1) : Nat) : Int) := by
    rw [i64_small (n := (l : Int) - 1) (by omega) (by omega), i64_small (by omega) (by omega)]; omega
  have s2 : IntKind.i64.wrap (7 * (l : Int)) = ((7 * l : Nat) : Int) := by
    rw [i64_small (by omega) (by omega)]; omega
  rw [s1]
  refine rv_shr (by omega) ?_
  rw [shr7l (by omega)]
  have t1 : (((v / 128 ^ (l - 1) : Nat) : Int) == 0) = true → decide (1 < (l : Int)) = false := by
    intro h
    have h : ((v / 128 ^ (l - 1) : Nat) : Int) = 0 := by simpa only [beq_iff_eq] using h
    have h : v / 128 ^ (l - 1) = 0 := by omega
    by_cases hl : 1 < l
    · have := hs.2 hl
      rw [Nat.div_eq_zero_iff] at h
      have := Nat.pow_pos (n := l - 1) (show 0 < 128 by omega)
      omega
    · simp; omega
  have t2 : (((v / 128 ^ l : Nat) : Int) != 0) = false := by
    rw [Nat.div_eq_of_lt hs.1]; rfl
  have t3 : (((form (zz n)).length : Int) == 1) = decide (-64 ≤ n ∧ n ≤ 63) := by
    have : zz n < 128 ↔ -64 ≤ n ∧ n ≤ 63 := by unfold zz; split <;> omega
    by_cases h : -64 ≤ n ∧ n ≤ 63
    · rw [hz.2 (this.2 h)]; simp [h]
    · have h1 : (form (zz n)).length ≠ 1 := fun e => h (this.1 (hz.1 e))
      simp [h]; omega
  rcases ha : decide (-64 ≤ n) with _ | _ <;> rcases hb : decide (n ≤ 63) with _ | _
  all_goals
    have t4 : (((form (zz n)).length : Int) == 1) = (decide (-64 ≤ n) && decide (n ≤ 63)) := by rw [t3]; simp
    rw [ha, hb] at t4
    simp only [Bool.and_true, Bool.and_false] at t4
    rcases hp : (((v / 128 ^ (l - 1) : Nat) : Int) == 0) with _ | _
  all_goals first
    | (have t1 := t1 hp
       (repeat (first | (with_reducible (first | refine rv_nilc ?_ | refine rv_field0 ?_ | refine rv_field' ?_ | refine rv_eql ?_ | refine rv_neq ?_ | refine rv_lss ?_ | refine rv_leq ?_ | refine rv_gtr ?_ | refine rv_geq ?_ | refine rv_add ?_ | refine rv_sub ?_ | refine rv_mul ?_ | refine rv_and ?_ | refine rv_or ?_ | refine rv_xor ?_ | refine rv_convert_i ?_ | refine rv_eql_b ?_ | refine rv_neq_b ?_ | refine rv_eql_s ?_ | refine rv_neq_s ?_ | refine rv_eql_p0 ?_ | refine rv_eql_ps ?_ | refine rv_neq_p0 ?_ | refine rv_neq_ps ?_ | refine rv_eql_s0 ?_ | refine rv_eql_ss ?_ | refine rv_not_t ?_ | refine rv_not_f ?_ | refine rv_not ?_ | refine rv_neg ?_ | refine rv_min ?_ | refine rv_max ?_ | refine rv_len ?_ | refine rv_len_s ?_ | refine rv_ext2_0 ?_ | refine rv_ext2_1 ?_ | refine rv_ext3_0 ?_ | refine rv_ext3_1 ?_ | refine rv_ext3_2 ?_ | refine rv_ext4_0 ?_ | refine rv_ext4_1 ?_ | refine rv_ext4_2 ?_ | refine rv_ext4_3 ?_ | refine cond_true' ?_ | refine cond_false' ?_ | refine pick_t ?_ | refine pick_f ?_ | refine pick_bool ?_ | refine guard_undef ?_ | refine guard_tt ?_ | refine guard_ff ?_ | refine guard_tf ?_ | refine guard_ft ?_ | refine rv_load H rfl ?_ | refine rv_load H.up1 rfl ?_ | refine rv_load H.up2 rfl ?_ | refine rv_load H.up3 rfl ?_ | refine rv_load H.up4 rfl ?_ | refine tp_nilc ?_ | refine tp_field0 ?_ | refine tp_field' ?_ | refine tp_eql ?_ | refine tp_neq ?_ | refine tp_lss ?_ | refine tp_leq ?_ | refine tp_gtr ?_ | refine tp_geq ?_ | refine tp_add ?_ | refine tp_sub ?_ | refine tp_mul ?_ | refine tp_and ?_ | refine tp_or ?_ | refine tp_xor ?_ | refine tp_convert_i ?_ | refine tp_eql_b ?_ | refine tp_neq_b ?_ | refine tp_eql_s ?_ | refine tp_neq_s ?_ | refine tp_eql_p0 ?_ | refine tp_eql_ps ?_ | refine tp_not_t ?_ | refine tp_not_f ?_ | refine tp_not ?_ | refine tp_neg ?_ | refine tp_min ?_ | refine tp_max ?_ | refine tp_len ?_ | refine tp_len_s ?_ | refine tp_ext2_0 ?_ | refine tp_ext2_1 ?_ | refine tp_ext3_0 ?_ | refine tp_ext3_1 ?_ | refine tp_ext3_2 ?_ | refine tp_ext4_0 ?_ | refine tp_ext4_1 ?_ | refine tp_ext4_2 ?_ | refine tp_ext4_3 ?_ | refine tk_load (fun _ H => H) rfl ?_ | refine tk_load (fun _ H => H.up1) rfl ?_ | refine tk_load (fun _ H => H.up2) rfl ?_ | refine tk_load (fun _ H => H.up3) rfl ?_)) | (refine Share.mk ?_) | (intro _) | (simp only [List.getD_cons_zero, List.getD_cons_succ, hp, t1])))
       rcases hl : decide ((l : Int) < 10) with _ | _
       · (repeat (first | (with_reducible (first | refine rv_nilc ?_ | refine rv_field0 ?_ | refine rv_field' ?_ | refine rv_eql ?_ | refine rv_neq ?_ | refine rv_lss ?_ | refine rv_leq ?_ | refine rv_gtr ?_ | refine rv_geq ?_ | refine rv_add ?_ | refine rv_sub ?_ | refine rv_mul ?_ | refine rv_and ?_ | refine rv_or ?_ | refine rv_xor ?_ | refine rv_convert_i ?_ | refine rv_eql_b ?_ | refine rv_neq_b ?_ | refine rv_eql_s ?_ | refine rv_neq_s ?_ | refine rv_eql_p0 ?_ | refine rv_eql_ps ?_ | refine rv_neq_p0 ?_ | refine rv_neq_ps ?_ | refine rv_eql_s0 ?_ | refine rv_eql_ss ?_ | refine rv_not_t ?_ | refine rv_not_f ?_ | refine rv_not ?_ | refine rv_neg ?_ | refine rv_min ?_ | refine rv_max ?_ | refine rv_len ?_ | refine rv_len_s ?_ | refine rv_ext2_0 ?_ | refine rv_ext2_1 ?_ | refine rv_ext3_0 ?_ | refine rv_ext3_1 ?_ | refine rv_ext3_2 ?_ | refine rv_ext4_0 ?_ | refine rv_ext4_1 ?_ | refine rv_ext4_2 ?_ | refine rv_ext4_3 ?_ | refine cond_true' ?_ | refine cond_false' ?_ | refine pick_t ?_ | refine pick_f ?_ | refine pick_bool ?_ | refine guard_undef ?_ | refine guard_tt ?_ | refine guard_ff ?_ | refine guard_tf ?_ | refine guard_ft ?_ | refine rv_load H rfl ?_ | refine rv_load H.up1 rfl ?_ | refine rv_load H.up2 rfl ?_ | refine rv_load H.up3 rfl ?_ | refine rv_load H.up4 rfl ?_ | refine tp_nilc ?_ | refine tp_field0 ?_ | refine tp_field' ?_ | refine tp_eql ?_ | refine tp_neq ?_ | refine tp_lss ?_ | refine tp_leq ?_ | refine tp_gtr ?_ | refine tp_geq ?_ | refine tp_add ?_ | refine tp_sub ?_ | refine tp_mul ?_ | refine tp_and ?_ | refine tp_or ?_ | refine tp_xor ?_ | refine tp_convert_i ?_ | refine tp_eql_b ?_ | refine tp_neq_b ?_ | refine tp_eql_s ?_ | refine tp_neq_s ?_ | refine tp_eql_p0 ?_ | refine tp_eql_ps ?_ | refine tp_not_t ?_ | refine tp_not_f ?_ | refine tp_not ?_ | refine tp_neg ?_ | refine tp_min ?_ | refine tp_max ?_ | refine tp_len ?_ | refine tp_len_s ?_ | refine tp_ext2_0 ?_ | refine tp_ext2_1 ?_ | refine tp_ext3_0 ?_ | refine tp_ext3_1 ?_ | refine tp_ext3_2 ?_ | refine tp_ext4_0 ?_ | refine tp_ext4_1 ?_ | refine tp_ext4_2 ?_ | refine tp_ext4_3 ?_ | refine tk_load (fun _ H => H) rfl ?_ | refine tk_load (fun _ H => H.up1) rfl ?_ | refine tk_load (fun _ H => H.up2) rfl ?_ | refine tk_load (fun _ H => H.up3) rfl ?_)) | (refine Share.mk ?_) | (intro _) | (simp only [List.getD_cons_zero, List.getD_cons_succ, ha, hb, t4])))
         exact K
       · (repeat (first | (with_reducible (first | refine rv_nilc ?_ | refine rv_field0 ?_ | refine rv_field' ?_ | refine rv_eql ?_ | refine rv_neq ?_ | refine rv_lss ?_ | refine rv_leq ?_ | refine rv_gtr ?_ | refine rv_geq ?_ | refine rv_add ?_ | refine rv_sub ?_ | refine rv_mul ?_ | refine rv_and ?_ | refine rv_or ?_ | refine rv_xor ?_ | refine rv_convert_i ?_ | refine rv_eql_b ?_ | refine rv_neq_b ?_ | refine rv_eql_s ?_ | refine rv_neq_s ?_ | refine rv_eql_p0 ?_ | refine rv_eql_ps ?_ | refine rv_neq_p0 ?_ | refine rv_neq_ps ?_ | refine rv_eql_s0 ?_ | refine rv_eql_ss ?_ | refine rv_not_t ?_ | refine rv_not_f ?_ | refine rv_not ?_ | refine rv_neg ?_ | refine rv_min ?_ | refine rv_max ?_ | refine rv_len ?_ | refine rv_len_s ?_ | refine rv_ext2_0 ?_ | refine rv_ext2_1 ?_ | refine rv_ext3_0 ?_ | refine rv_ext3_1 ?_ | refine rv_ext3_2 ?_ | refine rv_ext4_0 ?_ | refine rv_ext4_1 ?_ | refine rv_ext4_2 ?_ | refine rv_ext4_3 ?_ | refine cond_true' ?_ | refine cond_false' ?_ | refine pick_t ?_ | refine pick_f ?_ | refine pick_bool ?_ | refine guard_undef ?_ | refine guard_tt ?_ | refine guard_ff ?_ | refine guard_tf ?_ | refine guard_ft ?_ | refine rv_load H rfl ?_ | refine rv_load H.up1 rfl ?_ | refine rv_load H.up2 rfl ?_ | refine rv_load H.up3 rfl ?_ | refine rv_load H.up4 rfl ?_ | refine tp_nilc ?_ | refine tp_field0 ?_ | refine tp_field' ?_ | refine tp_eql ?_ | refine tp_neq ?_ | refine tp_lss ?_ | refine tp_leq ?_ | refine tp_gtr ?_ | refine tp_geq ?_ | refine tp_add ?_ | refine tp_sub ?_ | refine tp_mul ?_ | refine tp_and ?_ | refine tp_or ?_ | refine tp_xor ?_ | refine tp_convert_i ?_ | refine tp_eql_b ?_ | refine tp_neq_b ?_ | refine tp_eql_s ?_ | refine tp_neq_s ?_ | refine tp_eql_p0 ?_ | refine tp_eql_ps ?_ | refine tp_not_t ?_ | refine tp_not_f ?_ | refine tp_not ?_ | refine tp_neg ?_ | refine tp_min ?_ | refine tp_max ?_ | refine tp_len ?_ | refine tp_len_s ?_ | refine tp_ext2_0 ?_ | refine tp_ext2_1 ?_ | refine tp_ext3_0 ?_ | refine tp_ext3_1 ?_ | refine tp_ext3_2 ?_ | refine tp_ext4_0 ?_ | refine tp_ext4_1 ?_ | refine tp_ext4_2 ?_ | refine tp_ext4_3 ?_ | refine tk_load (fun _ H => H) rfl ?_ | refine tk_load (fun _ H => H.up1) rfl ?_ | refine tk_load (fun _ H => H.up2) rfl ?_ | refine tk_load (fun _ H => H.up3) rfl ?_)) | (refine Share.mk ?_) | (intro _) | (simp only [List.getD_cons_zero, List.getD_cons_succ])))
         rw [s2]
         refine rv_shr (by omega) ?_
         rw [shr7l (by have := of_decide_eq_true hl; omega)]
         (repeat (first | (with_reducible (first | refine rv_nilc ?_ | refine rv_field0 ?_ | refine rv_field' ?_ | refine rv_eql ?_ | refine rv_neq ?_ | refine rv_lss ?_ | refine rv_leq ?_ | refine rv_gtr ?_ | refine rv_geq ?_ | refine rv_add ?_ | refine rv_sub ?_ | refine rv_mul ?_ | refine rv_and ?_ | refine rv_or ?_ | refine rv_xor ?_ | refine rv_convert_i ?_ | refine rv_eql_b ?_ | refine rv_neq_b ?_ | refine rv_eql_s ?_ | refine rv_neq_s ?_ | refine rv_eql_p0 ?_ | refine rv_eql_ps ?_ | refine rv_neq_p0 ?_ | refine rv_neq_ps ?_ | refine rv_eql_s0 ?_ | refine rv_eql_ss ?_ | refine rv_not_t ?_ | refine rv_not_f ?_ | refine rv_not ?_ | refine rv_neg ?_ | refine rv_min ?_ | refine rv_max ?_ | refine rv_len ?_ | refine rv_len_s ?_ | refine rv_ext2_0 ?_ | refine rv_ext2_1 ?_ | refine rv_ext3_0 ?_ | refine rv_ext3_1 ?_ | refine rv_ext3_2 ?_ | refine rv_ext4_0 ?_ | refine rv_ext4_1 ?_ | refine rv_ext4_2 ?_ | refine rv_ext4_3 ?_ | refine cond_true' ?_ | refine cond_false' ?_ | refine pick_t ?_ | refine pick_f ?_ | refine pick_bool ?_ | refine guard_undef ?_ | refine guard_tt ?_ | refine guard_ff ?_ | refine guard_tf ?_ | refine guard_ft ?_ | refine rv_load H rfl ?_ | refine rv_load H.up1 rfl ?_ | refine rv_load H.up2 rfl ?_ | refine rv_load H.up3 rfl ?_ | refine rv_load H.up4 rfl ?_ | refine tp_nilc ?_ | refine tp_field0 ?_ | refine tp_field' ?_ | refine tp_eql ?_ | refine tp_neq ?_ | refine tp_lss ?_ | refine tp_leq ?_ | refine tp_gtr ?_ | refine tp_geq ?_ | refine tp_add ?_ | refine tp_sub ?_ | refine tp_mul ?_ | refine tp_and ?_ | refine tp_or ?_ | refine tp_xor ?_ | refine tp_convert_i ?_ | refine tp_eql_b ?_ | refine tp_neq_b ?_ | refine tp_eql_s ?_ | refine tp_neq_s ?_ | refine tp_eql_p0 ?_ | refine tp_eql_ps ?_ | refine tp_not_t ?_ | refine tp_not_f ?_ | refine tp_not ?_ | refine tp_neg ?_ | refine tp_min ?_ | refine tp_max ?_ | refine tp_len ?_ | refine tp_len_s ?_ | refine tp_ext2_0 ?_ | refine tp_ext2_1 ?_ | refine tp_ext3_0 ?_ | refine tp_ext3_1 ?_ | refine tp_ext3_2 ?_ | refine tp_ext4_0 ?_ | refine tp_ext4_1 ?_ | refine tp_ext4_2 ?_ | refine tp_ext4_3 ?_ | refine tk_load (fun _ H => H) rfl ?_ | refine tk_load (fun _ H => H.up1) rfl ?_ | refine tk_load (fun _ H => H.up2) rfl ?_ | refine tk_load (fun _ H => H.up3) rfl ?_)) | (refine Share.mk ?_) | (intro _) | (simp only [List.getD_cons_zero, List.getD_cons_succ, t2, ha, hb, t4])))
         exact K)
    | ((repeat (first | (with_reducible (first | refine rv_nilc ?_ | refine rv_field0 ?_ | refine rv_field' ?_ | refine rv_eql ?_ | refine rv_neq ?_ | refine rv_lss ?_ | refine rv_leq ?_ | refine rv_gtr ?_ | refine rv_geq ?_ | refine rv_add ?_ | refine rv_sub ?_ | refine rv_mul ?_ | refine rv_and ?_ | refine rv_or ?_ | refine rv_xor ?_ | refine rv_convert_i ?_ | refine rv_eql_b ?_ | refine rv_neq_b ?_ | refine rv_eql_s ?_ | refine rv_neq_s ?_ | refine rv_eql_p0 ?_ | refine rv_eql_ps ?_ | refine rv_neq_p0 ?_ | refine rv_neq_ps ?_ | refine rv_eql_s0 ?_ | refine rv_eql_ss ?_ | refine rv_not_t ?_ | refine rv_not_f ?_ | refine rv_not ?_ | refine rv_neg ?_ | refine rv_min ?_ | refine rv_max ?_ | refine rv_len ?_ | refine rv_len_s ?_ | refine rv_ext2_0 ?_ | refine rv_ext2_1 ?_ | refine rv_ext3_0 ?_ | refine rv_ext3_1 ?_ | refine rv_ext3_2 ?_ | refine rv_ext4_0 ?_ | refine rv_ext4_1 ?_ | refine rv_ext4_2 ?_ | refine rv_ext4_3 ?_ | refine cond_true' ?_ | refine cond_false' ?_ | refine pick_t ?_ | refine pick_f ?_ | refine pick_bool ?_ | refine guard_undef ?_ | refine guard_tt ?_ | refine guard_ff ?_ | refine guard_tf ?_ | refine guard_ft ?_ | refine rv_load H rfl ?_ | refine rv_load H.up1 rfl ?_ | refine rv_load H.up2 rfl ?_ | refine rv_load H.up3 rfl ?_ | refine rv_load H.up4 rfl ?_ | refine tp_nilc ?_ | refine tp_field0 ?_ | refine tp_field' ?_ | refine tp_eql ?_ | refine tp_neq ?_ | refine tp_lss ?_ | refine tp_leq ?_ | refine tp_gtr ?_ | refine tp_geq ?_ | refine tp_add ?_ | refine tp_sub ?_ | refine tp_mul ?_ | refine tp_and ?_ | refine tp_or ?_ | refine tp_xor ?_ | refine tp_convert_i ?_ | refine tp_eql_b ?_ | refine tp_neq_b ?_ | refine tp_eql_s ?_ | refine tp_neq_s ?_ | refine tp_eql_p0 ?_ | refine tp_eql_ps ?_ | refine tp_not_t ?_ | refine tp_not_f ?_ | refine tp_not ?_ | refine tp_neg ?_ | refine tp_min ?_ | refine tp_max ?_ | refine tp_len ?_ | refine tp_len_s ?_ | refine tp_ext2_0 ?_ | refine tp_ext2_1 ?_ | refine tp_ext3_0 ?_ | refine tp_ext3_1 ?_ | refine tp_ext3_2 ?_ | refine tp_ext4_0 ?_ | refine tp_ext4_1 ?_ | refine tp_ext4_2 ?_ | refine tp_ext4_3 ?_ | refine tk_load (fun _ H => H) rfl ?_ | refine tk_load (fun _ H => H.up1) rfl ?_ | refine tk_load (fun _ H => H.up2) rfl ?_ | refine tk_load (fun _ H => H.up3) rfl ?_)) | (refine Share.mk ?_) | (intro _) | (simp only [List.getD_cons_zero, List.getD_cons_succ, hp])))
       rcases hl : decide ((l : Int) < 10) with _ | _
       · (repeat (first | (with_reducible (first | refine rv_nilc ?_ | refine rv_field0 ?_ | refine rv_field' ?_ | refine rv_eql ?_ | refine rv_neq ?_ | refine rv_lss ?_ | refine rv_leq ?_ | refine rv_gtr ?_ | refine rv_geq ?_ | refine rv_add ?_ | refine rv_sub ?_ | refine rv_mul ?_ | refine rv_and ?_ | refine rv_or ?_ | refine rv_xor ?_ | refine rv_convert_i ?_ | refine rv_eql_b ?_ | refine rv_neq_b ?_ | refine rv_eql_s ?_ | refine rv_neq_s ?_ | refine rv_eql_p0 ?_ | refine rv_eql_ps ?_ | refine rv_neq_p0 ?_ | refine rv_neq_ps ?_ | refine rv_eql_s0 ?_ | refine rv_eql_ss ?_ | refine rv_not_t ?_ | refine rv_not_f ?_ | refine rv_not ?_ | refine rv_neg ?_ | refine rv_min ?_ | refine rv_max ?_ | refine rv_len ?_ | refine rv_len_s ?_ | refine rv_ext2_0 ?_ | refine rv_ext2_1 ?_ | refine rv_ext3_0 ?_ | refine rv_ext3_1 ?_ | refine rv_ext3_2 ?_ | refine rv_ext4_0 ?_ | refine rv_ext4_1 ?_ | refine rv_ext4_2 ?_ | refine rv_ext4_3 ?_ | refine cond_true' ?_ | refine cond_false' ?_ | refine pick_t ?_ | refine pick_f ?_ | refine pick_bool ?_ | refine guard_undef ?_ | refine guard_tt ?_ | refine guard_ff ?_ | refine guard_tf ?_ | refine guard_ft ?_ | refine rv_load H rfl ?_ | refine rv_load H.up1 rfl ?_ | refine rv_load H.up2 rfl ?_ | refine rv_load H.up3 rfl ?_ | refine rv_load H.up4 rfl ?_ | refine tp_nilc ?_ | refine tp_field0 ?_ | refine tp_field' ?_ | refine tp_eql ?_ | refine tp_neq ?_ | refine tp_lss ?_ | refine tp_leq ?_ | refine tp_gtr ?_ | refine tp_geq ?_ | refine tp_add ?_ | refine tp_sub ?_ | refine tp_mul ?_ | refine tp_and ?_ | refine tp_or ?_ | refine tp_xor ?_ | refine tp_convert_i ?_ | refine tp_eql_b ?_ | refine tp_neq_b ?_ | refine tp_eql_s ?_ | refine tp_neq_s ?_ | refine tp_eql_p0 ?_ | refine tp_eql_ps ?_ | refine tp_not_t ?_ | refine tp_not_f ?_ | refine tp_not ?_ | refine tp_neg ?_ | refine tp_min ?_ | refine tp_max ?_ | refine tp_len ?_ | refine tp_len_s ?_ | refine tp_ext2_0 ?_ | refine tp_ext2_1 ?_ | refine tp_ext3_0 ?_ | refine tp_ext3_1 ?_ | refine tp_ext3_2 ?_ | refine tp_ext4_0 ?_ | refine tp_ext4_1 ?_ | refine tp_ext4_2 ?_ | refine tp_ext4_3 ?_ | refine tk_load (fun _ H => H) rfl ?_ | refine tk_load (fun _ H => H.up1) rfl ?_ | refine tk_load (fun _ H => H.up2) rfl ?_ | refine tk_load (fun _ H => H.up3) rfl ?_)) | (refine Share.mk ?_) | (intro _) | (simp only [List.getD_cons_zero, List.getD_cons_succ, ha, hb, t4])))
         exact K
       · (repeat (first | (with_reducible (first | refine rv_nilc ?_ | refine rv_field0 ?_ | refine rv_field' ?_ | refine rv_eql ?_ | refine rv_neq ?_ | refine rv_lss ?_ | refine rv_leq ?_ | refine rv_gtr ?_ | refine rv_geq ?_ | refine rv_add ?_ | refine rv_sub ?_ | refine rv_mul ?_ | refine rv_and ?_ | refine rv_or ?_ | refine rv_xor ?_ | refine rv_convert_i ?_ | refine rv_eql_b ?_ | refine rv_neq_b ?_ | refine rv_eql_s ?_ | refine rv_neq_s ?_ | refine rv_eql_p0 ?_ | refine rv_eql_ps ?_ | refine rv_neq_p0 ?_ | refine rv_neq_ps ?_ | refine rv_eql_s0 ?_ | refine rv_eql_ss ?_ | refine rv_not_t ?_ | refine rv_not_f ?_ | refine rv_not ?_ | refine rv_neg ?_ | refine rv_min ?_ | refine rv_max ?_ | refine rv_len ?_ | refine rv_len_s ?_ | refine rv_ext2_0 ?_ | refine rv_ext2_1 ?_ | refine rv_ext3_0 ?_ | refine rv_ext3_1 ?_ | refine rv_ext3_2 ?_ | refine rv_ext4_0 ?_ | refine rv_ext4_1 ?_ | refine rv_ext4_2 ?_ | refine rv_ext4_3 ?_ | refine cond_true' ?_ | refine cond_false' ?_ | refine pick_t ?_ | refine pick_f ?_ | refine pick_bool ?_ | refine guard_undef ?_ | refine guard_tt ?_ | refine guard_ff ?_ | refine guard_tf ?_ | refine guard_ft ?_ | refine rv_load H rfl ?_ | refine rv_load H.up1 rfl ?_ | refine rv_load H.up2 rfl ?_ | refine rv_load H.up3 rfl ?_ | refine rv_load H.up4 rfl ?_ | refine tp_nilc ?_ | refine tp_field0 ?_ | refine tp_field' ?_ | refine tp_eql ?_ | refine tp_neq ?_ | refine tp_lss ?_ | refine tp_leq ?_ | refine tp_gtr ?_ | refine tp_geq ?_ | refine tp_add ?_ | refine tp_sub ?_ | refine tp_mul ?_ | refine tp_and ?_ | refine tp_or ?_ | refine tp_xor ?_ | refine tp_convert_i ?_ | refine tp_eql_b ?_ | refine tp_neq_b ?_ | refine tp_eql_s ?_ | refine tp_neq_s ?_ | refine tp_eql_p0 ?_ | refine tp_eql_ps ?_ | refine tp_not_t ?_ | refine tp_not_f ?_ | refine tp_not ?_ | refine tp_neg ?_ | refine tp_min ?_ | refine tp_max ?_ | refine tp_len ?_ | refine tp_len_s ?_ | refine tp_ext2_0 ?_ | refine tp_ext2_1 ?_ | refine tp_ext3_0 ?_ | refine tp_ext3_1 ?_ | refine tp_ext3_2 ?_ | refine tp_ext4_0 ?_ | refine tp_ext4_1 ?_ | refine tp_ext4_2 ?_ | refine tp_ext4_3 ?_ | refine tk_load (fun _ H => H) rfl ?_ | refine tk_load (fun _ H => H.up1) rfl ?_ | refine tk_load (fun _ H => H.up2) rfl ?_ | refine tk_load (fun _ H => H.up3) rfl ?_)) | (refine Share.mk ?_) | (intro _) | (simp only [List.getD_cons_zero, List.getD_cons_succ])))
         rw [s2]
         refine rv_shr (by omega) ?_
         rw [shr7l (by have := of_decide_eq_true hl; omega)]
         (repeat (first | (with_reducible (first | refine rv_nilc ?_ | refine rv_field0 ?_ | refine rv_field' ?_ | refine rv_eql ?_ | refine rv_neq ?_ | refine rv_lss ?_ | refine rv_leq ?_ | refine rv_gtr ?_ | refine rv_geq ?_ | refine rv_add ?_ | refine rv_sub ?_ | refine rv_mul ?_ | refine rv_and ?_ | refine rv_or ?_ | refine rv_xor ?_ | refine rv_convert_i ?_ | refine rv_eql_b ?_ | refine rv_neq_b ?_ | refine rv_eql_s ?_ | refine rv_neq_s ?_ | refine rv_eql_p0 ?_ | refine rv_eql_ps ?_ | refine rv_neq_p0 ?_ | refine rv_neq_ps ?_ | refine rv_eql_s0 ?_ | refine rv_eql_ss ?_ | refine rv_not_t ?_ | refine rv_not_f ?_ | refine rv_not ?_ | refine rv_neg ?_ | refine rv_min ?_ | refine rv_max ?_ | refine rv_len ?_ | refine rv_len_s ?_ | refine rv_ext2_0 ?_ | refine rv_ext2_1 ?_ | refine rv_ext3_0 ?_ | refine rv_ext3_1 ?_ | refine rv_ext3_2 ?_ | refine rv_ext4_0 ?_ | refine rv_ext4_1 ?_ | refine rv_ext4_2 ?_ | refine rv_ext4_3 ?_ | refine cond_true' ?_ | refine cond_false' ?_ | refine pick_t ?_ | refine pick_f ?_ | refine pick_bool ?_ | refine guard_undef ?_ | refine guard_tt ?_ | refine guard_ff ?_ | refine guard_tf ?_ | refine guard_ft ?_ | refine rv_load H rfl ?_ | refine rv_load H.up1 rfl ?_ | refine rv_load H.up2 rfl ?_ | refine rv_load H.up3 rfl ?_ | refine rv_load H.up4 rfl ?_ | refine tp_nilc ?_ | refine tp_field0 ?_ | refine tp_field' ?_ | refine tp_eql ?_ | refine tp_neq ?_ | refine tp_lss ?_ | refine tp_leq ?_ | refine tp_gtr ?_ | refine tp_geq ?_ | refine tp_add ?_ | refine tp_sub ?_ | refine tp_mul ?_ | refine tp_and ?_ | refine tp_or ?_ | refine tp_xor ?_ | refine tp_convert_i ?_ | refine tp_eql_b ?_ | refine tp_neq_b ?_ | refine tp_eql_s ?_ | refine tp_neq_s ?_ | refine tp_eql_p0 ?_ | refine tp_eql_ps ?_ | refine tp_not_t ?_ | refine tp_not_f ?_ | refine tp_not ?_ | refine tp_neg ?_ | refine tp_min ?_ | refine tp_max ?_ | refine tp_len ?_ | refine tp_len_s ?_ | refine tp_ext2_0 ?_ | refine tp_ext2_1 ?_ | refine tp_ext3_0 ?_ | refine tp_ext3_1 ?_ | refine tp_ext3_2 ?_ | refine tp_ext4_0 ?_ | refine tp_ext4_1 ?_ | refine tp_ext4_2 ?_ | refine tp_ext4_3 ?_ | refine tk_load (fun _ H => H) rfl ?_ | refine tk_load (fun _ H => H.up1) rfl ?_ | refine tk_load (fun _ H => H.up2) rfl ?_ | refine tk_load (fun _ H => H.up3) rfl ?_)) | (refine Share.mk ?_) | (intro _) | (simp only [List.getD_cons_zero, List.getD_cons_succ, t2, ha, hb, t4])))
         exact K)
end
end Go.Proofs.Ytpfbpjoknlcbkaa
