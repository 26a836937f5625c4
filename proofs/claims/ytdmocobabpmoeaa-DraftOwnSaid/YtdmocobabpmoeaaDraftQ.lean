
/-
  The document's own answer for package draft: numbers, paths, truths; ports and bare.
-/
import Derived.Test.YtdmocobabpmoeaaDraftP
namespace Go.Proofs.Ytdmocobabpmoeaa
open Go.Vc Go.Sep Go.Ops
set_option linter.unusedVariables false
set_option linter.unusedSectionVars false
set_option linter.unusedSimpArgs false

section
variable {W w : World} {L : List HProp} {K : Value → World → Prop} {KU : World → Prop} {X : XPost}
/-- a list of one byte -/
theorem rv_byte {x : Int} (H : St W w L) (hx : 0 ≤ x ∧ x < 256) (k : ∀ y w', St W w' (Bs y [UInt8.ofNat x.toNat] :: L) → K y w') : RunV Try.prog (Instr.buildSlice 27 1 #[(0, .int .u8 x)]) w K X := by
  refine rv_build1 H rfl (by simp [Value.cells]) ?_
  clear H
  intro g w1 H
  have H := H.sl_of_cells (size := 1) (n := 1) (cap := 1) rfl (by omega) (by unfold maxLen; omega)
  refine k _ _ ?_
  have e1 : (Value.int .u8 x).cells.toList = bv [UInt8.ofNat x.toNat] := by
    have := bv_snoc (bs := []) hx
    simpa [bv, Value.cells] using this
  rw [e1] at H
  simpa [Bs, bv] using H
/-- bytes behind bytes -/
theorem rv_app {v x : Value} {bs xs : List UInt8} (H : St W w (Bs x xs :: Bs v bs :: L)) (hl : bs.length + xs.length ≤ 140737488355000) (k : ∀ y w', St W w' (Bs y (bs ++ xs) :: L) → K y w') : RunV Try.prog (Builtin.append_ #[27, 27] 27 #[v, x]) w K X := by
  refine rv_append_rd H.up1 (St.rd H) (by simp [bv]) bv_one (by unfold maxLen; omega) (by omega) ?_
  clear H
  intro y w1 H _
  refine k y w1 ?_
  rw [← bv_append] at H
  have H := H.up1.drop
  simpa [Bs] using H
theorem rnum_spec : ∀ (v : Nat) {w : World} {L : List HProp} {K : Value → World → Prop}, St W w L → v < 18446744073709551616 → (∀ y w', St W w' (Bs y (form v) :: L) → K y w') → FCall Try.prog Fn.sluiceref08_number #[.int .u64 v] w K X := by
  intro v
  induction v using Nat.strongRecOn with
  | _ v ih =>
  intro w L K H hv k
  refine sluiceref08_number_call ?_
  unfold Sh.sluiceref08_number
  (repeat with_reducible (first | refine Red.to ?_ | (refine is_rload ?_; (first | refine rv_load H rfl ?_ | refine rv_load H.up1 rfl ?_ | refine rv_load H.up2 rfl ?_ | refine rv_load H.up3 rfl ?_ | refine rv_load H.up4 rfl ?_))))
  refine cond_split (fun h => ?_) (fun h => ?_)
  · have h : v < 128 := by have := of_decide_eq_true h; omega
    (repeat with_reducible (first | refine Red.to ?_ | (refine is_rload ?_; (first | refine rv_load H rfl ?_ | refine rv_load H.up1 rfl ?_ | refine rv_load H.up2 rfl ?_ | refine rv_load H.up3 rfl ?_ | refine rv_load H.up4 rfl ?_))))
    rw [wrap8 (by omega)]
    refine rv_byte H (by omega) ?_
    rw [form_lt h] at k
    exact k
  · have h : 128 ≤ v := by have := of_decide_eq_false h; omega
    refine rv_rem (by decide) ?_
    (repeat with_reducible (first | refine Red.to ?_ | (refine is_rload ?_; (first | refine rv_load H rfl ?_ | refine rv_load H.up1 rfl ?_ | refine rv_load H.up2 rfl ?_ | refine rv_load H.up3 rfl ?_ | refine rv_load H.up4 rfl ?_))))
    have e1 : (v : Int).tmod 128 = ((v % 128 : Nat) : Int) := by
      rw [Int.tmod_eq_emod_of_nonneg (by omega)]; omega
    rw [e1, wrap8 (by omega)]
    have e3 : ((v % 128 : Nat) : Int) + 128 = ((v % 128 + 128 : Nat) : Int) := by omega
    rw [e3, wrap8 (by omega)]
    refine rv_byte H (by omega) ?_
    clear H
    intro y w1 H
    refine rv_quo (by decide) ?_
    have e2 : IntKind.u64.wrap ((v : Int).tdiv 128) = ((v / 128 : Nat) : Int) := by
      rw [Int.tdiv_eq_ediv_of_nonneg (by omega), u64_wrap]; omega
    rw [e2]
    refine ih (v / 128) (by omega) H (by omega) ?_
    clear H
    intro y1 w2 H
    have h10 := form_length10 (v := v / 128) (by omega)
    refine rv_app H (by simp; omega) ?_
    rw [form_ge h] at k
    exact k
/-- a number laid behind -/
theorem numB {v : Value} {bs : List UInt8} {n : Nat} (H : St W w (Bs v bs :: L)) (hn : n < 18446744073709551616) (hl : bs.length ≤ 100000000000) (k : ∀ y w', St W w' (Bs y (bs ++ form n) :: L) → K y w') :
    FCall Try.prog Fn.sluiceref08_number #[.int .u64 n] w (fun s w => RunV Try.prog (Builtin.append_ #[27, 27] 27 #[v, s]) w K X) X := by
  refine rnum_spec n H hn ?_
  clear H
  intro y w1 H
  have h10 := form_length10 hn
  exact rv_app H (by omega) k
theorem rtruth_spec {t : Bool} (H : St W w L) (k : ∀ y w', St W w' (Bs y (form (boolN t)) :: L) → K y w') : FCall Try.prog Fn.sluiceref08_truth #[.bool t] w K X := by
  refine sluiceref08_truth_call ?_
  unfold Sh.sluiceref08_truth
  cases t with
  | true =>
    refine cond_true' ?_
    refine rv_byte H (by omega) ?_
    rw [form_lt (by decide)] at k
    exact k
  | false =>
    refine cond_false' ?_
    refine rv_byte H (by omega) ?_
    rw [form_lt (by decide)] at k
    exact k
theorem truthB {v : Value} {bs : List UInt8} {t : Bool} (H : St W w (Bs v bs :: L)) (hl : bs.length ≤ 100000000000) (k : ∀ y w', St W w' (Bs y (bs ++ form (boolN t)) :: L) → K y w') :
    FCall Try.prog Fn.sluiceref08_truth #[.bool t] w (fun s w => RunV Try.prog (Builtin.append_ #[27, 27] 27 #[v, s]) w K X) X := by
  refine rtruth_spec H ?_
  clear H
  intro y w1 H
  have h10 := form_length10 (v := boolN t) (by cases t <;> decide)
  exact rv_app H (by omega) k
theorem rpath_spec {a b c : Nat} (ha : a < 18446744073709551616) (hb : b < 18446744073709551616) (hc : c < 18446744073709551616) (H : St W w L) (k : ∀ y w', St W w' (Bs y (fb [a, b, c]) :: L) → K y w') : FCall Try.prog Fn.sluiceref08_path #[.agg #[.int .u64 a, .int .u64 b, .int .u64 c]] w K X := by
  refine sluiceref08_path_call ?_
  unfold Sh.sluiceref08_path
  refine rv_box (c := [.int .u64 a, .int .u64 b, .int .u64 c]) H rfl ?_
  clear H
  intro g w1 H
  replace H := H.drew
  refine ⟨fun w => St W w [cells g 56 [.int .u64 a, .int .u64 b, .int .u64 c]], St.head H, ?_⟩
  (repeat with_reducible (first | refine Red.to ?_ | (refine is_tload ?_; (first | refine tk_load (fun _ H => H) rfl ?_ | refine tk_load (fun _ H => H.up1) rfl ?_ | refine tk_load (fun _ H => H.up2) rfl ?_ | refine tk_load (fun _ H => H.up3) rfl ?_))))
  have la := form_length10 ha
  have lb := form_length10 hb
  have lc := form_length10 hc
  refine rnum_spec a H ha ?_
  clear H
  intro y w2 H
  first | refine keep_same (St.head H.up1) ?_ | refine ⟨St.head H.up1, ?_⟩
  refine numB H hb (by omega) ?_
  clear H
  intro y w3 H
  have H := H.up1
  (repeat with_reducible (first | refine Red.to ?_ | (refine is_rload ?_; (first | refine rv_load H rfl ?_ | refine rv_load H.up1 rfl ?_ | refine rv_load H.up2 rfl ?_ | refine rv_load H.up3 rfl ?_ | refine rv_load H.up4 rfl ?_))))
  refine numB H.up1 hc (by simp; omega) ?_
  clear H
  intro y w4 H
  refine k _ _ ?_
  have e : fb [a, b, c] = form a ++ form b ++ form c := by simp [fb]
  rw [e]
  exact H.up1.drop
theorem pathB {v : Value} {bs : List UInt8} {a b c : Nat} (H : St W w (Bs v bs :: L)) (ha : a < 18446744073709551616) (hb : b < 18446744073709551616) (hc : c < 18446744073709551616) (hl : bs.length ≤ 100000000000) (k : ∀ y w', St W w' (Bs y (bs ++ fb [a, b, c]) :: L) → K y w') :
    FCall Try.prog Fn.sluiceref08_path #[.agg #[.int .u64 a, .int .u64 b, .int .u64 c]] w (fun s w => RunV Try.prog (Builtin.append_ #[27, 27] 27 #[v, s]) w K X) X := by
  refine rpath_spec ha hb hc H ?_
  clear H
  intro y w1 H
  have l := fb_len (l := [a, b, c]) (by intro y hy; simp at hy; omega)
  simp only [List.length_cons, List.length_nil] at l
  exact rv_app H (by omega) k
theorem rports_spec {n : NodeV} (H : St W w L) (k : ∀ w', St W w' L → K (.bool (portsB n)) w') : FCall Try.prog Fn.sluiceref08_ports #[.agg n.cs.toArray] w K X := by
  refine sluiceref08_ports_call ?_
  unfold Sh.sluiceref08_ports
  refine rv_box (c := n.cs) H rfl ?_
  clear H
  intro b w1 H
  unfold NodeV.cs at H
  have k := k _ H.drop
  unfold portsB at k
  have p0 : ∀ {x : Bool} {c : Bool}, (x = c) → K (.bool x) w1 → K (.bool c) w1 := fun h h2 => h ▸ h2
  (repeat with_reducible (first | refine Red.to ?_ | (refine is_rload ?_; (first | refine rv_load H rfl ?_ | refine rv_load H.up1 rfl ?_ | refine rv_load H.up2 rfl ?_ | refine rv_load H.up3 rfl ?_ | refine rv_load H.up4 rfl ?_))))
  refine cond_split (fun h => ?_) (fun h => ?_)
  · have h : n.kd = 1 := by simpa using h
    rw [if_pos h] at k
    (repeat with_reducible (first | refine Red.to ?_ | (refine is_rload ?_; (first | refine rv_load H rfl ?_ | refine rv_load H.up1 rfl ?_ | refine rv_load H.up2 rfl ?_ | refine rv_load H.up3 rfl ?_ | refine rv_load H.up4 rfl ?_))))
    refine guard_split (fun h1 => ?_) (fun h1 => ?_)
    · rw [h1]
      (repeat with_reducible (first | refine Red.to ?_ | (refine is_rload ?_; (first | refine rv_load H rfl ?_ | refine rv_load H.up1 rfl ?_ | refine rv_load H.up2 rfl ?_ | refine rv_load H.up3 rfl ?_ | refine rv_load H.up4 rfl ?_))))
      refine p0 ?_ k
      have h1 : n.ins = 0 := by simpa using h1
      rw [eq_dec, Bool.eq_iff_iff]
      simp
      omega
    · have h1 : (n.ins == 0) = false := h1
      rw [h1]
      (repeat with_reducible (first | refine Red.to ?_ | (refine is_rload ?_; (first | refine rv_load H rfl ?_ | refine rv_load H.up1 rfl ?_ | refine rv_load H.up2 rfl ?_ | refine rv_load H.up3 rfl ?_ | refine rv_load H.up4 rfl ?_))))
      refine p0 ?_ k
      have h1 : ¬ n.ins = 0 := by simpa using h1
      rw [Bool.eq_iff_iff]
      simp
      omega
  have hk1 : ¬ n.kd = 1 := by simpa using h
  rw [if_neg hk1] at k
  (repeat with_reducible (first | refine Red.to ?_ | (refine is_rload ?_; (first | refine rv_load H rfl ?_ | refine rv_load H.up1 rfl ?_ | refine rv_load H.up2 rfl ?_ | refine rv_load H.up3 rfl ?_ | refine rv_load H.up4 rfl ?_))))
  refine cond_split (fun h => ?_) (fun h => ?_)
  · have h : n.kd = 7 := by simpa using h
    rw [if_pos h] at k
    (repeat with_reducible (first | refine Red.to ?_ | (refine is_rload ?_; (first | refine rv_load H rfl ?_ | refine rv_load H.up1 rfl ?_ | refine rv_load H.up2 rfl ?_ | refine rv_load H.up3 rfl ?_ | refine rv_load H.up4 rfl ?_))))
    refine guard_split (fun h1 => ?_) (fun h1 => ?_)
    · rw [h1]
      (repeat with_reducible (first | refine Red.to ?_ | (refine is_rload ?_; (first | refine rv_load H rfl ?_ | refine rv_load H.up1 rfl ?_ | refine rv_load H.up2 rfl ?_ | refine rv_load H.up3 rfl ?_ | refine rv_load H.up4 rfl ?_))))
      refine p0 ?_ k
      have h1 : n.ins = 1 := by simpa using h1
      rw [eq_dec, Bool.eq_iff_iff]
      simp
      omega
    · have h1 : (n.ins == 1) = false := h1
      rw [h1]
      (repeat with_reducible (first | refine Red.to ?_ | (refine is_rload ?_; (first | refine rv_load H rfl ?_ | refine rv_load H.up1 rfl ?_ | refine rv_load H.up2 rfl ?_ | refine rv_load H.up3 rfl ?_ | refine rv_load H.up4 rfl ?_))))
      refine p0 ?_ k
      have h1 : ¬ n.ins = 1 := by simpa using h1
      rw [Bool.eq_iff_iff]
      simp
      omega
  have hk7 : ¬ n.kd = 7 := by simpa using h
  rw [if_neg hk7] at k
  (repeat with_reducible (first | refine Red.to ?_ | (refine is_rload ?_; (first | refine rv_load H rfl ?_ | refine rv_load H.up1 rfl ?_ | refine rv_load H.up2 rfl ?_ | refine rv_load H.up3 rfl ?_ | refine rv_load H.up4 rfl ?_))))
  refine cond_split (fun h => ?_) (fun h => ?_)
  · have h : n.kd = 4 := by simpa using h
    rw [if_pos h] at k
    (repeat with_reducible (first | refine Red.to ?_ | (refine is_rload ?_; (first | refine rv_load H rfl ?_ | refine rv_load H.up1 rfl ?_ | refine rv_load H.up2 rfl ?_ | refine rv_load H.up3 rfl ?_ | refine rv_load H.up4 rfl ?_))))
    refine guard_split (fun h1 => ?_) (fun h1 => ?_)
    · rw [h1]
      (repeat with_reducible (first | refine Red.to ?_ | (refine is_rload ?_; (first | refine rv_load H rfl ?_ | refine rv_load H.up1 rfl ?_ | refine rv_load H.up2 rfl ?_ | refine rv_load H.up3 rfl ?_ | refine rv_load H.up4 rfl ?_))))
      refine p0 ?_ k
      have h1 : 0 ≤ n.ins := by simpa using h1
      rw [eq_dec, Bool.eq_iff_iff]
      simp
      omega
    · have h1 : decide (0 ≤ n.ins) = false := h1
      rw [h1]
      (repeat with_reducible (first | refine Red.to ?_ | (refine is_rload ?_; (first | refine rv_load H rfl ?_ | refine rv_load H.up1 rfl ?_ | refine rv_load H.up2 rfl ?_ | refine rv_load H.up3 rfl ?_ | refine rv_load H.up4 rfl ?_))))
      refine p0 ?_ k
      have h1 : ¬ 0 ≤ n.ins := by simpa using h1
      rw [Bool.eq_iff_iff]
      simp
      omega
  have hk4 : ¬ n.kd = 4 := by simpa using h
  rw [if_neg hk4] at k
  (repeat with_reducible (first | refine Red.to ?_ | (refine is_rload ?_; (first | refine rv_load H rfl ?_ | refine rv_load H.up1 rfl ?_ | refine rv_load H.up2 rfl ?_ | refine rv_load H.up3 rfl ?_ | refine rv_load H.up4 rfl ?_))))
  refine cond_split (fun h => ?_) (fun h => ?_)
  · have h : n.kd = 8 := by simpa using h
    rw [if_pos h] at k
    (repeat with_reducible (first | refine Red.to ?_ | (refine is_rload ?_; (first | refine rv_load H rfl ?_ | refine rv_load H.up1 rfl ?_ | refine rv_load H.up2 rfl ?_ | refine rv_load H.up3 rfl ?_ | refine rv_load H.up4 rfl ?_))))
    refine guard_split (fun h1 => ?_) (fun h1 => ?_)
    · rw [h1]
      (repeat with_reducible (first | refine Red.to ?_ | (refine is_rload ?_; (first | refine rv_load H rfl ?_ | refine rv_load H.up1 rfl ?_ | refine rv_load H.up2 rfl ?_ | refine rv_load H.up3 rfl ?_ | refine rv_load H.up4 rfl ?_))))
      refine p0 ?_ k
      have h1 : 0 ≤ n.ins := by simpa using h1
      rw [Bool.eq_iff_iff]
      simp
      omega
    · have h1 : decide (0 ≤ n.ins) = false := h1
      rw [h1]
      (repeat with_reducible (first | refine Red.to ?_ | (refine is_rload ?_; (first | refine rv_load H rfl ?_ | refine rv_load H.up1 rfl ?_ | refine rv_load H.up2 rfl ?_ | refine rv_load H.up3 rfl ?_ | refine rv_load H.up4 rfl ?_))))
      refine p0 ?_ k
      have h1 : ¬ 0 ≤ n.ins := by simpa using h1
      rw [Bool.eq_iff_iff]
      simp
      omega
  have hk8 : ¬ n.kd = 8 := by simpa using h
  rw [if_neg hk8] at k
  (repeat with_reducible (first | refine Red.to ?_ | (refine is_rload ?_; (first | refine rv_load H rfl ?_ | refine rv_load H.up1 rfl ?_ | refine rv_load H.up2 rfl ?_ | refine rv_load H.up3 rfl ?_ | refine rv_load H.up4 rfl ?_))))
  refine guard_split (fun h1 => ?_) (fun h1 => ?_)
  · rw [h1]
    (repeat with_reducible (first | refine Red.to ?_ | (refine is_rload ?_; (first | refine rv_load H rfl ?_ | refine rv_load H.up1 rfl ?_ | refine rv_load H.up2 rfl ?_ | refine rv_load H.up3 rfl ?_ | refine rv_load H.up4 rfl ?_))))
    refine p0 ?_ k
    have h1 : n.ins = 1 := by simpa using h1
    rw [eq_dec, Bool.eq_iff_iff]
    simp
    omega
  · have h1 : (n.ins == 1) = false := h1
    rw [h1]
    (repeat with_reducible (first | refine Red.to ?_ | (refine is_rload ?_; (first | refine rv_load H rfl ?_ | refine rv_load H.up1 rfl ?_ | refine rv_load H.up2 rfl ?_ | refine rv_load H.up3 rfl ?_ | refine rv_load H.up4 rfl ?_))))
    refine p0 ?_ k
    have h1 : ¬ n.ins = 1 := by simpa using h1
    rw [Bool.eq_iff_iff]
    simp
    omega
end
end Go.Proofs.Ytdmocobabpmoeaa
