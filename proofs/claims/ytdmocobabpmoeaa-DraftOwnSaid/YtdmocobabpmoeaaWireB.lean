
/-
  Contracts of package wire: the reader.
-/
import Derived.Test.YtdmocobabpmoeaaWireA
namespace Go.Proofs.Ytdmocobabpmoeaa
open Go.Vc Go.Sep Go.Ops
set_option linter.unusedVariables false
set_option linter.unusedSectionVars false
set_option linter.unusedSimpArgs false

/-- a number at the front of bytes: it, how many bytes it has, the error -/
def numGo : Nat → Nat → List UInt8 → Nat × Nat × Nat
  | _, _, [] => (0, 0, 30)
  | i, v, b :: r => if (0 < i ∧ b = 0) ∨ (i = 9 ∧ b ≠ 1) then (0, 0, 31) else
      if b.toNat < 128 then (v + b.toNat % 128 * 128 ^ i, i + 1, 0) else numGo (i + 1) (v + b.toNat % 128 * 128 ^ i) r
def num (l : List UInt8) : Nat × Nat × Nat := numGo 0 0 l

theorem numGo_bounds : ∀ (l : List UInt8) (i v : Nat), v < 128 ^ i → i ≤ 9 → (numGo i v l).1 < 18446744073709551616 ∧ (numGo i v l).2.1 ≤ i + l.length ∧ ((numGo i v l).2.2 = 0 → 1 ≤ (numGo i v l).2.1 ∧ (numGo i v l).2.1 ≤ 10) ∧ ((numGo i v l).2.2 = 0 ∨ (numGo i v l).2.2 = 30 ∨ (numGo i v l).2.2 = 31) ∧ ((numGo i v l).2.2 ≠ 0 → (numGo i v l).1 = 0 ∧ (numGo i v l).2.1 = 0)
  | [], i, v, hv, hi => by simp [numGo]
  | b :: r, i, v, hv, hi => by
    unfold numGo
    have hb := b.toNat_lt
    have hm : b.toNat % 128 < 128 := Nat.mod_lt _ (by decide)
    have hle : v + b.toNat % 128 * 128 ^ i < 128 ^ (i + 1) := by
      have : b.toNat % 128 * 128 ^ i ≤ 127 * 128 ^ i := Nat.mul_le_mul_right _ (by omega)
      rw [Nat.pow_succ]; omega
    split
    · simp
    · rename_i hn
      split
      · refine ⟨?_, by simp, fun _ => by simp; omega, .inl rfl, by simp⟩
        simp only
        by_cases h9 : i = 9
        · subst h9
          have h1 : b = 1 := by
            refine Classical.byContradiction fun hne => hn (.inr ⟨rfl, hne⟩)
          subst h1
          have : (1 : UInt8).toNat % 128 = 1 := by decide
          rw [this]
          have e9 : (128 : Nat) ^ 9 = 9223372036854775808 := by simp
          rw [e9] at hv ⊢
          clear hle
          omega
        · have h2 : 128 ^ (i + 1) ≤ 128 ^ 9 := Nat.pow_le_pow_right (by decide) (by omega)
          have : (128 : Nat) ^ 9 = 9223372036854775808 := by simp
          omega
      · rename_i h128
        have h9 : i ≠ 9 := by
          rintro rfl
          refine hn (.inr ⟨rfl, ?_⟩)
          rintro rfl
          exact h128 (by decide)
        have ih := numGo_bounds r (i + 1) _ hle (by omega)
        refine ⟨ih.1, by simp only [List.length_cons]; omega, ih.2.2.1, ih.2.2.2⟩

def Rr (b : Nat) (e : Int) (bs : List UInt8) (at_ : Nat) : HProp := pr (at_ ≤ bs.length ∧ bs.length ≤ 140737488351232) (ex fun v => all [cells b 111 [.int .i64 e, v, .int .i64 at_], Bs v bs])
section
variable {W w : World} {L : List HProp} {K : Value → World → Prop} {X : XPost}
theorem Rr.o {b : Nat} {e : Int} {bs : List UInt8} {at_ : Nat} (H : St W w (Rr b e bs at_ :: L)) : at_ ≤ bs.length ∧ bs.length ≤ 140737488351232 ∧ ∃ v, St W w (cells b 111 [.int .i64 e, v, .int .i64 at_] :: Bs v bs :: L) :=
  ⟨H.pr.1.1, H.pr.1.2, H.pr.2.ex.imp fun v h => h.all⟩
theorem Rr.m {b : Nat} {e : Int} {bs : List UInt8} {at_ : Nat} {v : Value} (h : at_ ≤ bs.length) (hl : bs.length ≤ 140737488351232) (H : St W w (cells b 111 [.int .i64 e, v, .int .i64 at_] :: Bs v bs :: L)) : St W w (Rr b e bs at_ :: L) :=
  St.pr_mk ⟨h, hl⟩ (St.ex_mk v (St.all_mk H))

theorem roff_nil (k : K (.bool true) w) : FCall Try.prog Fn.wire_Reader_off #[.pointer none] w K X := by
  refine wire_Reader_off_call ?_
  unfold Sh.wire_Reader_off
  (repeat with_reducible (first | refine Red.to ?_ | (refine is_rload ?_; (first | refine rv_load H rfl ?_ | refine rv_load H.up1 rfl ?_ | refine rv_load H.up2 rfl ?_ | refine rv_load H.up3 rfl ?_ | refine rv_load H.up4 rfl ?_))))
  exact k
theorem roff_spec {b : Nat} {c : List Value} {e : Int} (H : St W w (cells b 111 (.int .i64 e :: c) :: L)) (k : K (.bool (e != 0)) w) : FCall Try.prog Fn.wire_Reader_off #[.pointer (some ⟨b, 0, none⟩)] w K X := by
  refine wire_Reader_off_call ?_
  unfold Sh.wire_Reader_off
  (repeat with_reducible (first | refine Red.to ?_ | (refine is_rload ?_; (first | refine rv_load H rfl ?_ | refine rv_load H.up1 rfl ?_ | refine rv_load H.up2 rfl ?_ | refine rv_load H.up3 rfl ?_ | refine rv_load H.up4 rfl ?_))))
  refine failed_spec H ?_
  (repeat with_reducible (first | refine Red.to ?_ | (refine is_rload ?_; (first | refine rv_load H rfl ?_ | refine rv_load H.up1 rfl ?_ | refine rv_load H.up2 rfl ?_ | refine rv_load H.up3 rfl ?_ | refine rv_load H.up4 rfl ?_))))
  exact k
theorem NewReader_spec {v : Value} {bs : List UInt8} (H : St W w L) (R : Kn W L v bs.length (bv bs)) (hl : bs.length ≤ 140737488351232)
    (k : ∀ b w', St W w' (Rr b 0 bs 0 :: L) → K (.pointer (some ⟨b, 0, none⟩)) w') : FCall Try.prog Fn.wire_NewReader #[v] w K X := by
  refine wire_NewReader_call ?_
  unfold Sh.wire_NewReader
  refine Clone_spec H R hl ?_
  intro y w1 H
  rcases H.sl_form.2 with ⟨rfl, _⟩ | ⟨g, cap, rfl, _⟩
  · refine rv (v := .agg #[.int .i64 0, .slice none 0 0, .int .i64 0]) (w' := w1) (by kernel_rfl) ?_
    refine rv_box (c := [.int .i64 0, .slice none 0 0, .int .i64 0]) H rfl ?_
    intro b w2 H
    exact k b w2 (Rr.m (by omega) hl H)
  · refine rv (v := .agg #[.int .i64 0, .slice (some ⟨g, 0, none⟩) bs.length cap, .int .i64 0]) (w' := w1) (by kernel_rfl) ?_
    refine rv_box (c := [.int .i64 0, .slice (some ⟨g, 0, none⟩) bs.length cap, .int .i64 0]) H rfl ?_
    intro b w2 H
    exact k b w2 (Rr.m (by omega) hl H)

theorem REnd_nil (k : ∀ w', St W w' L → K (.tuple #[]) w') (H : St W w L) : FCall Try.prog Fn.wire_Reader_End #[.pointer none] w K X := by
  refine wire_Reader_End_call ?_
  unfold Sh.wire_Reader_End
  refine ⟨⟨fun w => St W w L, H.drew, ?_⟩⟩
  refine roff_nil ?_
  first | refine keep_same (H.drew) ?_ | refine ⟨H.drew, ?_⟩
  (repeat with_reducible (first | refine Red.to ?_ | (refine is_tload ?_; (first | refine tk_load (fun _ H => H) rfl ?_ | refine tk_load (fun _ H => H.up1) rfl ?_ | refine tk_load (fun _ H => H.up2) rfl ?_ | refine tk_load (fun _ H => H.up3) rfl ?_))))
  intro σ
  simp only [List.getD_cons_zero, List.getD_cons_succ]
  (repeat with_reducible (first | refine Red.to ?_ | (refine is_rload ?_; (first | refine rv_load H rfl ?_ | refine rv_load H.up1 rfl ?_ | refine rv_load H.up2 rfl ?_ | refine rv_load H.up3 rfl ?_ | refine rv_load H.up4 rfl ?_))))
  exact k _ H.drew
theorem RAt_nil (k : K (.int .i64 0) w) : FCall Try.prog Fn.wire_Reader_At #[.pointer none] w K X := by
  refine wire_Reader_At_call ?_
  unfold Sh.wire_Reader_At
  (repeat with_reducible (first | refine Red.to ?_ | (refine is_rload ?_; (first | refine rv_load H rfl ?_ | refine rv_load H.up1 rfl ?_ | refine rv_load H.up2 rfl ?_ | refine rv_load H.up3 rfl ?_ | refine rv_load H.up4 rfl ?_))))
  exact k
theorem RErr_nil (k : K (.int .i64 0) w) : FCall Try.prog Fn.wire_Reader_Err #[.pointer none] w K X := by
  refine wire_Reader_Err_call ?_
  unfold Sh.wire_Reader_Err
  (repeat with_reducible (first | refine Red.to ?_ | (refine is_rload ?_; (first | refine rv_load H rfl ?_ | refine rv_load H.up1 rfl ?_ | refine rv_load H.up2 rfl ?_ | refine rv_load H.up3 rfl ?_ | refine rv_load H.up4 rfl ?_))))
  exact k
theorem RAt_spec {b : Nat} {e : Int} {bs : List UInt8} {at_ : Nat} (H : St W w (Rr b e bs at_ :: L)) (k : K (.int .i64 at_) w) : FCall Try.prog Fn.wire_Reader_At #[.pointer (some ⟨b, 0, none⟩)] w K X := by
  refine wire_Reader_At_call ?_
  unfold Sh.wire_Reader_At
  obtain ⟨_, _, v, H⟩ := Rr.o H
  (repeat with_reducible (first | refine Red.to ?_ | (refine is_rload ?_; (first | refine rv_load H rfl ?_ | refine rv_load H.up1 rfl ?_ | refine rv_load H.up2 rfl ?_ | refine rv_load H.up3 rfl ?_ | refine rv_load H.up4 rfl ?_))))
  exact k
theorem RErr_spec {b : Nat} {e : Int} {bs : List UInt8} {at_ : Nat} (H : St W w (Rr b e bs at_ :: L)) (k : K (.int .i64 e) w) : FCall Try.prog Fn.wire_Reader_Err #[.pointer (some ⟨b, 0, none⟩)] w K X := by
  refine wire_Reader_Err_call ?_
  unfold Sh.wire_Reader_Err
  obtain ⟨_, _, v, H⟩ := Rr.o H
  (repeat with_reducible (first | refine Red.to ?_ | (refine is_rload ?_; (first | refine rv_load H rfl ?_ | refine rv_load H.up1 rfl ?_ | refine rv_load H.up2 rfl ?_ | refine rv_load H.up3 rfl ?_ | refine rv_load H.up4 rfl ?_))))
  exact k

theorem REnd_spec {b : Nat} {e : Int} {bs : List UInt8} {at_ : Nat} (H : St W w (Rr b e bs at_ :: L))
    (k : ∀ w', St W w' (Rr b (if e = 0 ∧ at_ < bs.length then 32 else e) bs at_ :: L) → K (.tuple #[]) w') : FCall Try.prog Fn.wire_Reader_End #[.pointer (some ⟨b, 0, none⟩)] w K X := by
  refine wire_Reader_End_call ?_
  unfold Sh.wire_Reader_End
  obtain ⟨ha, hl, v, H⟩ := Rr.o H
  refine share_of (fun vs w => vs = [.bool (decide (e = 0 ∧ at_ < bs.length))] ∧ St W w (cells b 111 [.int .i64 e, v, .int .i64 at_] :: Bs v bs :: L)) ?_ ?_
  · rintro vs w ⟨rfl, H⟩ σ
    simp only [List.getD_cons_zero]
    refine cond_split (fun h => ?_) (fun h => ?_)
    · have h := of_decide_eq_true h
      (repeat with_reducible (first | refine Red.to ?_ | (refine is_rload ?_; (first | refine rv_load H rfl ?_ | refine rv_load H.up1 rfl ?_ | refine rv_load H.up2 rfl ?_ | refine rv_load H.up3 rfl ?_ | refine rv_load H.up4 rfl ?_))))
      refine fail_spec H ?_
      intro w1 H
      refine k w1 ?_
      rw [if_pos h]
      rw [if_pos h.1] at H
      exact Rr.m ha hl H
    · have h := of_decide_eq_false h
      refine k w ?_
      rw [if_neg h]
      exact Rr.m ha hl H
  · intro J hJ
    refine ⟨fun w => St W w (cells b 111 [.int .i64 e, v, .int .i64 at_] :: Bs v bs :: L), H.drew, ?_⟩
    refine roff_spec H.drew ?_
    first | refine keep_same (H.drew) ?_ | refine ⟨H.drew, ?_⟩
    (repeat with_reducible (first | refine Red.to ?_ | (refine is_tload ?_; (first | refine tk_load (fun _ H => H) rfl ?_ | refine tk_load (fun _ H => H.up1) rfl ?_ | refine tk_load (fun _ H => H.up2) rfl ?_ | refine tk_load (fun _ H => H.up3) rfl ?_))))
    refine guard_split (fun h => ?_) (fun h => ?_)
    · have he : e = 0 := by simpa using h
      rw [h]
      (repeat with_reducible (first | refine Red.to ?_ | (refine is_tload ?_; (first | refine tk_load (fun _ H => H) rfl ?_ | refine tk_load (fun _ H => H.up1) rfl ?_ | refine tk_load (fun _ H => H.up2) rfl ?_ | refine tk_load (fun _ H => H.up3) rfl ?_))))
      refine rv_load H.drew rfl ?_
      first | refine keep_same (H.drew) ?_ | refine ⟨H.drew, ?_⟩
      refine tp_len_rd H.drew.up1.rd ?_
      (repeat with_reducible (first | refine Red.to ?_ | (refine is_tload ?_; (first | refine tk_load (fun _ H => H) rfl ?_ | refine tk_load (fun _ H => H.up1) rfl ?_ | refine tk_load (fun _ H => H.up2) rfl ?_ | refine tk_load (fun _ H => H.up3) rfl ?_))))
      exact hJ _ _ ⟨by simp [he], H.drew⟩
    · have he : e ≠ 0 := by simpa using h
      rw [h]
      (repeat with_reducible (first | refine Red.to ?_ | (refine is_tload ?_; (first | refine tk_load (fun _ H => H) rfl ?_ | refine tk_load (fun _ H => H.up1) rfl ?_ | refine tk_load (fun _ H => H.up2) rfl ?_ | refine tk_load (fun _ H => H.up3) rfl ?_))))
      exact hJ _ _ ⟨by simp [he], H.drew⟩

theorem and127 (x : UInt8) : IntKind.u64.wrap (bitsOf .and .u8 (x.toNat : Int) 127) = ((x.toNat % 128 : Nat) : Int) := by
  have key : ∀ n : Fin 256, IntKind.u64.wrap (bitsOf .and .u8 ((n.val : Nat) : Int) 127) = ((n.val % 128 : Nat) : Int) := by decide +kernel
  exact key ⟨x.toNat, x.toNat_lt⟩
theorem or_shift {v i m : Nat} (hv : v < 128 ^ i) (hm : m < 128) (hi : i ≤ 9) (h9 : i = 9 → m ≤ 1) :
    bitsOf .or .u64 (v : Int) (IntKind.u64.wrap ((m : Int) * 2 ^ min (Int.toNat (IntKind.i64.wrap (7 * (i : Int)))) IntKind.u64.bits)) = ((v + m * 128 ^ i : Nat) : Int) := by
  have hw : IntKind.i64.wrap (7 * (i : Int)) = ((7 * i : Nat) : Int) := by
    simp [IntKind.wrap, IntKind.bits, IntKind.signed]; omega
  have hmin : min (Int.toNat ((7 * i : Nat) : Int)) IntKind.u64.bits = 7 * i := by simp [IntKind.bits]; omega
  rw [hw, hmin]
  have hp : (2 : Nat) ^ (7 * i) = 128 ^ i := by rw [Nat.pow_mul]
  have hlt : m * 128 ^ i < 18446744073709551616 := by
    by_cases e : i = 9
    · subst e
      have := h9 rfl
      have : m * 128 ^ 9 ≤ 1 * 128 ^ 9 := Nat.mul_le_mul_right _ this
      have : (128 : Nat) ^ 9 = 9223372036854775808 := by simp
      omega
    · have h2 : 128 ^ i ≤ 128 ^ 8 := Nat.pow_le_pow_right (by decide) (by omega)
      have : m * 128 ^ i ≤ 127 * 128 ^ 8 := Nat.mul_le_mul (by omega) h2
      have : (127 : Nat) * 128 ^ 8 = 9151314442816847872 := by simp
      omega
  have e1 : ((m : Int) * 2 ^ (7 * i)) = ((m * 128 ^ i : Nat) : Int) := by
    rw [← hp]; simp
  have hv' : v < 18446744073709551616 := by
    have h2 : 128 ^ i ≤ 128 ^ 9 := Nat.pow_le_pow_right (by decide) hi
    have : (128 : Nat) ^ 9 = 9223372036854775808 := by simp
    omega
  rw [e1, u64_wrap]
  have e2 : ((m * 128 ^ i : Nat) : Int) % 18446744073709551616 = ((m * 128 ^ i : Nat) : Int) := by omega
  rw [e2]
  have h : bitsOf .or .u64 (v : Int) ((m * 128 ^ i : Nat) : Int) = IntKind.u64.wrap ((BitVec.ofInt 64 (v : Int) ||| BitVec.ofInt 64 ((m * 128 ^ i : Nat) : Int)).toNat : Int) := rfl
  rw [h, BitVec.ofInt_natCast, BitVec.ofInt_natCast, BitVec.toNat_or, BitVec.toNat_ofNat, BitVec.toNat_ofNat, Nat.mod_eq_of_lt (by simpa using hv'), Nat.mod_eq_of_lt (by simpa using hlt)]
  have e3 : v ||| m * 128 ^ i = v + m * 128 ^ i := by
    rw [← hp, Nat.mul_comm m, Nat.or_comm, ← Nat.two_pow_add_eq_or_of_lt (by rw [hp]; exact hv)]
    omega
  rw [e3, u64_wrap]
  have hs : v + m * 128 ^ i < 18446744073709551616 := by
    by_cases e : i = 9
    · subst e
      have := h9 rfl
      have : m * 128 ^ 9 ≤ 1 * 128 ^ 9 := Nat.mul_le_mul_right _ this
      have : (128 : Nat) ^ 9 = 9223372036854775808 := by simp
      omega
    · have h2 : 128 ^ i ≤ 128 ^ 8 := Nat.pow_le_pow_right (by decide) (by omega)
      have : m * 128 ^ i ≤ 127 * 128 ^ 8 := Nat.mul_le_mul (by omega) h2
      have : (127 : Nat) * 128 ^ 8 = 9151314442816847872 := by simp
      have : (128 : Nat) ^ 8 = 72057594037927936 := by simp
      omega
  omega

theorem i64_small {n : Int} (h0 : -9223372036854775808 ≤ n) (h1 : n < 9223372036854775808) : IntKind.i64.wrap n = n := by
  simp [IntKind.wrap, IntKind.bits, IntKind.signed]; omega
def bad (i : Nat) (b : UInt8) : Bool := decide ((0 < i ∧ b = 0) ∨ (i = 9 ∧ b ≠ 1))
theorem u8_zero (b : UInt8) : ((b.toNat : Int) == 0) = decide (b = 0) := by
  rw [Bool.eq_iff_iff]; simp [← UInt8.toNat_inj]
theorem u8_one (b : UInt8) : ((b.toNat : Int) != 1) = decide (b ≠ 1) := by
  rw [Bool.eq_iff_iff]; simp [← UInt8.toNat_inj]; omega
theorem numGo_cons (i v : Nat) (b : UInt8) (r : List UInt8) : numGo i v (b :: r) = if bad i b = true then (0, 0, 31) else
      if b.toNat < 128 then (v + b.toNat % 128 * 128 ^ i, i + 1, 0) else numGo (i + 1) (v + b.toNat % 128 * 128 ^ i) r := by
  rw [numGo]; simp only [bad, decide_eq_true_eq]

def numTuple (r : Nat × Nat × Nat) : Value := .tuple #[.int .u64 r.1, .int .i64 r.2.1, .int .i64 r.2.2]

theorem number_spec {b : Nat} {e : Int} {bs : List UInt8} {at_ : Nat} (H : St W w (Rr b e bs at_ :: L))
    (k : ∀ w', St W w' (Rr b e bs at_ :: L) → K (numTuple (num (bs.drop at_))) w') : FCall Try.prog Fn.wire_Reader_number #[.pointer (some ⟨b, 0, none⟩)] w K X := by
  refine wire_Reader_number_call ?_
  unfold Sh.wire_Reader_number
  obtain ⟨ha, hl, v, H⟩ := Rr.o H
  refine share_of (fun vs w => num (bs.drop at_) = (0, 0, 30) ∧ St W w (cells b 111 [.int .i64 e, v, .int .i64 at_] :: Bs v bs :: L)) ?_ ?_
  · rintro vs w ⟨hn, H⟩ σ
    have := k w (Rr.m ha hl H)
    rw [hn] at this
    exact this
  intro J hJ
  refine ⟨fun w => St W w (cells b 111 [.int .i64 e, v, .int .i64 at_] :: Bs v bs :: L), H.drew, ?_⟩
  (repeat with_reducible (first | refine Red.to ?_ | (refine is_tload ?_; (first | refine tk_load (fun _ H => H) rfl ?_ | refine tk_load (fun _ H => H.up1) rfl ?_ | refine tk_load (fun _ H => H.up2) rfl ?_ | refine tk_load (fun _ H => H.up3) rfl ?_))))
  refine rv_load H.drew rfl ?_
  first | refine keep_same (H.drew) ?_ | refine ⟨H.drew, ?_⟩
  rcases H.up1.sl_form.2 with ⟨rfl, hz⟩ | ⟨g, cap, rfl, hn, hc⟩
  · have hbs : bs = [] := List.eq_nil_of_length_eq_zero hz
    subst hbs
    obtain rfl : at_ = 0 := by simpa using ha
    refine tp_slice_l_nil ?_
    (repeat with_reducible (first | refine Red.to ?_ | (refine is_tload ?_; (first | refine tk_load (fun _ H => H) rfl ?_ | refine tk_load (fun _ H => H.up1) rfl ?_ | refine tk_load (fun _ H => H.up2) rfl ?_ | refine tk_load (fun _ H => H.up3) rfl ?_))))
    refine loop_of (fun vs w => vs = [.int .u64 0, .int .i64 0] ∧ St W w (cells b 111 [.int .i64 e, .slice none 0 0, .int .i64 (0 : Nat)] :: Bs (.slice none 0 0) [] :: L)) (fun _ _ => 0) ⟨rfl, H.drew⟩ ?_
    rintro vs w kk ⟨rfl, H⟩ _ σ
    simp only [List.getD_cons_zero, List.getD_cons_succ]
    (repeat with_reducible (first | refine Red.to ?_ | (refine is_rload ?_; (first | refine rv_load H rfl ?_ | refine rv_load H.up1 rfl ?_ | refine rv_load H.up2 rfl ?_ | refine rv_load H.up3 rfl ?_ | refine rv_load H.up4 rfl ?_))))
    refine cond_split (fun h => by simp at h) (fun _ => ?_)
    exact hJ _ _ ⟨rfl, H⟩
  · refine tp_slice_l' (by omega) (by simpa using ha) ?_
    (repeat with_reducible (first | refine Red.to ?_ | (refine is_tload ?_; (first | refine tk_load (fun _ H => H) rfl ?_ | refine tk_load (fun _ H => H.up1) rfl ?_ | refine tk_load (fun _ H => H.up2) rfl ?_ | refine tk_load (fun _ H => H.up3) rfl ?_))))
    have hloc : ∀ i : Nat, i < bs.length - at_ → (if cap = (at_ : Int).toNat then 0 else 0 + (at_ : Int).toNat * 1) + i * 1 = at_ + i := by
      intro i hi
      rw [if_neg (by simp; omega)]
      simp
    generalize hoff : (if cap = (at_ : Int).toNat then 0 else 0 + (at_ : Int).toNat * 1) = off at hloc ⊢
    have hlen : bs.length - (at_ : Int).toNat = bs.length - at_ := by simp
    rw [hlen]
    refine loop_of (fun vs w => ∃ (u i : Nat), vs = [.int .u64 u, .int .i64 i] ∧ u < 128 ^ i ∧ i ≤ 9 ∧ i ≤ bs.length - at_ ∧ numGo i u (bs.drop (at_ + i)) = num (bs.drop at_) ∧
      St W w (cells b 111 [.int .i64 e, .slice (some ⟨g, 0, none⟩) bs.length cap, .int .i64 at_] :: Bs (.slice (some ⟨g, 0, none⟩) bs.length cap) bs :: L)) (fun vs _ => match vs with | [_, .int _ i] => 10 - i.toNat | _ => 0) ⟨0, 0, rfl, by decide, by omega, by omega, rfl, H.drew⟩ ?_
    clear H
    rintro vs w kk ⟨u, i, rfl, hu, hi9, hil, hnum, H⟩ hkk σ
    simp only [List.getD_cons_zero, List.getD_cons_succ]
    (repeat with_reducible (first | refine Red.to ?_ | (refine is_rload ?_; (first | refine rv_load H rfl ?_ | refine rv_load H.up1 rfl ?_ | refine rv_load H.up2 rfl ?_ | refine rv_load H.up3 rfl ?_ | refine rv_load H.up4 rfl ?_))))
    refine cond_split (fun h => ?_) (fun h => ?_)
    · have hlt : i < bs.length - at_ := by simpa using h
      refine rv_index (by omega) (by simpa using hlt) ?_
      obtain ⟨x, hx⟩ : ∃ x, bs[at_ + i]? = some x := ⟨_, List.getElem?_eq_getElem (by omega)⟩
      have hcell : w.cell? ⟨g, off + (i : Int).toNat * 1, none⟩ = some (.int .u8 (x.toNat : Int)) := by
        have := H.up1.sl_cells rfl (at_ + i) (.int .u8 (x.toNat : Int)) (by simp [bv, hx])
        have e := hloc i hlt
        simp only [Int.toNat_natCast] at *
        rw [e]; exact this
      refine rv (Ops.run_load hcell) ?_
      have hdrop : bs.drop (at_ + i) = x :: bs.drop (at_ + (i + 1)) := by
        rw [List.drop_eq_getElem_cons (by omega)]
        congr 1
        rw [List.getElem?_eq_getElem (by omega)] at hx
        simpa using hx
      rw [hdrop, numGo_cons] at hnum
      have hx256 := x.toNat_lt
      refine share_of (fun vs w => vs = [.bool (bad i x)] ∧ St W w (cells b 111 [.int .i64 e, .slice (some ⟨g, 0, none⟩) bs.length cap, .int .i64 at_] :: Bs (.slice (some ⟨g, 0, none⟩) bs.length cap) bs :: L)) ?_ ?_
      · clear H hcell
        rintro vs w ⟨rfl, H⟩ σ2
        simp only [List.getD_cons_zero, List.getD_cons_succ]
        refine cond_split (fun h => ?_) (fun h => ?_)
        · rw [if_pos h] at hnum
          have := k w (Rr.m ha hl H)
          rw [← hnum] at this
          exact this
        · rw [if_neg (by simp [h])] at hnum
          (repeat with_reducible (first | refine Red.to ?_ | (refine is_rload ?_; (first | refine rv_load H rfl ?_ | refine rv_load H.up1 rfl ?_ | refine rv_load H.up2 rfl ?_ | refine rv_load H.up3 rfl ?_ | refine rv_load H.up4 rfl ?_))))
          refine rv_shl (by rw [i64_small] <;> omega) ?_
          (repeat with_reducible (first | refine Red.to ?_ | (refine is_rload ?_; (first | refine rv_load H rfl ?_ | refine rv_load H.up1 rfl ?_ | refine rv_load H.up2 rfl ?_ | refine rv_load H.up3 rfl ?_ | refine rv_load H.up4 rfl ?_))))
          have h9 : i = 9 → x.toNat % 128 ≤ 1 := by
            rintro rfl
            simp [bad] at h
            rw [h.2]; decide
          rw [and127, or_shift hu (Nat.mod_lt _ (by decide)) hi9 h9]
          refine cond_split (fun h128 => ?_) (fun h128 => ?_)
          · have h128 : x.toNat < 128 := by simp at h128; omega
            rw [if_pos h128] at hnum
            (repeat with_reducible (first | refine Red.to ?_ | (refine is_rload ?_; (first | refine rv_load H rfl ?_ | refine rv_load H.up1 rfl ?_ | refine rv_load H.up2 rfl ?_ | refine rv_load H.up3 rfl ?_ | refine rv_load H.up4 rfl ?_))))
            rw [i64_small (by omega) (by omega)]
            have := k w (Rr.m ha hl H)
            rw [← hnum] at this
            exact this
          · have h128 : ¬ x.toNat < 128 := by simp at h128; omega
            rw [if_neg h128] at hnum
            (repeat with_reducible (first | refine Red.to ?_ | (refine is_rload ?_; (first | refine rv_load H rfl ?_ | refine rv_load H.up1 rfl ?_ | refine rv_load H.up2 rfl ?_ | refine rv_load H.up3 rfl ?_ | refine rv_load H.up4 rfl ?_))))
            rw [i64_small (by omega) (by omega)]
            have hm : x.toNat % 128 < 128 := Nat.mod_lt _ (by decide)
            have hi8 : i ≠ 9 := by
              rintro rfl
              simp [bad] at h
              rw [h.2] at h128
              exact h128 (by decide)
            refine hkk _ _ ⟨u + x.toNat % 128 * 128 ^ i, i + 1, by simp, ?_, by omega, by omega, hnum, H⟩ ?_
            · have : x.toNat % 128 * 128 ^ i ≤ 127 * 128 ^ i := Nat.mul_le_mul_right _ (by omega)
              rw [Nat.pow_succ]; omega
            · simp; omega
      · intro J2 hJ2
        obtain ⟨p, hp⟩ : ∃ p, decide (0 < (i : Int)) = p := ⟨_, rfl⟩
        obtain ⟨q, hq⟩ : ∃ q, ((x.toNat : Int) == 0) = q := ⟨_, rfl⟩
        obtain ⟨r, hr⟩ : ∃ r, ((i : Int) == 9) = r := ⟨_, rfl⟩
        obtain ⟨t, ht⟩ : ∃ t, ((x.toNat : Int) != 1) = t := ⟨_, rfl⟩
        have fin : bad i x = ((p && q) || (r && t)) := by
          have e1 : decide (0 < (i : Int)) = decide (0 < i) := by simp
          have e2 : ((i : Int) == 9) = decide (i = 9) := by rw [Bool.eq_iff_iff]; simp; omega
          rw [← hp, ← hq, ← hr, ← ht, u8_zero, u8_one, e1, e2, Bool.eq_iff_iff]
          simp [bad]
        cases p <;> cases q <;> cases r <;> cases t <;> (repeat (first | (with_reducible (first | refine Red.to ?_ | (refine is_rload ?_; (first | refine rv_load H rfl ?_ | refine rv_load H.up1 rfl ?_ | refine rv_load H.up2 rfl ?_ | refine rv_load H.up3 rfl ?_ | refine rv_load H.up4 rfl ?_)) | (refine is_tload ?_; (first | refine tk_load (fun _ H => H) rfl ?_ | refine tk_load (fun _ H => H.up1) rfl ?_ | refine tk_load (fun _ H => H.up2) rfl ?_ | refine tk_load (fun _ H => H.up3) rfl ?_)))) | (refine Share.mk ?_) | (intro _) | (simp only [List.getD_cons_zero, List.getD_cons_succ, hp, hq, hr, ht]))) <;> exact hJ2 _ _ ⟨by rw [fin]; rfl, H⟩
    · have hge : i = bs.length - at_ := by simp at h; omega
      refine hJ _ _ ⟨?_, H⟩
      rw [← hnum, hge, List.drop_of_length_le (by omega)]
      rfl
end
end Go.Proofs.Ytdmocobabpmoeaa
