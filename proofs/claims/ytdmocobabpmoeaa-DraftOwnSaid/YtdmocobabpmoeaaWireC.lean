
/-
  Contracts of package wire: the reader's calls.
-/
import Derived.Test.YtdmocobabpmoeaaWireB
namespace Go.Proofs.Ytdmocobabpmoeaa
open Go.Vc Go.Sep Go.Ops
set_option linter.unusedVariables false
set_option linter.unusedSectionVars false
set_option linter.unusedSimpArgs false

def rNum (e : Nat) (bs : List UInt8) (at_ most : Nat) : Nat × Nat × Nat :=
  if e ≠ 0 then (0, e, at_) else
  if (num (bs.drop at_)).2.2 ≠ 0 then (0, (num (bs.drop at_)).2.2, at_) else
  if most < (num (bs.drop at_)).1 then (0, 12, at_) else ((num (bs.drop at_)).1, 0, at_ + (num (bs.drop at_)).2.1)
def back (v : Nat) : Int := if v % 2 = 0 then (v / 2 : Nat) else -((v / 2 : Nat) : Int) - 1
def rByte (e : Nat) (bs : List UInt8) (at_ : Nat) : UInt8 × Nat × Nat :=
  if e ≠ 0 then (0, e, at_) else match bs[at_]? with | some x => (x, 0, at_ + 1) | none => (0, 30, at_)
def rBytesE (bs : List UInt8) (at_ : Nat) (most : Int) : Nat :=
  if (num (bs.drop at_)).2.2 ≠ 0 then (num (bs.drop at_)).2.2 else
  if most < 0 ∨ most < (num (bs.drop at_)).1 ∨ 65536 < (num (bs.drop at_)).1 then 12 else
  if bs.length - at_ - (num (bs.drop at_)).2.1 < (num (bs.drop at_)).1 then 30 else 0
def rBytes (e : Nat) (bs : List UInt8) (at_ : Nat) (most : Int) : List UInt8 × Nat × Nat :=
  if e ≠ 0 then ([], e, at_) else
  if rBytesE bs at_ most ≠ 0 then ([], rBytesE bs at_ most, at_) else
  ((bs.drop (at_ + (num (bs.drop at_)).2.1)).take (num (bs.drop at_)).1, 0, at_ + (num (bs.drop at_)).2.1 + (num (bs.drop at_)).1)

theorem num_bounds (l : List UInt8) : (num l).1 < 18446744073709551616 ∧ (num l).2.1 ≤ l.length ∧ ((num l).2.2 = 0 → 1 ≤ (num l).2.1 ∧ (num l).2.1 ≤ 10) ∧ ((num l).2.2 = 0 ∨ (num l).2.2 = 30 ∨ (num l).2.2 = 31) ∧ ((num l).2.2 ≠ 0 → (num l).1 = 0 ∧ (num l).2.1 = 0) := by
  have := numGo_bounds l 0 0 (by decide) (by omega)
  simpa [num] using this

section
variable {W w : World} {L : List HProp} {K : Value → World → Prop} {X : XPost}

theorem RNum_nil {m : Int} (k : K (.int .u64 0) w) : FCall Try.prog Fn.wire_Reader_Num #[.pointer none, .int .u64 m] w K X := by
  refine wire_Reader_Num_call ?_
  unfold Sh.wire_Reader_Num
  refine roff_nil ?_
  (repeat with_reducible (first | refine Red.to ?_ | (refine is_rload ?_; (first | refine rv_load H rfl ?_ | refine rv_load H.up1 rfl ?_ | refine rv_load H.up2 rfl ?_ | refine rv_load H.up3 rfl ?_ | refine rv_load H.up4 rfl ?_))))
  exact k
theorem RNum_spec {b e : Nat} {bs : List UInt8} {at_ most : Nat} (H : St W w (Rr b e bs at_ :: L))
    (k : ∀ w', St W w' (Rr b ((rNum e bs at_ most).2.1 : Nat) bs (rNum e bs at_ most).2.2 :: L) → K (.int .u64 (rNum e bs at_ most).1) w') : FCall Try.prog Fn.wire_Reader_Num #[.pointer (some ⟨b, 0, none⟩), .int .u64 most] w K X := by
  refine wire_Reader_Num_call ?_
  unfold Sh.wire_Reader_Num
  obtain ⟨ha, hl, v, H⟩ := Rr.o H
  refine roff_spec H ?_
  refine cond_split (fun h => ?_) (fun h => ?_)
  · have h : e ≠ 0 := by simpa using h
    have := k w
    simp only [rNum, if_pos h] at this
    exact this (Rr.m ha hl H)
  have h : e = 0 := by simpa using h
  subst h
  simp only [rNum, if_neg (show ¬ (0 ≠ 0) by simp)] at k
  refine number_spec (Rr.m ha hl H) ?_
  clear H
  intro w1 H
  have hb := num_bounds (bs.drop at_)
  generalize num (bs.drop at_) = r at hb k ⊢
  obtain ⟨x, n, err⟩ := r
  simp only [numTuple] at hb k ⊢
  (repeat with_reducible (first | refine Red.to ?_ | (refine is_rload ?_; (first | refine rv_load H rfl ?_ | refine rv_load H.up1 rfl ?_ | refine rv_load H.up2 rfl ?_ | refine rv_load H.up3 rfl ?_ | refine rv_load H.up4 rfl ?_))))
  refine share_of (fun vs w => (∃ er : Nat, vs = [.int .i64 er] ∧ er = (if err ≠ 0 then err else if most < x then 12 else 0)) ∧ St W w (Rr b 0 bs at_ :: L)) ?_ ?_
  · clear H
    rintro vs w ⟨⟨er, rfl, her⟩, H⟩ σ
    obtain ⟨_, _, sv, H⟩ := Rr.o H
    simp only [List.getD_cons_zero, List.getD_cons_succ]
    (repeat with_reducible (first | refine Red.to ?_ | (refine is_rload ?_; (first | refine rv_load H rfl ?_ | refine rv_load H.up1 rfl ?_ | refine rv_load H.up2 rfl ?_ | refine rv_load H.up3 rfl ?_ | refine rv_load H.up4 rfl ?_))))
    refine cond_split (fun h => ?_) (fun h => ?_)
    · have h : er ≠ 0 := by simpa using h
      (repeat with_reducible (first | refine Red.to ?_ | (refine is_rload ?_; (first | refine rv_load H rfl ?_ | refine rv_load H.up1 rfl ?_ | refine rv_load H.up2 rfl ?_ | refine rv_load H.up3 rfl ?_ | refine rv_load H.up4 rfl ?_))))
      refine fail_spec H ?_
      intro w2 H
      rw [if_pos rfl] at H
      have := k w2
      by_cases h1 : err ≠ 0
      · rw [if_pos h1] at her this
        rw [her] at H
        exact this (Rr.m ha hl H)
      · rw [if_neg h1] at her this
        by_cases h2 : most < x
        · rw [if_pos h2] at her this
          rw [her] at H
          exact this (Rr.m ha hl H)
        · rw [if_neg h2] at her; exact absurd her h
    · have h : er = 0 := by simpa using h
      have h1 : ¬ err ≠ 0 := by intro h1; rw [if_pos h1] at her; omega
      rw [if_neg h1] at her k
      have h2 : ¬ most < x := by intro h2; rw [if_pos h2] at her; omega
      rw [if_neg h2] at k
      (repeat with_reducible (first | refine Red.to ?_ | (refine is_rload ?_; (first | refine rv_load H rfl ?_ | refine rv_load H.up1 rfl ?_ | refine rv_load H.up2 rfl ?_ | refine rv_load H.up3 rfl ?_ | refine rv_load H.up4 rfl ?_))))
      have hn := hb.2.1
      simp only [List.length_drop] at hn
      refine ru_store H (by simp) rfl ?_
      intro w2 H
      rw [i64_small (by omega) (by omega)] at H
      refine k w2 (Rr.m (v := sv) (by simp only; omega) hl ?_)
      simpa using H
  · intro J hJ
    (repeat with_reducible (first | refine Red.to ?_ | (refine is_rload ?_; (first | refine rv_load H rfl ?_ | refine rv_load H.up1 rfl ?_ | refine rv_load H.up2 rfl ?_ | refine rv_load H.up3 rfl ?_ | refine rv_load H.up4 rfl ?_))))
    refine guard_split (fun h => ?_) (fun h => ?_)
    · have he : err = 0 := by simpa using h
      rw [h]
      (repeat with_reducible (first | refine Red.to ?_ | (refine is_rload ?_; (first | refine rv_load H rfl ?_ | refine rv_load H.up1 rfl ?_ | refine rv_load H.up2 rfl ?_ | refine rv_load H.up3 rfl ?_ | refine rv_load H.up4 rfl ?_))))
      refine cond_split (fun h => ?_) (fun h => ?_)
      · have h : most < x := by simpa using h
        exact hJ _ _ ⟨⟨12, rfl, by simp [he, h]⟩, H⟩
      · have h : ¬ most < x := by simpa using h
        exact hJ _ _ ⟨⟨err, rfl, by simp [he, h]⟩, H⟩
    · have he : err ≠ 0 := by simpa using h
      rw [h]
      (repeat with_reducible (first | refine Red.to ?_ | (refine is_rload ?_; (first | refine rv_load H rfl ?_ | refine rv_load H.up1 rfl ?_ | refine rv_load H.up2 rfl ?_ | refine rv_load H.up3 rfl ?_ | refine rv_load H.up4 rfl ?_))))
      refine cond_false' ?_
      exact hJ _ _ ⟨⟨err, rfl, by simp [he]⟩, H⟩

theorem i64_xor0 {a : Int} (h0 : 0 ≤ a) (h1 : a < 9223372036854775808) : bitsOf .xor .i64 a 0 = a := by
  have h : bitsOf .xor .i64 a 0 = IntKind.i64.wrap ((BitVec.ofInt 64 a ^^^ BitVec.ofInt 64 0).toNat : Int) := rfl
  have : BitVec.ofInt 64 0 = 0#64 := by decide
  rw [h, this, BitVec.xor_zero, BitVec.toNat_ofInt, i64_small] <;> omega
theorem i64_xor1 {a : Int} (h0 : 0 ≤ a) (h1 : a < 9223372036854775808) : bitsOf .xor .i64 a (-1) = -a - 1 := by
  have h : bitsOf .xor .i64 a (-1) = IntKind.i64.wrap ((BitVec.ofInt 64 a ^^^ BitVec.ofInt 64 (-1)).toNat : Int) := rfl
  have : BitVec.ofInt 64 (-1) = BitVec.allOnes 64 := by decide
  rw [h, this, BitVec.xor_allOnes, BitVec.toNat_not, BitVec.toNat_ofInt]
  simp [IntKind.wrap, IntKind.bits, IntKind.signed]
  omega
theorem and1 {v : Nat} (hv : v < 18446744073709551616) : bitsOf .and .u64 (v : Int) 1 = ((v % 2 : Nat) : Int) := by
  have h : bitsOf .and .u64 (v : Int) 1 = IntKind.u64.wrap ((BitVec.ofInt 64 (v : Int) &&& BitVec.ofInt 64 1).toNat : Int) := rfl
  have e1 : BitVec.ofInt 64 1 = 1#64 := by decide
  rw [h, e1, BitVec.ofInt_natCast, BitVec.toNat_and, BitVec.toNat_ofNat, BitVec.toNat_ofNat, Nat.mod_eq_of_lt (by simpa using hv)]
  simp only [Nat.reducePow, Nat.reduceMod, Nat.and_one_is_mod]
  rw [u64_wrap]; omega
theorem unzig {v : Nat} (hv : v < 18446744073709551616) : bitsOf .xor .i64 (IntKind.i64.wrap ((v : Int).fdiv (2 ^ min (Int.toNat 1) IntKind.u64.bits))) (IntKind.i64.wrap (0 - IntKind.i64.wrap (bitsOf .and .u64 (v : Int) 1))) = back v := by
  have e1 : (2 : Int) ^ min (Int.toNat 1) IntKind.u64.bits = 2 := by decide
  rw [e1, Int.fdiv_eq_ediv_of_nonneg _ (by decide), and1 hv, i64_small (n := ((v % 2 : Nat) : Int)) (by omega) (by omega), i64_small (n := (v : Int) / 2) (by omega) (by omega), i64_small (n := 0 - ((v % 2 : Nat) : Int)) (by omega) (by omega)]
  unfold back
  split
  · rename_i h
    rw [h, show (0 - ((0 : Nat) : Int)) = 0 by rfl, i64_xor0 (by omega) (by omega)]
    omega
  · have h : v % 2 = 1 := by omega
    rw [h, show (0 - ((1 : Nat) : Int)) = -1 by rfl, i64_xor1 (by omega) (by omega)]
    omega
theorem RByte_nil (k : K (.int .u8 0) w) : FCall Try.prog Fn.wire_Reader_Byte #[.pointer none] w K X := by
  refine wire_Reader_Byte_call ?_
  unfold Sh.wire_Reader_Byte
  refine roff_nil ?_
  (repeat with_reducible (first | refine Red.to ?_ | (refine is_rload ?_; (first | refine rv_load H rfl ?_ | refine rv_load H.up1 rfl ?_ | refine rv_load H.up2 rfl ?_ | refine rv_load H.up3 rfl ?_ | refine rv_load H.up4 rfl ?_))))
  exact k
theorem RByte_spec {b e : Nat} {bs : List UInt8} {at_ : Nat} (H : St W w (Rr b e bs at_ :: L))
    (k : ∀ w', St W w' (Rr b ((rByte e bs at_).2.1 : Nat) bs (rByte e bs at_).2.2 :: L) → K (.int .u8 (rByte e bs at_).1.toNat) w') : FCall Try.prog Fn.wire_Reader_Byte #[.pointer (some ⟨b, 0, none⟩)] w K X := by
  refine wire_Reader_Byte_call ?_
  unfold Sh.wire_Reader_Byte
  obtain ⟨ha, hl, v, H⟩ := Rr.o H
  refine roff_spec H ?_
  refine cond_split (fun h => ?_) (fun h => ?_)
  · have h : e ≠ 0 := by simpa using h
    have := k w
    simp only [rByte, if_pos h] at this
    exact this (Rr.m ha hl H)
  have h : e = 0 := by simpa using h
  subst h
  simp only [rByte, if_neg (show ¬ (0 ≠ 0) by simp)] at k
  refine ⟨fun w => St W w (cells b 111 [.int .i64 (0 : Nat), v, .int .i64 at_] :: Bs v bs :: L), H.drew, ?_⟩
  (repeat with_reducible (first | refine Red.to ?_ | (refine is_tload ?_; (first | refine tk_load (fun _ H => H) rfl ?_ | refine tk_load (fun _ H => H.up1) rfl ?_ | refine tk_load (fun _ H => H.up2) rfl ?_ | refine tk_load (fun _ H => H.up3) rfl ?_))))
  refine rv_load H.drew rfl ?_
  first | refine keep_same (H.drew) ?_ | refine ⟨H.drew, ?_⟩
  refine tp_len_rd H.drew.up1.rd ?_
  (repeat with_reducible (first | refine Red.to ?_ | (refine is_tload ?_; (first | refine tk_load (fun _ H => H) rfl ?_ | refine tk_load (fun _ H => H.up1) rfl ?_ | refine tk_load (fun _ H => H.up2) rfl ?_ | refine tk_load (fun _ H => H.up3) rfl ?_))))
  replace H := H.drew
  refine cond_split (fun h => ?_) (fun h => ?_)
  · have h : at_ = bs.length := by simp at h; omega
    have hn : bs[at_]? = none := by rw [h]; simp
    rw [hn] at k
    simp only at k
    (repeat with_reducible (first | refine Red.to ?_ | (refine is_rload ?_; (first | refine rv_load H rfl ?_ | refine rv_load H.up1 rfl ?_ | refine rv_load H.up2 rfl ?_ | refine rv_load H.up3 rfl ?_ | refine rv_load H.up4 rfl ?_))))
    refine fail_spec H ?_
    intro w1 H
    exact k w1 (Rr.m ha hl H)
  · have h : at_ < bs.length := by simp at h; omega
    obtain ⟨x, hx⟩ : ∃ x, bs[at_]? = some x := ⟨_, List.getElem?_eq_getElem h⟩
    rw [hx] at k
    simp only at k
    (repeat with_reducible (first | refine Red.to ?_ | (refine is_rload ?_; (first | refine rv_load H rfl ?_ | refine rv_load H.up1 rfl ?_ | refine rv_load H.up2 rfl ?_ | refine rv_load H.up3 rfl ?_ | refine rv_load H.up4 rfl ?_))))
    refine ru_store H (by simp) rfl ?_
    intro w1 H
    rw [i64_small (by omega) (by omega)] at H
    refine ⟨fun w => St W w (cells b 111 [.int .i64 (0 : Nat), v, .int .i64 ((at_ : Int) + 1)] :: Bs v bs :: L), H.drew, ?_⟩
    (repeat with_reducible (first | refine Red.to ?_ | (refine is_tload ?_; (first | refine tk_load (fun _ H => H) rfl ?_ | refine tk_load (fun _ H => H.up1) rfl ?_ | refine tk_load (fun _ H => H.up2) rfl ?_ | refine tk_load (fun _ H => H.up3) rfl ?_))))
    refine rv_load H.drew rfl ?_
    first | refine keep_same (H.drew) ?_ | refine ⟨H.drew, ?_⟩
    refine tp_sub ?_
    rcases H.up1.sl_form.2 with ⟨rfl, hz⟩ | ⟨g, cap, rfl, hn, hc⟩
    · omega
    have e1 : IntKind.i64.wrap ((at_ : Int) + 1 - 1) = (at_ : Int) := by rw [i64_small] <;> omega
    refine tp_index (by rw [e1]; omega) (by rw [e1]; omega) ?_
    rw [e1]
    have hcell := H.drew.up1.sl_cells rfl at_ (.int .u8 (x.toNat : Int)) (by simp [bv, hx])
    have e2 : 0 + (at_ : Int).toNat * 1 = at_ := by simp
    rw [e2]
    refine rv (Ops.run_load hcell) ?_
    exact k _ (Rr.m (by omega) hl (by simpa using H.drew))

theorem Kn.cut {n : Nat} {g off cap : Nat} {cs : List Value} (R : Kn W L (.slice (some ⟨g, off, none⟩) n cap) n cs) (hn : n ≤ cap) {i j : Nat} (h0 : i ≤ j) (h1 : j ≤ n) :
    Kn W L (.slice (some ⟨g, if cap = i then off else off + i * 1, none⟩) (j - i) (cap - i)) (j - i) ((cs.drop i).take (j - i)) := by
  intro w' H
  rcases R w' H with ⟨h, _⟩ | ⟨g', off', cap', hv, _, hc⟩
  · cases h
  cases hv
  refine .inr ⟨g, _, cap - i, rfl, by omega, ?_⟩
  intro m u hm
  by_cases e : cap = i
  · have : j - i = 0 := by omega
    rw [this] at hm
    simp at hm
  rw [if_neg e, Nat.mul_one, Nat.add_assoc]
  refine hc (i + m) u ?_
  by_cases hmj : m < j - i
  · rw [List.getElem?_take_of_lt hmj, List.getElem?_drop] at hm
    exact hm
  · rw [List.getElem?_take_eq_none (by omega)] at hm
    cases hm

end
end Go.Proofs.Ytdmocobabpmoeaa
