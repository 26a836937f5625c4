
/-
  Contracts of package wire: the writer.
-/
import Derived.Test.YtdmocobabpmoeaaSh
import Derived.Test.YtdmocobabpmoeaaTy
namespace Go.Proofs.Ytdmocobabpmoeaa
open Go.Vc Go.Sep Go.Ops
set_option linter.unusedVariables false
set_option linter.unusedSectionVars false

/-- bytes as cells -/
def bv (bs : List UInt8) : List Value := bs.map fun b => Value.int .u8 (b.toNat : Int)
theorem bv_length (bs : List UInt8) : (bv bs).length = bs.length := by simp [bv]
theorem bv_append (a b : List UInt8) : bv (a ++ b) = bv a ++ bv b := by simp [bv]
theorem bv_one {bs : List UInt8} : ∀ u ∈ bv bs, u.oneCell' = true := by
  intro u hu
  simp only [bv, List.mem_map] at hu
  obtain ⟨b, _, rfl⟩ := hu
  rfl
theorem bv_snoc {bs : List UInt8} {x : Int} (hx : 0 ≤ x ∧ x < 256) : bv bs ++ [Value.int .u8 x] = bv (bs ++ [UInt8.ofNat x.toNat]) := by
  have : ((UInt8.ofNat x.toNat).toNat : Int) = x := by simp; omega
  rw [bv_append]
  simp only [bv, List.map_cons, List.map_nil, this]
/-- a slice of bytes of its own -/
def Bs (v : Value) (bs : List UInt8) : HProp := Sl 5 1 v bs.length (bv bs)
def Wr (b : Nat) (e : Int) (bs : List UInt8) : HProp := ex fun v => all [cells b 104 [.int .i64 e, v], Bs v bs]

/-- a number's form -/
def form (v : Nat) : List UInt8 := if h : v < 128 then [UInt8.ofNat v] else UInt8.ofNat (v % 128 + 128) :: form (v / 128)
theorem form_lt {v : Nat} (h : v < 128) : form v = [UInt8.ofNat v] := by rw [form]; simp [h]
theorem form_ge {v : Nat} (h : 128 ≤ v) : form v = UInt8.ofNat (v % 128 + 128) :: form (v / 128) := by
  rw [form]; simp [show ¬ v < 128 by omega]
theorem form_length (n : Nat) : ∀ v, v < 128 ^ (n + 1) → (form v).length ≤ n + 1 := by
  induction n with
  | zero => intro v h; rw [form_lt (by simpa using h)]; simp
  | succ n ih =>
    intro v h
    by_cases h' : v < 128
    · rw [form_lt h']; simp
    · rw [form_ge (by omega)]
      have : v / 128 < 128 ^ (n + 1) := by
        rw [Nat.div_lt_iff_lt_mul (by omega)]
        rw [Nat.pow_succ] at h; exact h
      have := ih _ this
      simp; omega
theorem form_length10 {v : Nat} (h : v < 18446744073709551616) : (form v).length ≤ 10 :=
  form_length 9 v (Nat.lt_of_lt_of_le h (by decide))

section
theorem Wr.o {W w : World} {L : List HProp} {b : Nat} {e : Int} {bs : List UInt8} (H : St W w (Wr b e bs :: L)) : ∃ v, St W w (cells b 104 [.int .i64 e, v] :: Bs v bs :: L) := H.ex.imp fun v h => h.all
theorem Wr.m {W w : World} {L : List HProp} {b : Nat} {e : Int} {bs : List UInt8} {v : Value} (H : St W w (cells b 104 [.int .i64 e, v] :: Bs v bs :: L)) : St W w (Wr b e bs :: L) := St.ex_mk v (St.all_mk H)
variable {W w : World} {L : List HProp} {K : Value → World → Prop} {X : XPost}

theorem failed_spec {b : Nat} {ty : Nat} {c : List Value} {e : Int} (H : St W w (cells b ty (.int .i64 e :: c) :: L)) (k : K (.bool (e != 0)) w) : FCall Try.prog Fn.wire_status_failed #[.pointer (some ⟨b, 0, none⟩)] w K X := by
  refine wire_status_failed_call ?_
  unfold Sh.wire_status_failed
  (repeat with_reducible (first | refine Red.to ?_ | (refine is_rload ?_; (first | refine rv_load H rfl ?_ | refine rv_load H.up1 rfl ?_ | refine rv_load H.up2 rfl ?_ | refine rv_load H.up3 rfl ?_ | refine rv_load H.up4 rfl ?_))))
  exact k

theorem off_nil (k : K (.bool true) w) : FCall Try.prog Fn.wire_Writer_off #[.pointer none] w K X := by
  refine wire_Writer_off_call ?_
  unfold Sh.wire_Writer_off
  (repeat with_reducible (first | refine Red.to ?_ | (refine is_rload ?_; (first | refine rv_load H rfl ?_ | refine rv_load H.up1 rfl ?_ | refine rv_load H.up2 rfl ?_ | refine rv_load H.up3 rfl ?_ | refine rv_load H.up4 rfl ?_))))
  exact k

theorem off_spec {b : Nat} {c : List Value} {e : Int} (H : St W w (cells b 104 (.int .i64 e :: c) :: L)) (k : K (.bool (e != 0)) w) : FCall Try.prog Fn.wire_Writer_off #[.pointer (some ⟨b, 0, none⟩)] w K X := by
  refine wire_Writer_off_call ?_
  unfold Sh.wire_Writer_off
  (repeat with_reducible (first | refine Red.to ?_ | (refine is_rload ?_; (first | refine rv_load H rfl ?_ | refine rv_load H.up1 rfl ?_ | refine rv_load H.up2 rfl ?_ | refine rv_load H.up3 rfl ?_ | refine rv_load H.up4 rfl ?_))))
  refine failed_spec H ?_
  (repeat with_reducible (first | refine Red.to ?_ | (refine is_rload ?_; (first | refine rv_load H rfl ?_ | refine rv_load H.up1 rfl ?_ | refine rv_load H.up2 rfl ?_ | refine rv_load H.up3 rfl ?_ | refine rv_load H.up4 rfl ?_))))
  exact k

theorem NewWriter_spec (H : St W w L) (k : ∀ b w', St W w' (Wr b 0 [] :: L) → K (.pointer (some ⟨b, 0, none⟩)) w') : FCall Try.prog Fn.wire_NewWriter #[] w K X := by
  refine wire_NewWriter_call ?_
  unfold Sh.wire_NewWriter
  refine rv (v := .agg #[.int .i64 0, .slice none 0 0]) (w' := w) (by kernel_rfl) ?_
  refine rv_box (c := [.int .i64 0, .slice none 0 0]) H rfl ?_
  intro b w' H
  exact k b w' (Wr.m (H.sl_nil 5 1).up1)

theorem Num_nil {v : Int} (k : K (.tuple #[]) w) : FCall Try.prog Fn.wire_Writer_Num #[.pointer none, .int .u64 v] w K X := by
  refine wire_Writer_Num_call ?_
  unfold Sh.wire_Writer_Num
  refine off_nil ?_
  (repeat with_reducible (first | refine Red.to ?_ | (refine is_rload ?_; (first | refine rv_load H rfl ?_ | refine rv_load H.up1 rfl ?_ | refine rv_load H.up2 rfl ?_ | refine rv_load H.up3 rfl ?_ | refine rv_load H.up4 rfl ?_))))
  exact k

theorem put_byte {b e : Nat} {er : Int} {bs : List UInt8} {v : Value} {x : Int} (H : St W w (cells b 104 [.int .i64 er, v] :: Bs v bs :: L)) (hx : 0 ≤ x ∧ x < 256) (hl : bs.length ≤ 140737488355327) {KU : World → Prop}
    (k : ∀ w', St W w' (Wr b er (bs ++ [UInt8.ofNat x.toNat]) :: L) → KU w') :
    RunV Try.prog (Instr.buildSlice 27 1 #[(0, .int .u8 x)]) w (fun s w => RunV Try.prog (Builtin.append_ #[27, 27] 27 #[v, s]) w (fun y w =>
      RunU Try.prog (Instr.storeAt 27 (.pointer (some ⟨b, 1, none⟩)) y) w KU X) X) X := by
  refine rv_build1 H rfl (by simp [Value.cells]) ?_
  intro g w1 H
  refine rv_append_cells H.up2.up1 (news := [.int .u8 x]) rfl (by simp [Value.oneCell']) (by unfold maxLen; omega) (by omega) ?_
  intro y w2 H _
  refine ru_store H.up1 (by simp) (sl_one H) ?_
  intro w3 H
  refine k w3 (Wr.m (v := y) ?_)
  rw [bv_snoc hx] at H
  simpa [Bs] using H


theorem or128 (u : Nat) : bitsOf .or .u8 (IntKind.u8.wrap (u : Int)) 128 = ((u % 128 + 128 : Nat) : Int) := by
  have key : ∀ n : Fin 256, bitsOf .or .u8 ((n.val : Nat) : Int) 128 = ((n.val % 128 + 128 : Nat) : Int) := by decide +kernel
  have hw : IntKind.u8.wrap (u : Int) = ((u % 256 : Nat) : Int) := by simp [IntKind.wrap, IntKind.bits, IntKind.signed]
  rw [hw, key ⟨u % 256, Nat.mod_lt _ (by decide)⟩]
  simp only
  rw [Nat.mod_mod_of_dvd _ (by decide)]
theorem wrap8 {u : Nat} (h : u < 256) : IntKind.u8.wrap (u : Int) = (u : Int) := by
  have hw : IntKind.u8.wrap (u : Int) = ((u % 256 : Nat) : Int) := by simp [IntKind.wrap, IntKind.bits, IntKind.signed]
  rw [hw, Nat.mod_eq_of_lt h]
theorem shr7 (u : Nat) : ((u : Int).fdiv (2 ^ min (Int.toNat 7) IntKind.u64.bits)) = ((u / 128 : Nat) : Int) := by
  have : (2 : Int) ^ min (Int.toNat 7) IntKind.u64.bits = 128 := by decide
  rw [this, Int.fdiv_eq_ediv_of_nonneg _ (by decide)]
  rfl

theorem u64_wrap (n : Int) : IntKind.u64.wrap n = n % 18446744073709551616 := by simp [IntKind.wrap, IntKind.bits, IntKind.signed]
/-- a whole number's number -/
def zz (n : Int) : Nat := if 0 ≤ n then (2 * n).toNat else (-2 * n - 1).toNat
theorem zz_lt {n : Int} (h0 : -9223372036854775808 ≤ n) (h1 : n < 9223372036854775808) : zz n < 18446744073709551616 := by unfold zz; split <;> omega
theorem xor0 {a : Int} (h0 : 0 ≤ a) (h1 : a < 18446744073709551616) : bitsOf .xor .u64 a 0 = a := by
  have h : bitsOf .xor .u64 a 0 = IntKind.u64.wrap ((BitVec.ofInt 64 a ^^^ BitVec.ofInt 64 0).toNat : Int) := rfl
  have : BitVec.ofInt 64 0 = 0#64 := by decide
  rw [h, this, BitVec.xor_zero, BitVec.toNat_ofInt, u64_wrap]
  omega
theorem xor1 {a : Int} (h0 : 0 ≤ a) (h1 : a < 18446744073709551616) : bitsOf .xor .u64 a 18446744073709551615 = 18446744073709551615 - a := by
  have h : bitsOf .xor .u64 a 18446744073709551615 = IntKind.u64.wrap ((BitVec.ofInt 64 a ^^^ BitVec.ofInt 64 18446744073709551615).toNat : Int) := rfl
  have : BitVec.ofInt 64 18446744073709551615 = BitVec.allOnes 64 := by decide
  rw [h, this, BitVec.xor_allOnes, BitVec.toNat_not, BitVec.toNat_ofInt, u64_wrap]
  omega
theorem zigzag {n : Int} (h0 : -9223372036854775808 ≤ n) (h1 : n < 9223372036854775808) :
    bitsOf .xor .u64 (IntKind.u64.wrap (IntKind.u64.wrap n * 2 ^ min (Int.toNat 1) IntKind.u64.bits)) (IntKind.u64.wrap (n.fdiv (2 ^ min (Int.toNat 63) IntKind.i64.bits))) = ((zz n : Nat) : Int) := by
  have e1 : (2 : Int) ^ min (Int.toNat 1) IntKind.u64.bits = 2 := by decide
  have e2 : (2 : Int) ^ min (Int.toNat 63) IntKind.i64.bits = 9223372036854775808 := by decide
  rw [e1, e2, Int.fdiv_eq_ediv_of_nonneg _ (by decide)]
  simp only [u64_wrap]
  unfold zz
  split
  · have : n / 9223372036854775808 % 18446744073709551616 = 0 := by omega
    rw [this, xor0 (by omega) (by omega)]
    omega
  · have : n / 9223372036854775808 % 18446744073709551616 = 18446744073709551615 := by omega
    rw [this, xor1 (by omega) (by omega)]
    omega

def numOf : List Value → Nat
  | [.int _ u] => u.toNat
  | _ => 0

/-- Behind a load of the slice: one byte more, stored back. -/
theorem snoc_spec {b : Nat} {er : Int} {bs : List UInt8} {v : Value} {x : Int} (H : St W w (cells b 104 [.int .i64 er, v] :: Bs v bs :: L)) (hx : 0 ≤ x ∧ x < 256) (hl : bs.length ≤ 140737488351232)
    (k : ∀ y w', St W w' (cells b 104 [.int .i64 er, v] :: Bs y (bs ++ [UInt8.ofNat x.toNat]) :: L) → y.oneCell' = true → K y w') :
    RunV Try.prog (Instr.buildSlice 27 1 #[(0, .int .u8 x)]) w (fun s w => RunV Try.prog (Builtin.append_ #[27, 27] 27 #[v, s]) w K X) X := by
  refine rv_build1 H rfl (by simp [Value.cells]) ?_
  intro g w1 H
  refine rv_append_cells H.up2.up1 (news := [.int .u8 x]) rfl (by simp [Value.oneCell']) (by unfold maxLen; omega) (by omega) ?_
  intro y w2 H _
  refine k y w2 ?_ (sl_one H)
  rw [bv_snoc hx] at H
  simpa [Bs] using H.up1

theorem Num_spec {b : Nat} {e : Int} {bs : List UInt8} {v : Nat} (H : St W w (Wr b e bs :: L)) (hv : v < 18446744073709551616) (hl : bs.length ≤ 35184372088832)
    (k : ∀ w', St W w' (Wr b e (if e = 0 then bs ++ form v else bs) :: L) → K (.tuple #[]) w') : FCall Try.prog Fn.wire_Writer_Num #[.pointer (some ⟨b, 0, none⟩), .int .u64 v] w K X := by
  refine wire_Writer_Num_call ?_
  unfold Sh.wire_Writer_Num
  obtain ⟨sv, H⟩ := Wr.o H
  refine off_spec H ?_
  refine cond_split (fun h => ?_) (fun h => ?_)
  · have h : e ≠ 0 := by simpa using h
    refine k w ?_
    rw [if_neg h]
    exact Wr.m H
  · have h : e = 0 := by simpa using h
    subst h
    rw [if_pos rfl] at k
    refine ⟨⟨⟨fun vs w => ∃ (u : Nat) (bs' : List UInt8), vs = [.int .u64 u] ∧ u < 18446744073709551616 ∧ bs' ++ form u = bs ++ form v ∧ St W w (Wr b 0 bs' :: L), fun vs _ => numOf vs, ⟨v, bs, rfl, hv, rfl, Wr.m H⟩, ?_⟩⟩⟩
    clear H
    rintro vs w ⟨u, bs', rfl, hu, hb, H⟩ σ
    have hlen : bs'.length ≤ 140737488351232 := by
      have := congrArg List.length hb
      simp only [List.length_append] at this
      have h2 := form_length10 hv
      omega
    obtain ⟨sv, H⟩ := Wr.o H
    simp only [List.getD_cons_zero]
    (repeat with_reducible (first | refine Red.to ?_ | (refine is_rload ?_; (first | refine rv_load H rfl ?_ | refine rv_load H.up1 rfl ?_ | refine rv_load H.up2 rfl ?_ | refine rv_load H.up3 rfl ?_ | refine rv_load H.up4 rfl ?_))))
    refine cond_split (fun h => ?_) (fun h => ?_)
    · have h : 128 ≤ u := by simp at h; omega
      (repeat with_reducible (first | refine Red.to ?_ | (refine is_rload ?_; (first | refine rv_load H rfl ?_ | refine rv_load H.up1 rfl ?_ | refine rv_load H.up2 rfl ?_ | refine rv_load H.up3 rfl ?_ | refine rv_load H.up4 rfl ?_))))
      rw [or128]
      refine snoc_spec H (by omega) hlen ?_
      intro y w1 H hy
      (repeat with_reducible (first | refine Red.to ?_ | (refine is_rload ?_; (first | refine rv_load H rfl ?_ | refine rv_load H.up1 rfl ?_ | refine rv_load H.up2 rfl ?_ | refine rv_load H.up3 rfl ?_ | refine rv_load H.up4 rfl ?_))))
      refine ru_store H (by simp) hy ?_
      intro w2 H
      refine rv_shr (by omega) ?_
      rw [shr7]
      refine ⟨⟨u / 128, bs' ++ [UInt8.ofNat (u % 128 + 128)], rfl, by omega, ?_, Wr.m H⟩, ?_⟩
      · rw [← hb, form_ge h]
        simp
      · simp [numOf]; omega
    · have h : u < 128 := by simp at h; omega
      intro σ2
      (repeat with_reducible (first | refine Red.to ?_ | (refine is_rload ?_; (first | refine rv_load H rfl ?_ | refine rv_load H.up1 rfl ?_ | refine rv_load H.up2 rfl ?_ | refine rv_load H.up3 rfl ?_ | refine rv_load H.up4 rfl ?_))))
      rw [wrap8 (by omega)]
      refine snoc_spec H (by omega) hlen ?_
      intro y w1 H hy
      (repeat with_reducible (first | refine Red.to ?_ | (refine is_rload ?_; (first | refine rv_load H rfl ?_ | refine rv_load H.up1 rfl ?_ | refine rv_load H.up2 rfl ?_ | refine rv_load H.up3 rfl ?_ | refine rv_load H.up4 rfl ?_))))
      refine ru_store H (by simp) hy ?_
      intro w2 H
      refine k w2 ?_
      rw [← hb, form_lt h]
      exact Wr.m H

/-- slices.Clone of bytes -/
theorem Clone_spec {v : Value} {bs : List UInt8} (H : St W w L) (R : Kn W L v bs.length (bv bs)) (hl : bs.length ≤ 140737488351232)
    (k : ∀ y w', St W w' (Bs y bs :: L) → K y w') : FCall Try.prog Fn.slices_Clone_byte_byte #[v] w K X := by
  refine slices_Clone_byte_byte_call ?_
  unfold Sh.slices_Clone_byte_byte
  rcases R.form H with ⟨rfl, hn⟩ | ⟨g, off, cap, rfl, hn⟩
  · (repeat with_reducible (first | refine Red.to ?_ | (refine is_rload ?_; (first | refine rv_load H rfl ?_ | refine rv_load H.up1 rfl ?_ | refine rv_load H.up2 rfl ?_ | refine rv_load H.up3 rfl ?_ | refine rv_load H.up4 rfl ?_))))
    have : bs = [] := List.eq_nil_of_length_eq_zero hn
    subst this
    exact k _ _ (H.sl_nil _ _)
  · (repeat with_reducible (first | refine Red.to ?_ | (refine is_rload ?_; (first | refine rv_load H rfl ?_ | refine rv_load H.up1 rfl ?_ | refine rv_load H.up2 rfl ?_ | refine rv_load H.up3 rfl ?_ | refine rv_load H.up4 rfl ?_))))
    refine rv_build0 H ?_
    intro g1 w1 H
    have H := H.sl_of_cells (size := 1) (n := 0) (cap := 0) rfl (by omega) (by unfold maxLen; omega)
    refine rv_append_rd H (R.tail _ H) (by simp [bv]) bv_one (by unfold maxLen; omega) (by omega) ?_
    intro y w2 H _
    exact k y w2 (by simpa [Bs] using H)

theorem Data_nil (k : K (.slice none 0 0) w) : FCall Try.prog Fn.wire_Writer_Data #[.pointer none] w K X := by
  refine wire_Writer_Data_call ?_
  unfold Sh.wire_Writer_Data
  (repeat with_reducible (first | refine Red.to ?_ | (refine is_rload ?_; (first | refine rv_load H rfl ?_ | refine rv_load H.up1 rfl ?_ | refine rv_load H.up2 rfl ?_ | refine rv_load H.up3 rfl ?_ | refine rv_load H.up4 rfl ?_))))
  exact k

theorem Data_spec {b : Nat} {e : Int} {bs : List UInt8} (H : St W w (Wr b e bs :: L)) (hl : bs.length ≤ 140737488351232)
    (k : ∀ y w', St W w' (Bs y bs :: Wr b e bs :: L) → K y w') : FCall Try.prog Fn.wire_Writer_Data #[.pointer (some ⟨b, 0, none⟩)] w K X := by
  refine wire_Writer_Data_call ?_
  unfold Sh.wire_Writer_Data
  obtain ⟨sv, H⟩ := Wr.o H
  (repeat with_reducible (first | refine Red.to ?_ | (refine is_rload ?_; (first | refine rv_load H rfl ?_ | refine rv_load H.up1 rfl ?_ | refine rv_load H.up2 rfl ?_ | refine rv_load H.up3 rfl ?_ | refine rv_load H.up4 rfl ?_))))
  refine Clone_spec H.up1 Kn.here hl ?_
  intro y w1 H
  refine k y w1 ?_
  exact (Wr.m (H.up1.up2)).up1

theorem Byte_nil {v : Int} (k : K (.tuple #[]) w) : FCall Try.prog Fn.wire_Writer_Byte #[.pointer none, .int .u8 v] w K X := by
  refine wire_Writer_Byte_call ?_
  unfold Sh.wire_Writer_Byte
  refine off_nil ?_
  (repeat with_reducible (first | refine Red.to ?_ | (refine is_rload ?_; (first | refine rv_load H rfl ?_ | refine rv_load H.up1 rfl ?_ | refine rv_load H.up2 rfl ?_ | refine rv_load H.up3 rfl ?_ | refine rv_load H.up4 rfl ?_))))
  exact k
theorem Byte_spec {b : Nat} {e : Int} {bs : List UInt8} {x : Int} (H : St W w (Wr b e bs :: L)) (hx : 0 ≤ x ∧ x < 256) (hl : bs.length ≤ 35184372088832)
    (k : ∀ w', St W w' (Wr b e (if e = 0 then bs ++ [UInt8.ofNat x.toNat] else bs) :: L) → K (.tuple #[]) w') : FCall Try.prog Fn.wire_Writer_Byte #[.pointer (some ⟨b, 0, none⟩), .int .u8 x] w K X := by
  refine wire_Writer_Byte_call ?_
  unfold Sh.wire_Writer_Byte
  obtain ⟨sv, H⟩ := Wr.o H
  refine off_spec H ?_
  (repeat with_reducible (first | refine Red.to ?_ | (refine is_rload ?_; (first | refine rv_load H rfl ?_ | refine rv_load H.up1 rfl ?_ | refine rv_load H.up2 rfl ?_ | refine rv_load H.up3 rfl ?_ | refine rv_load H.up4 rfl ?_))))
  refine cond_split (fun h => ?_) (fun h => ?_)
  · have h : e = 0 := by simpa using h
    subst h
    rw [if_pos rfl] at k
    (repeat with_reducible (first | refine Red.to ?_ | (refine is_rload ?_; (first | refine rv_load H rfl ?_ | refine rv_load H.up1 rfl ?_ | refine rv_load H.up2 rfl ?_ | refine rv_load H.up3 rfl ?_ | refine rv_load H.up4 rfl ?_))))
    refine snoc_spec H hx (by omega) ?_
    intro y w1 H hy
    (repeat with_reducible (first | refine Red.to ?_ | (refine is_rload ?_; (first | refine rv_load H rfl ?_ | refine rv_load H.up1 rfl ?_ | refine rv_load H.up2 rfl ?_ | refine rv_load H.up3 rfl ?_ | refine rv_load H.up4 rfl ?_))))
    refine ru_store H (by simp) hy ?_
    intro w2 H
    exact k w2 (Wr.m H)
  · have h : e ≠ 0 := by simpa using h
    refine k w ?_
    rw [if_neg h]
    exact Wr.m H

theorem fail_spec {b : Nat} {ty : Nat} {c : List Value} {e x : Int} (H : St W w (cells b ty (.int .i64 e :: c) :: L)) (k : ∀ w', St W w' (cells b ty (.int .i64 (if e = 0 then x else e) :: c) :: L) → K (.tuple #[]) w') : FCall Try.prog Fn.wire_status_fail #[.pointer (some ⟨b, 0, none⟩), .int .i64 x] w K X := by
  refine wire_status_fail_call ?_
  unfold Sh.wire_status_fail
  (repeat with_reducible (first | refine Red.to ?_ | (refine is_rload ?_; (first | refine rv_load H rfl ?_ | refine rv_load H.up1 rfl ?_ | refine rv_load H.up2 rfl ?_ | refine rv_load H.up3 rfl ?_ | refine rv_load H.up4 rfl ?_))))
  refine cond_split (fun h => ?_) (fun h => ?_)
  · have h : e = 0 := by simpa using h
    subst h
    rw [if_pos rfl] at k
    (repeat with_reducible (first | refine Red.to ?_ | (refine is_rload ?_; (first | refine rv_load H rfl ?_ | refine rv_load H.up1 rfl ?_ | refine rv_load H.up2 rfl ?_ | refine rv_load H.up3 rfl ?_ | refine rv_load H.up4 rfl ?_))))
    refine ru_store H (by simp) rfl ?_
    intro w1 H
    exact k w1 H
  · have h : e ≠ 0 := by simpa using h
    rw [if_neg h] at k
    exact k w H

/-- what Bytes puts -/
def putBytes (e : Int) (bs xs : List UInt8) : Int × List UInt8 :=
  if e = 0 then (if 65536 < xs.length then (2, bs) else (0, bs ++ form xs.length ++ xs)) else (e, bs)
end
end Go.Proofs.Ytdmocobabpmoeaa
