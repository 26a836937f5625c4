/-
  Rules of the operations over 'Vc' and 'Sep': what each asks and leaves. No program in sight: what is asked of a type is a class, paid once a type.
-/
import Derived.Test.YtdmocobabpmoeaaVc
import Derived.Test.YtdmocobabpmoeaaSep
import Derived.WalkKit
import Derived.Laws.OwnMore
import Derived.Laws.BytesArg
import Derived.ArgAppend
import Derived.WalkSpells
import Derived.Laws.CopyRow
import Derived.WalkSmall
import Derived.Laws.StructEq
import Derived.Lib.SlBytesConst
namespace Go.Ops
open Go.Vc Go.Sep

def isAggD : TypeDesc → Bool
  | .struct _ | .array _ _ => true
  | _ => false
/-- A type of one cell. -/
class TCell (P : Program) (t : Nat) : Prop where
  agg : (P.underlying t).map isAggD = some false
  size : (P.info? t).map (·.size) = some 1
/-- A struct or an array of n cells. -/
class TAgg (P : Program) (t : Nat) (n : outParam Nat) : Prop where
  agg : (P.underlying t).map isAggD = some true
  size : (P.info? t).map (·.size) = some n
def fieldFact (P : Program) (s f : Nat) : Option Nat :=
  match P.underlying s with
  | some (.struct fs) => match fs[f]? with
    | some fd => match P.info? fd.type with
      | some i => if i.size = 0 then none else some fd.offset
      | none => none
    | none => none
  | _ => none
class TField (P : Program) (s f : Nat) (off : outParam Nat) : Prop where
  fact : fieldFact P s f = some off
class TSlice (P : Program) (t : Nat) (e size bytes : outParam Nat) (z : outParam Value) : Prop where
  und : P.underlying t = some (.slice e)
  info : (P.info? e).map (fun i => (i.zero, i.size, i.bytes)) = some (some z, size, bytes)
  zsize : z.cells.size = size
  pos : 0 < size
/-- A type's zero, laid out. -/
class TZ (P : Program) (t : Nat) (c : outParam (List Value)) : Prop where
  zero : (P.info? t).map (fun i => i.zero.map (·.cells)) = some (some c.toArray)
class TInt (P : Program) (t : Nat) (k : outParam IntKind) : Prop where
  und : P.underlying t = some (.int k)
class TStr (P : Program) (t : Nat) : Prop where
  und : P.underlying t = some .string
class TBool (P : Program) (t : Nat) : Prop where
  und : P.underlying t = some .bool
class TPtr (P : Program) (t : Nat) (e : outParam Nat) : Prop where
  und : P.underlying t = some (.pointer e)

section
variable {P : Program}

theorem rv {s : Sem Value} {w w' : World} {v : Value} {K : Value → World → Prop} {X : XPost} (h : s.run P w = .ok v w') (k : K v w') : RunV P s w K X := ⟨by unfold runV; rw [h]; exact k⟩
theorem ru {s : Sem Unit} {w w' : World} {K : World → Prop} {X : XPost} (h : s.run P w = .ok () w') (k : K w') : RunU P s w K X := ⟨by unfold runU; rw [h]; exact k⟩
theorem tk {s : Sem Value} {S : World → Prop} {v : Value} {K : Value → Prop} (h : ∀ w, S w → s.run P w = .ok v w) (k : K v) : Take P s S K := ⟨⟨v, h, k⟩⟩
theorem tp {s : Sem Value} {v : Value} {K : Value → Prop} (h : ∀ w, s.run P w = .ok v w) (k : K v) : TakeP P s K := ⟨⟨v, h, k⟩⟩

theorem cond_bool {b : Bool} {A B : Prop} : Cond (.bool b) A B ↔ (b = true → A) ∧ (b = false → B) := by
  constructor
  · rintro ⟨⟨t, ht, h⟩⟩; simp only [Value.bool.injEq] at ht; subst ht; exact h
  · intro h; exact ⟨⟨b, rfl, h⟩⟩
theorem cond_true' {A B : Prop} (h : A) : Cond (.bool true) A B := cond_bool.2 ⟨fun _ => h, fun e => (by cases e)⟩
theorem cond_false' {A B : Prop} (h : B) : Cond (.bool false) A B := cond_bool.2 ⟨fun e => (by cases e), fun _ => h⟩
theorem cond_split {b : Bool} {A B : Prop} (h1 : b = true → A) (h2 : b = false → B) : Cond (.bool b) A B := cond_bool.2 ⟨h1, h2⟩
theorem guard_bool {b want : Bool} {A B : Prop} (h1 : b = want → A) (h2 : b ≠ want → B) : Guard (.bool b) want A B := ⟨fun e => h1 (by simpa [asB] using e), fun e => h2 (by simpa [asB] using e)⟩
theorem guard_undef {want : Bool} {A B : Prop} (h : B) : Guard undef want A B := ⟨fun e => by simp [asB, undef] at e, fun _ => h⟩
theorem pick_bool {b : Bool} {x y : Value} {K : Value → Prop} (h : K (cond b x y)) : Pick (.bool b) x y K := ⟨⟨b, rfl, h⟩⟩

/-! ### Numbers -/
theorem eqg_int {op : BinOp} {t : Nat} {cx cy : Bool} {k j : IntKind} {a b : Int} {w : World} : (eqg op t cx cy (.int k a) (.int j b)).run P w = .ok () w := by
  cases op <;> rfl
theorem run_bin_int {op : BinOp} {t : Nat} {cx cy : Bool} {k : IntKind} {a b : Int} {w : World} {v : Value} (h : (binOp op t (.int k a) (.int k b)).run P w = .ok v w) : (bin op t cx cy (.int k a) (.int k b)).run P w = .ok v w := by
  unfold bin; simp [Sem.run_bind, eqg_int, h]
theorem run_eql {t : Nat} {cx cy : Bool} {k : IntKind} {a b : Int} {w : World} : (bin .eql t cx cy (.int k a) (.int k b)).run P w = .ok (.bool (a == b)) w := run_bin_int (by simp [binOp, Op.intCmp])
theorem run_neq {t : Nat} {cx cy : Bool} {k : IntKind} {a b : Int} {w : World} : (bin .neq t cx cy (.int k a) (.int k b)).run P w = .ok (.bool (a != b)) w := run_bin_int (by simp [binOp, Op.intCmp])
theorem run_lss {t : Nat} {cx cy : Bool} {k : IntKind} {a b : Int} {w : World} : (bin .lss t cx cy (.int k a) (.int k b)).run P w = .ok (.bool (decide (a < b))) w := run_bin_int (by simp [binOp, Op.intCmp])
theorem run_leq {t : Nat} {cx cy : Bool} {k : IntKind} {a b : Int} {w : World} : (bin .leq t cx cy (.int k a) (.int k b)).run P w = .ok (.bool (decide (a ≤ b))) w := run_bin_int (by simp [binOp, Op.intCmp])
theorem run_gtr {t : Nat} {cx cy : Bool} {k : IntKind} {a b : Int} {w : World} : (bin .gtr t cx cy (.int k a) (.int k b)).run P w = .ok (.bool (decide (b < a))) w := run_bin_int (by simp [binOp, Op.intCmp])
theorem run_geq {t : Nat} {cx cy : Bool} {k : IntKind} {a b : Int} {w : World} : (bin .geq t cx cy (.int k a) (.int k b)).run P w = .ok (.bool (decide (b ≤ a))) w := run_bin_int (by simp [binOp, Op.intCmp])
theorem run_add {t : Nat} {cx cy : Bool} {k : IntKind} {a b : Int} {w : World} : (bin .add t cx cy (.int k a) (.int k b)).run P w = .ok (.int k (k.wrap (a + b))) w := run_bin_int (by simp [binOp, Op.intArith])
theorem run_sub {t : Nat} {cx cy : Bool} {k : IntKind} {a b : Int} {w : World} : (bin .sub t cx cy (.int k a) (.int k b)).run P w = .ok (.int k (k.wrap (a - b))) w := run_bin_int (by simp [binOp, Op.intArith])
theorem run_mul {t : Nat} {cx cy : Bool} {k : IntKind} {a b : Int} {w : World} : (bin .mul t cx cy (.int k a) (.int k b)).run P w = .ok (.int k (k.wrap (a * b))) w := run_bin_int (by simp [binOp, Op.intArith])
def bitsOf (op : BinOp) (k : IntKind) (a b : Int) : Int :=
  match op with
  | .and => k.wrap (BitVec.ofInt k.bits a &&& BitVec.ofInt k.bits b).toNat
  | .or => k.wrap (BitVec.ofInt k.bits a ||| BitVec.ofInt k.bits b).toNat
  | .xor => k.wrap (BitVec.ofInt k.bits a ^^^ BitVec.ofInt k.bits b).toNat
  | _ => 0
theorem run_and {t : Nat} {cx cy : Bool} {k : IntKind} {a b : Int} {w : World} : (bin .and t cx cy (.int k a) (.int k b)).run P w = .ok (.int k (bitsOf .and k a b)) w := run_bin_int (by simp [binOp, Op.intBits, bitsOf])
theorem run_or {t : Nat} {cx cy : Bool} {k : IntKind} {a b : Int} {w : World} : (bin .or t cx cy (.int k a) (.int k b)).run P w = .ok (.int k (bitsOf .or k a b)) w := run_bin_int (by simp [binOp, Op.intBits, bitsOf])
theorem run_xor {t : Nat} {cx cy : Bool} {k : IntKind} {a b : Int} {w : World} : (bin .xor t cx cy (.int k a) (.int k b)).run P w = .ok (.int k (bitsOf .xor k a b)) w := run_bin_int (by simp [binOp, Op.intBits, bitsOf])
theorem run_shl {t : Nat} {cx cy : Bool} {k j : IntKind} {a b : Int} {w : World} (h : 0 ≤ b) : (bin .shl t cx cy (.int k a) (.int j b)).run P w = .ok (.int k (k.wrap (a * 2 ^ min b.toNat k.bits))) w := by
  have : ¬ b < 0 := by omega
  unfold bin; simp [eqg_int, binOp, Op.shift, this]
theorem run_shr {t : Nat} {cx cy : Bool} {k j : IntKind} {a b : Int} {w : World} (h : 0 ≤ b) : (bin .shr t cx cy (.int k a) (.int j b)).run P w = .ok (.int k (a.fdiv (2 ^ min b.toNat k.bits))) w := by
  have : ¬ b < 0 := by omega
  unfold bin; simp [eqg_int, binOp, Op.shift, this]
theorem run_rem {t : Nat} {cx cy : Bool} {a b : Int} {w : World} (h : b ≠ 0) : (bin .rem t cx cy (.int .u64 a) (.int .u64 b)).run P w = .ok (.int .u64 (a.tmod b)) w := by
  refine run_bin_int ?_
  simp [binOp, Op.intDiv, h]
theorem run_quo {t : Nat} {cx cy : Bool} {a b : Int} {w : World} (h : b ≠ 0) : (bin .quo t cx cy (.int .u64 a) (.int .u64 b)).run P w = .ok (.int .u64 (IntKind.u64.wrap (a.tdiv b))) w := by
  refine run_bin_int ?_
  simp [binOp, Op.intDiv, h]
theorem run_convert_i {src dst : Nat} {j k : IntKind} {n : Int} {w : World} [hs : TInt P src j] [hd : TInt P dst k] : (convert src dst (.int j n)).run P w = .ok (.int k (k.wrap n)) w := by
  simp [convert, run_underlying hs.und, run_underlying hd.und, Conv.intToInt]

/-! ### Bools, strings, pointers, slices: compared -/
theorem run_eql_b {t : Nat} [h : TBool P t] {cx cy : Bool} {a b : Bool} {w : World} : (bin .eql t cx cy (.bool a) (.bool b)).run P w = .ok (.bool (a == b)) w := by
  unfold bin; simp [eqg, eqGuard, run_eql_bool w t a b h.und]
theorem run_neq_b {t : Nat} [h : TBool P t] {cx cy : Bool} {a b : Bool} {w : World} : (bin .neq t cx cy (.bool a) (.bool b)).run P w = .ok (.bool (!(a == b))) w := by
  unfold bin; simp [eqg, eqGuard, run_neq_bool w t a b h.und]
theorem run_eql_s {t : Nat} {cx cy : Bool} {a b : ByteArray} {w : World} : (bin .eql t cx cy (.string a) (.string b)).run P w = .ok (.bool (a.toList == b.toList)) w := by
  unfold bin; simp [eqg, eqGuard, binOp, Op.stringOp]
theorem run_neq_s {t : Nat} {cx cy : Bool} {a b : ByteArray} {w : World} : (bin .neq t cx cy (.string a) (.string b)).run P w = .ok (.bool (!(a.toList == b.toList))) w := by
  unfold bin; simp [eqg, eqGuard, binOp, Op.stringOp]
theorem run_eql_pn {t e : Nat} [h : TPtr P t e] {cx cy : Bool} {p : Option Addr} {w : World} : (bin .eql t cx cy (.pointer p) (.pointer none)).run P w = .ok (.bool p.isNone) w := by
  have hp : P.pointee t = e := by simp [Program.pointee, h.und]
  unfold bin; simp [eqg, eqGuard, run_eql_pointer_nil w t p (by rw [hp]; exact h.und)]
theorem run_neq_pn {t e : Nat} [h : TPtr P t e] {cx cy : Bool} {p : Option Addr} {w : World} : (bin .neq t cx cy (.pointer p) (.pointer none)).run P w = .ok (.bool (!p.isNone)) w := by
  have hp : P.pointee t = e := by simp [Program.pointee, h.und]
  unfold bin; simp [eqg, eqGuard, run_neq_pointer_nil w t p (by rw [hp]; exact h.und)]
theorem run_eql_sn {t e s b : Nat} {z : Value} [h : TSlice P t e s b z] {cx cy : Bool} {p : Option Addr} {l c : Nat} {w : World} : (bin .eql t cx cy (.slice p l c) (.slice none 0 0)).run P w = .ok (.bool p.isNone) w := by
  unfold bin
  simp [eqg, eqGuard, Lib.run_eql_slice_nil w t e p l c 0 0 h.und]

theorem run_not {b : Bool} {w : World} : (Op.unary .not (.bool b)).run P w = .ok (.bool !b) w := by simp [Op.unary]
theorem run_neg {k : IntKind} {a : Int} {w : World} : (Op.unary .neg (.int k a)).run P w = .ok (.int k (k.wrap (0 - a))) w := by simp [Op.unary, Op.intArith]
theorem run_min {t1 t2 ty : Nat} {k : IntKind} {a b : Int} {w : World} : (Builtin.min_ #[t1, t2] ty #[.int k a, .int k b]).run P w = .ok (.int k (if b < a then b else a)) w := by
  simp [Builtin.min_, Builtin.min2]
theorem run_max {t1 t2 ty : Nat} {k : IntKind} {a b : Int} {w : World} : (Builtin.max_ #[t1, t2] ty #[.int k a, .int k b]).run P w = .ok (.int k (if a < b then b else a)) w := by
  simp [Builtin.max_, Builtin.max2]
theorem run_extract {vs : Array Value} {i : Nat} {v : Value} (h : vs[i]? = some v) {w : World} : (Instr.extract (.tuple vs) i).run P w = .ok v w := by simp [Instr.extract, h]

/-! ### Places -/
theorem run_nilc {a : Addr} {w : World} : (nilc (.pointer (some a))).run P w = .ok (.pointer (some a)) w := rfl
theorem run_field {s f off : Nat} [h : TField P s f off] {a : Addr} {w : World} : (Instr.fieldAt s (.pointer (some a)) f).run P w = .ok (.pointer (some (a.add off))) w := by
  have := h.fact
  unfold fieldFact at this
  split at this
  · rename_i fs hu
    split at this
    · rename_i fd hf
      split at this
      · rename_i i hi
        split at this
        · cases this
        · rename_i hne
          simp only [Option.some.injEq] at this
          subst this
          simp [Instr.fieldAt, run_underlying hu, hf, Instr.sureAddr, fieldPlace, sizeOf, typeInfo, hi, hne]
      · cases this
    · cases this
  · cases this
theorem add_plain (g j : Nat) : (⟨g, 0, none⟩ : Addr).add j = ⟨g, j, none⟩ := by unfold Addr.add; split <;> simp_all
theorem add_plain' (g i j : Nat) : (⟨g, i, none⟩ : Addr).add j = ⟨g, i + j, none⟩ := by unfold Addr.add; split <;> simp_all
theorem run_field0 {s f off : Nat} [h : TField P s f off] {b : Nat} {w : World} : (Instr.fieldAt s (.pointer (some ⟨b, 0, none⟩)) f).run P w = .ok (.pointer (some ⟨b, off, none⟩)) w := by
  rw [run_field, add_plain]
theorem run_field' {s f off : Nat} [h : TField P s f off] {b i : Nat} {w : World} : (Instr.fieldAt s (.pointer (some ⟨b, i, none⟩)) f).run P w = .ok (.pointer (some ⟨b, i + off, none⟩)) w := by
  rw [run_field, add_plain']
theorem TCell.run_isAgg {t : Nat} (h : TCell P t) (w : World) : (isAgg t).run P w = .ok false w := by
  have := h.agg
  cases hu : P.underlying t with
  | none => rw [hu] at this; simp at this
  | some d =>
    rw [hu] at this
    cases d <;> simp_all [isAgg, run_underlying hu, isAggD]
theorem TAgg.run_isAgg {t n : Nat} (h : TAgg P t n) (w : World) : (isAgg t).run P w = .ok true w := by
  have := h.agg
  cases hu : P.underlying t with
  | none => rw [hu] at this; simp at this
  | some d =>
    rw [hu] at this
    cases d <;> simp_all [isAgg, run_underlying hu, isAggD]
theorem run_sizeOf' {t n : Nat} (h : (P.info? t).map (·.size) = some n) (w : World) : (sizeOf t).run P w = .ok n w := by
  cases hi : P.info? t with
  | none => rw [hi] at h; simp at h
  | some i => rw [hi] at h; simp at h; simp [sizeOf, typeInfo, hi, h]
theorem run_load {t : Nat} [h : TCell P t] {a : Addr} {v : Value} {w : World} (hc : w.cell? a = some v) : (Instr.loadAt t (.pointer (some a))).run P w = .ok v w := by
  simp [Instr.loadAt, Instr.sureAddr, loadVar, h.run_isAgg, load, Sem.run, hc]
theorem run_storeCells_one' {a : Addr} {v u : Value} {w : World} (hc : w.cell? a = some v) (hf : w.frozen? a = false) (h1 : u.oneCell' = true) : (storeCells a [u]).run P w = .ok () (w.setCell a u) := by
  have ha : a.add 0 = a := by simp [Addr.add]
  cases u <;> first | (simp [Value.oneCell'] at h1; done) | simp [storeCells, store, ha, Sem.run, hc, hf]
theorem run_store {t : Nat} [h : TCell P t] {a : Addr} {v u : Value} {w : World} (hc : w.cell? a = some v) (hf : w.frozen? a = false) (h1 : u.oneCell' = true) : (Instr.storeAt t (.pointer (some a)) u).run P w = .ok () (w.setCell a u) := by
  have hsz : u.cells = #[u] := by cases u <;> simp_all [Value.oneCell', Value.cells]
  have := run_storeCells_one' (P := P) hc hf h1
  simp [Instr.storeAt, Instr.sureAddr, storeVar, run_sizeOf' h.size, hsz, this]
theorem run_len {t e s b ty : Nat} {z : Value} [h : TSlice P t e s b z] {p : Option Addr} {n c : Nat} {w : World} : (Builtin.len_ #[t] ty #[.slice p n c]).run P w = .ok (.int .i64 n) w := by
  simp [Builtin.len_, run_underlying h.und, goInt]
theorem run_len_s {t ty : Nat} [h : TStr P t] {s : ByteArray} {w : World} : (Builtin.len_ #[t] ty #[.string s]).run P w = .ok (.int .i64 s.size) w := by
  simp [Builtin.len_, run_underlying h.und, goInt]
theorem TSlice.size' {t e s b : Nat} {z : Value} (h : TSlice P t e s b z) : (P.info? e).map (·.size) = some s := by
  have := h.info
  cases hi : P.info? e with
  | none => rw [hi] at this; simp at this
  | some i => rw [hi] at this; simp at this; simp [this]
theorem run_index {t e s b : Nat} {z : Value} [h : TSlice P t e s b z] {g off n c : Nat} {k : IntKind} {i : Int} {w : World} (h0 : 0 ≤ i) (h1 : i < n) : (Instr.indexAt t (.slice (some ⟨g, off, none⟩) n c) (.int k i)).run P w = .ok (.pointer (some ⟨g, off + i.toNat * s, none⟩)) w := by
  simp [Instr.indexAt, run_underlying h.und, asIntOf, h0, h1, run_sizeOf' h.size', add_plain']

theorem run_slice_bound {k : IntKind} {i : Int} {y : Nat} {code : BoundsCode} {w : World} (h0 : 0 ≤ i) (h1 : i ≤ y) : (Instr.sliceBound (.int k i) y code).run P w = .ok i.toNat w := by
  simp [Instr.sliceBound, asIntOf, h0, h1]
/-- 's[:h]' -/
theorem run_slice_h' {t e s b : Nat} {z : Value} [h : TSlice P t e s b z] {g off n c : Nat} {k : IntKind} {i : Int} {w : World} (h0 : 0 ≤ i) (h1 : i ≤ c) : (Instr.sliceAt t (.slice (some ⟨g, off, none⟩) n c) none (some (.int k i)) none).run P w = .ok (.slice (some ⟨g, off, none⟩) i.toNat c) w := by
  simp [Instr.sliceAt, Instr.slice, run_underlying h.und, Instr.sliceBounds, run_slice_bound h0 h1, run_sizeOf' h.size', add_plain']
theorem run_slice_h_nil {t e s b : Nat} {z : Value} [h : TSlice P t e s b z] {k : IntKind} {w : World} : (Instr.sliceAt t (.slice none 0 0) none (some (.int k 0)) none).run P w = .ok (.slice none 0 0) w := by
  simp [Instr.sliceAt, Instr.slice, run_underlying h.und, Instr.sliceBounds, run_slice_bound (k := k) (i := 0) (y := 0), run_sizeOf' h.size']
/-- 's[l:]': where it begins hangs on whether anything is left. -/
theorem run_slice_l' {t e s b : Nat} {z : Value} [h : TSlice P t e s b z] {g off n c : Nat} {k : IntKind} {i : Int} {w : World} (h0 : 0 ≤ i) (h1 : i ≤ n) : (Instr.sliceAt t (.slice (some ⟨g, off, none⟩) n c) (some (.int k i)) none none).run P w = .ok (.slice (some ⟨g, if c = i.toNat then off else off + i.toNat * s, none⟩) (n - i.toNat) (c - i.toNat)) w := by
  simp only [Instr.sliceAt, Instr.slice, Sem.run_bind, run_underlying h.und, Result.andThen_ok, Instr.sliceBounds, run_slice_bound h0 h1, run_sizeOf' h.size', Sem.run_pure]
  split <;> simp [add_plain']
theorem run_slice_l_nil {t e s b : Nat} {z : Value} [h : TSlice P t e s b z] {k : IntKind} {w : World} : (Instr.sliceAt t (.slice none 0 0) (some (.int k 0)) none none).run P w = .ok (.slice none 0 0) w := by
  simp [Instr.sliceAt, Instr.slice, run_underlying h.und, Instr.sliceBounds, run_slice_bound (k := k) (i := 0) (y := 0), run_sizeOf' h.size']
/-- 's[l:h]' -/
theorem run_slice_lh' {t e s b : Nat} {z : Value} [h : TSlice P t e s b z] {g off n c : Nat} {k k' : IntKind} {i j : Int} {w : World} (h0 : 0 ≤ i) (h1 : i ≤ j) (h2 : j ≤ c) : (Instr.sliceAt t (.slice (some ⟨g, off, none⟩) n c) (some (.int k i)) (some (.int k' j)) none).run P w = .ok (.slice (some ⟨g, if c = i.toNat then off else off + i.toNat * s, none⟩) (j.toNat - i.toNat) (c - i.toNat)) w := by
  have e : ((j.toNat : Nat) : Int) = j := Int.toNat_of_nonneg (by omega)
  simp only [Instr.sliceAt, Instr.slice, Sem.run_bind, run_underlying h.und, Result.andThen_ok, Instr.sliceBounds, run_slice_bound (P := P) (w := w) (show 0 ≤ j by omega) h2, run_slice_bound (P := P) (w := w) (y := j.toNat) h0 (by omega), run_sizeOf' h.size', Sem.run_pure]
  split <;> simp [add_plain']
theorem run_slice_lh_nil {t e s b : Nat} {z : Value} [h : TSlice P t e s b z] {k k' : IntKind} {w : World} : (Instr.sliceAt t (.slice none 0 0) (some (.int k 0)) (some (.int k' 0)) none).run P w = .ok (.slice none 0 0) w := by
  simp [Instr.sliceAt, Instr.slice, run_underlying h.und, Instr.sliceBounds, run_slice_bound (k := k) (i := 0) (y := 0), run_slice_bound (k := k') (i := 0) (y := 0), run_sizeOf' h.size']

/-! ### Memory, over a state -/
variable {W w : World} {L : List HProp} {K : Value → World → Prop} {KU : World → Prop} {X : XPost}

theorem rv_load {t : Nat} [TCell P t] {b ty i : Nat} {c : List Value} {v : Value} (H : St W w (cells b ty c :: L)) (hc : c[i]? = some v) (k : K v w) : RunV P (Instr.loadAt t (.pointer (some ⟨b, i, none⟩))) w K X := rv (run_load (H.load hc)) k
theorem rv_load_old {t : Nat} [TCell P t] {a : Addr} {v : Value} (H : St W w L) (hc : W.cell? a = some v) (k : K v w) : RunV P (Instr.loadAt t (.pointer (some a))) w K X := rv (run_load (H.old hc)) k
theorem ru_store {t : Nat} [TCell P t] {b ty i : Nat} {c : List Value} {u : Value} (H : St W w (cells b ty c :: L)) (hi : i < c.length) (h1 : u.oneCell' = true) (k : ∀ w', St W w' (cells b ty (c.set i u) :: L) → KU w') : RunU P (Instr.storeAt t (.pointer (some ⟨b, i, none⟩)) u) w KU X :=
  ru (run_store (H.load (List.getElem?_eq_getElem hi)) (H.unfrozen i) h1) (k _ (H.store i u))
theorem rv_box {elem : Nat} {v : Value} {c : List Value} (H : St W w L) (hc : v.cells = c.toArray) (k : ∀ b w', St W w' (cells b elem c :: L) → K (.pointer (some ⟨b, 0, none⟩)) w') : RunV P (Instr.box elem v) w K X := by
  refine rv (v := .pointer (some ⟨w.heap.size, 0, none⟩)) (w' := w.alloc (.cells c.toArray elem)) ?_ (k _ _ (H.alloc c elem))
  simp [Instr.box, newVar, newRow, hc]
/-! ### '==' on structs of numbers and truths -/
def partP (P : Program) (t : TypeId) (cs : Array Value) (off : Nat) : Option Value :=
  match P.underlying t with
  | some d => cond (isAggD d) (match P.info? t with | some i => some (.agg (cs.toList.drop off |>.take i.size).toArray) | none => none) cs[off]?
  | none => none
def eqPF (P : Program) (rec : TypeId → Value → Value → Option Bool) (xs ys : Array Value) : List Field → Option Bool
  | [] => some true
  | f :: fs => cond (f.name == "_") none (match partP P f.type xs f.offset, partP P f.type ys f.offset with
    | some a, some b => match rec f.type a b with
      | some r => match eqPF P rec xs ys fs with
        | some q => some (r && q)
        | none => none
      | none => none
    | _, _ => none)
def eqP (P : Program) : Nat → TypeId → Value → Value → Option Bool
  | 0, _, _, _ => none
  | d + 1, t, x, y => match P.underlying t, x, y with
    | some .bool, .bool a, .bool b => some (a == b)
    | some (.int _), .int k a, .int k' b => if k = k' then some (a == b) else none
    | some (.struct fs), .agg xs, .agg ys => cond (P.stoodInHeld t) none (eqPF P (eqP P d) xs ys fs.toList)
    | _, _, _ => none
theorem run_partP {t off : Nat} {cs : Array Value} {v : Value} {w : World} (h : partP P t cs off = some v) : (part t cs off).run P w = .ok v w := by
  unfold partP at h
  cases hu : P.underlying t with
  | none => rw [hu] at h; cases h
  | some d =>
    rw [hu] at h
    simp only at h
    cases hd : isAggD d with
    | true =>
      rw [hd] at h
      simp only [cond_true] at h
      cases hi : P.info? t with
      | none => rw [hi] at h; cases h
      | some i =>
        rw [hi] at h
        simp only [Option.some.injEq] at h
        have ha : (isAgg t).run P w = .ok true w := by
          cases d <;> simp_all [isAgg, run_underlying hu, isAggD]
        have e : cs.extract off (off + i.size) = (cs.toList.drop off |>.take i.size).toArray := by
          apply Array.ext'
          simp
        simp [part, ha, sizeOf, typeInfo, hi, ← h, e]
    | false =>
      rw [hd] at h
      simp only [cond_false] at h
      have ha : (isAgg t).run P w = .ok false w := by
        cases d <;> simp_all [isAgg, run_underlying hu, isAggD]
      simp [part, ha, h]
theorem eqFields_run {rec : TypeId → Value → Value → Option Bool} {D : Nat} {xs ys : Array Value} {w : World} (hrec : ∀ t x y b w, rec t x y = some b → (Op.equalIn D t x y).run P w = .ok b w) :
    ∀ (fs : List Field) (b : Bool), eqPF P rec xs ys fs = some b → (Op.eqFields D xs ys fs).run P w = .ok b w
  | [], b, h => by
    simp only [eqPF, Option.some.injEq] at h
    subst h
    rfl
  | f :: fs, b, h => by
    unfold eqPF at h
    cases hn : (f.name == "_") with
    | true => rw [hn] at h; cases h
    | false =>
      rw [hn] at h
      simp only [cond_false] at h
      split at h
      · rename_i a c ha hc
        split at h
        · rename_i r hr
          split at h
          · rename_i q hq
            simp only [Option.some.injEq] at h
            subst h
            have hne : f.name ≠ "_" := by simpa using hn
            unfold Op.eqFields
            rw [if_pos hne]
            simp only [Sem.run_bind, run_partP ha, run_partP hc, Result.andThen_ok, hrec _ _ _ _ _ hr]
            cases r with
            | true => simpa using eqFields_run hrec fs q hq
            | false => simp
          · cases h
        · cases h
      · cases h
theorem eqP_run : ∀ (d k : Nat) (t : TypeId) (x y : Value) (b : Bool) (w : World), eqP P d t x y = some b → (Op.equalIn (d + k) t x y).run P w = .ok b w
  | 0, k, t, x, y, b, w, h => by simp [eqP] at h
  | d + 1, k, t, x, y, b, w, h => by
    have e : d + 1 + k = (d + k) + 1 := by omega
    rw [e]
    unfold eqP at h
    split at h
    · rename_i a c hu
      simp only [Option.some.injEq] at h
      subst h
      exact run_equalIn_bool' w _ _ _ _ hu
    · rename_i k1 a k2 c hu
      split at h
      · rename_i hk
        simp only [Option.some.injEq] at h
        subst h hk
        exact run_equalIn_int w _ _ _ _ _ _ hu
      · cases h
    · rename_i fs xs ys hu
      cases hs : P.stoodInHeld t with
      | true => rw [hs] at h; cases h
      | false =>
        rw [hs] at h
        simp only [cond_false] at h
        have hf : P.fieldsOf t = fs := by simp [Program.fieldsOf, hu]
        rw [run_equalIn_struct w _ _ _ _ (by rw [hf]; exact hu) hs, hf]
        exact eqFields_run (fun t x y b w hh => eqP_run d k t x y b w hh) _ _ h
    · cases h
theorem run_eqa {t : Nat} {cx cy : Bool} {xs ys : Array Value} {b : Bool} {w : World} (hm : P.eqGuardType P.depth t = false) (h : eqP P 4 t (.agg xs) (.agg ys) = some b) : (bin .eql t cx cy (.agg xs) (.agg ys)).run P w = .ok (.bool b) w := by
  have := eqP_run (P := P) 4 9996 t _ _ b w h
  simp [bin, eqg, run_eqGuard_agg w _ _ _ _ _ _ hm, run_eql_struct, this]
theorem run_nea {t : Nat} {cx cy : Bool} {xs ys : Array Value} {b : Bool} {w : World} (hm : P.eqGuardType P.depth t = false) (h : eqP P 4 t (.agg xs) (.agg ys) = some b) : (bin .neq t cx cy (.agg xs) (.agg ys)).run P w = .ok (.bool (!b)) w := by
  have := eqP_run (P := P) 4 9996 t _ _ b w h
  simp [bin, eqg, run_eqGuard_agg w _ _ _ _ _ _ hm, run_neq_struct, this]
/-! ### Whole structs -/
theorem rv_alloc {t : Nat} {z : Value} {c : List Value} (hz : (P.info? t).map (·.zero) = some (some z)) (H : St W w L) (hc : z.cells = c.toArray) (k : ∀ b w', St W w' (cells b t c :: L) → K (.pointer (some ⟨b, 0, none⟩)) w') : RunV P (Instr.alloc t true (.tuple #[])) w K X := by
  refine rv (v := .pointer (some ⟨w.heap.size, 0, none⟩)) (w' := w.alloc (.cells c.toArray t)) ?_ (k _ _ (H.alloc c t))
  cases hq : P.info? t with
  | none => simp [hq] at hz
  | some i =>
    simp [hq] at hz
    simp [Instr.alloc, zeroValue, typeInfo, hq, hz, newVar, newRow, hc]
theorem ru_store_agg {t b ty i : Nat} {c c' : List Value} (hs : (P.info? t).map (·.size) = some c'.length) (H : St W w (cells b ty c :: L)) (hl : i + c'.length ≤ c.length) (h1 : ∀ u ∈ c', u.oneCell' = true)
    (k : ∀ w', St W w' (cells b ty (c.take i ++ c' ++ c.drop (i + c'.length)) :: L) → KU w') : RunU P (Instr.storeAt t (.pointer (some ⟨b, i, none⟩)) (.agg c'.toArray)) w KU X := by
  have hg := H.cells_heap.1
  have hr := run_storeCells_at P b i ty c' 0 c.toArray w hg (by simpa using hl) h1
  simp only [Nat.add_zero] at hr
  refine ru (w' := w.setRow b (c.take i ++ c' ++ c.drop (i + c'.length)).toArray) ?_ (k _ ?_)
  · simp [Instr.storeAt, Instr.sureAddr, storeVar, run_sizeOf' hs, Value.cells, hr]
  · exact H.replace (setRow_heap w b _ _ ty _ hg) (fun j hj _ => setRow_other w b j _ hj) rfl rfl rfl (by simp)
theorem ru_store_whole {t b ty : Nat} {c c' : List Value} (hs : (P.info? t).map (·.size) = some c'.length) (H : St W w (cells b ty c :: L)) (hl : c.length = c'.length) (h1 : ∀ u ∈ c', u.oneCell' = true)
    (k : ∀ w', St W w' (cells b ty c' :: L) → KU w') : RunU P (Instr.storeAt t (.pointer (some ⟨b, 0, none⟩)) (.agg c'.toArray)) w KU X := by
  refine ru_store_agg hs H (by omega) h1 fun w' H => k w' ?_
  rw [List.take_zero, List.nil_append, List.drop_of_length_le (by omega), List.append_nil] at H
  exact H
theorem rv_allocz {t : Nat} {c : List Value} [h : TZ P t c] (H : St W w L) (k : ∀ b w', St W w' (cells b t c :: L) → K (.pointer (some ⟨b, 0, none⟩)) w') : RunV P (Instr.alloc t true (.tuple #[])) w K X := by
  have hz := h.zero
  cases hq : P.info? t with
  | none => simp [hq] at hz
  | some i =>
    cases hzz : i.zero with
    | none => simp [hq, hzz] at hz
    | some z =>
      refine rv_alloc (z := z) (by simp [hq, hzz]) H ?_ k
      simpa [hq, hzz] using hz
/-- A struct's variable, made and set. -/
theorem rv_new {t n : Nat} {c c' : List Value} {KU : Value → World → Prop} [TZ P t c] [h : TAgg P t n] (H : St W w L) (hl : c.length = c'.length) (hn : c'.length = n) (h1 : ∀ u ∈ c', u.oneCell' = true)
    (k : ∀ b w', St W w' (cells b t c' :: L) → KU (.pointer (some ⟨b, 0, none⟩)) w') : RunV P (Instr.alloc t true (.tuple #[])) w (fun p w => RunU P (Instr.storeAt t p (.agg c'.toArray)) w (KU p) X) X := by
  refine rv_allocz H fun b w' H => ?_
  exact ru_store_whole (hn ▸ h.size) H hl h1 (fun w' H => k b w' H)
theorem rv_new1 {t : Nat} {c : List Value} {u : Value} {KU : Value → World → Prop} [TZ P t c] [TCell P t] (H : St W w L) (hl : c.length = 1) (h1 : u.oneCell' = true)
    (k : ∀ b w', St W w' (cells b t [u] :: L) → KU (.pointer (some ⟨b, 0, none⟩)) w') : RunV P (Instr.alloc t true (.tuple #[])) w (fun p w => RunU P (Instr.storeAt t p u) w (KU p) X) X := by
  refine rv_allocz H fun b w' H => ?_
  match c, hl with
  | [v], _ => exact ru_store H (by simp) h1 (fun w' H => k b w' H)
theorem run_load_part {t n b ty i : Nat} [h : TAgg P t n] {c : List Value} {w : World} {cs : List Value} (H : St W w (cells b ty c :: L)) (hc : (c.drop i).take n = cs) (hl : cs.length = n) : (Instr.loadAt t (.pointer (some ⟨b, i, none⟩))).run P w = .ok (.agg cs.toArray) w := by
  have hcell : ∀ j v, cs[j]? = some v → w.cell? (Addr.add ⟨b, i, none⟩ j) = some v := by
    intro j v hj
    rw [add_plain']
    refine H.load ?_
    rw [← hc] at hj
    by_cases hjn : j < n
    · rwa [List.getElem?_take_of_lt hjn, List.getElem?_drop] at hj
    · rw [List.getElem?_take_eq_none (by omega)] at hj; cases hj
  have := run_loadCells_list (P := P) w ⟨b, i, none⟩ cs hcell
  rw [hl] at this
  simp [Instr.loadAt, Instr.sureAddr, loadVar, Sem.run_bind, h.run_isAgg, run_sizeOf' h.size, this]
theorem rv_loada {t n b ty i : Nat} [h : TAgg P t n] {c cs : List Value} (H : St W w (cells b ty c :: L)) (hc : (c.drop i).take n = cs) (hl : cs.length = n) (k : K (.agg cs.toArray) w) : RunV P (Instr.loadAt t (.pointer (some ⟨b, i, none⟩))) w K X := rv (run_load_part H hc hl) k
theorem tk_loada {t n b ty i : Nat} [h : TAgg P t n] {c cs : List Value} {S : World → Prop} {KT : Value → Prop} (hS : ∀ w, S w → St W w (cells b ty c :: L)) (hc : (c.drop i).take n = cs) (hl : cs.length = n) (k : KT (.agg cs.toArray)) : Take P (Instr.loadAt t (.pointer (some ⟨b, i, none⟩))) S KT := tk (fun w h => run_load_part (hS w h) hc hl) k
/-- A row of a slice that is read, into a variable of its own. -/
theorem rv_row {t e s b : Nat} {z sv : Value} [TSlice P t e s b z] [h : TAgg P e s] {c cs : List Value} [TZ P e c] {g off n cap i : Nat} {KU : Value → World → Prop} {X0 X1 X2 X3 : XPost} (H : St W w L) (hv : sv = .slice (some ⟨g, off, none⟩) n cap) (hi : i < n)
    (hc : ∀ j v, cs[j]? = some v → w.cell? ⟨g, off + (i * s + j), none⟩ = some v) (hl : c.length = cs.length) (hn : cs.length = s) (h1 : ∀ u ∈ cs, u.oneCell' = true)
    (k : ∀ b w', St W w' (cells b e cs :: L) → KU (.pointer (some ⟨b, 0, none⟩)) w') :
    RunV P (Instr.indexAt t sv (.int .i64 i)) w (fun a w => RunV P (Instr.loadAt e a) w (fun v w => RunV P (Instr.alloc e true (.tuple #[])) w (fun p w => RunU P (Instr.storeAt e p v) w (KU p) X3) X2) X1) X0 := by
  subst hv
  refine rv (run_index (by omega) (by omega)) ?_
  have ei : off + ((i : Nat) : Int).toNat * s = off + i * s := by simp
  rw [ei]
  have hcell : ∀ j v, cs[j]? = some v → w.cell? (Addr.add ⟨g, off + i * s, none⟩ j) = some v := by
    intro j v hj
    rw [add_plain', Nat.add_assoc]
    exact hc j v hj
  have := run_loadCells_list (P := P) w ⟨g, off + i * s, none⟩ cs hcell
  rw [hn] at this
  refine rv (v := .agg cs.toArray) (w' := w) (by simp [Instr.loadAt, Instr.sureAddr, loadVar, Sem.run_bind, h.run_isAgg, run_sizeOf' h.size, this]) ?_
  refine rv_allocz H fun b w' H => ?_
  exact ru_store_whole (hn ▸ h.size) H hl h1 (fun w' H => k b w' H)
/-! ### Panics, results in cells -/
theorem rv_panic {t : Nat} {v : Value} (hx : X [{ v := .iface t v, recovered := false }] w) : RunV P (Instr.panic (.iface t v)) w K X := by
  refine ⟨?_⟩
  unfold runV
  rw [show (Instr.panic (.iface t v)).run P w = .halt (.panic (.iface t v)) w by rw [run_panic_iface]]
  exact hx
theorem ld_one {t : Nat} [TCell P t] {b ty i : Nat} {c : List Value} {v : Value} {KT : Value → Prop} (H : St W w (cells b ty c :: L)) (hc : c[i]? = some v) (k : KT v) : Ld P t (.pointer (some ⟨b, i, none⟩)) w KT := ⟨⟨v, Ops.run_load (H.load hc), k⟩⟩
theorem ld_agg {t n b ty i : Nat} [h : TAgg P t n] {c cs : List Value} {KT : Value → Prop} (H : St W w (cells b ty c :: L)) (hc : (c.drop i).take n = cs) (hl : cs.length = n) (k : KT (.agg cs.toArray)) : Ld P t (.pointer (some ⟨b, i, none⟩)) w KT := ⟨⟨_, run_load_part H hc hl, k⟩⟩
theorem run_buildSlice {t e s b n : Nat} {z : Value} [h : TSlice P t e s b z] {parts : List (Nat × Value)} {c : List Value} (hn : n * s ≤ 16777216)
    (hf : Instr.fill (fun i => some (i * s, s)) ((Array.range (n * s)).map (fun j => (if n * s = 0 then #[] else z.cells)[j % (if n * s = 0 then #[] else z.cells).size]!)) parts = some c.toArray) :
    (Instr.buildSlice t n parts.toArray).run P w = .ok (.slice (some ⟨w.heap.size, 0, none⟩) n n) (w.alloc (.cells c.toArray e)) := by
  have hi := h.info
  cases hi' : P.info? e with
  | none => rw [hi'] at hi; simp at hi
  | some i =>
    rw [hi'] at hi
    simp only [Option.map_some, Option.some.injEq, Prod.mk.injEq] at hi
    have hbig : ¬ (16777216 < n * s) := by omega
    by_cases h0 : n * s = 0
    · rw [if_pos h0] at hf
      simp [Instr.buildSlice, run_underlying h.und, sizeOf, typeInfo, hi', hi, h0] at hf ⊢
      simp [hf, newRow]
    · rw [if_neg h0] at hf
      simp [Instr.buildSlice, run_underlying h.und, sizeOf, typeInfo, zeroValue, hi', hi, h0, hbig] at hf ⊢
      simp [hf, newRow]
theorem rv_buildSlice {t e s b n : Nat} {z : Value} [TSlice P t e s b z] {parts : List (Nat × Value)} (H : St W w L) (c : List Value) (hn : n * s ≤ 16777216)
    (hf : Instr.fill (fun i => some (i * s, s)) ((Array.range (n * s)).map (fun j => (if n * s = 0 then #[] else z.cells)[j % (if n * s = 0 then #[] else z.cells).size]!)) parts = some c.toArray)
    (k : ∀ g w', St W w' (cells g e c :: L) → K (.slice (some ⟨g, 0, none⟩) n n) w') : RunV P (Instr.buildSlice t n parts.toArray) w K X :=
  rv (run_buildSlice hn hf) (k _ _ (H.alloc c e))

theorem foldl_set : ∀ (l : List Value) (k : Nat) (cs : Array Value), k + l.length = cs.size →
    ((l.zipIdx k).foldl (fun (cs : Array Value) (x : Value × Nat) => cs.setIfInBounds (0 + x.2) x.1) cs).toList = cs.toList.take k ++ l
  | [], k, cs, h => by
    simp at h; subst h
    simp only [List.zipIdx_nil, List.foldl_nil, List.append_nil]
    rw [List.take_of_length_le (by simp)]
  | x :: l, k, cs, h => by
    simp only [List.length_cons] at h
    rw [List.zipIdx_cons, List.foldl_cons, foldl_set l (k + 1) _ (by simp; omega)]
    simp only [Array.toList_setIfInBounds, Nat.zero_add]
    have hm : min k cs.size = k := by omega
    rw [List.take_set, List.take_succ_eq_append_getElem (by simp; omega), List.set_append_right _ _ (by simp; omega)]
    simp [hm]
theorem fill_one {s : Nat} {cs : Array Value} {v : Value} (hs : v.cells.size = s) (hc : cs.size = s) : Instr.fill (fun i => some (i * s, s)) cs [(0, v)] = some v.cells := by
  simp only [Instr.fill, Nat.zero_mul, hs, hc]
  rw [if_neg (by simp)]
  congr 1
  have := foldl_set v.cells.toList 0 cs (by simp [hs, hc])
  apply Array.ext'
  simp only [List.take_zero, List.nil_append] at this
  rw [← this, ← Array.foldl_toList, Array.toList_zipIdx]
theorem sl_one {e size n : Nat} {v : Value} {xs : List Value} (H : St W w (Sl e size v n xs :: L)) : v.oneCell' = true := by
  rcases H.sl_form.2 with ⟨rfl, _⟩ | ⟨g, cap, rfl, _⟩ <;> rfl
/-- A literal slice of one element. -/
theorem rv_build1 {t e s b : Nat} {z : Value} [TSlice P t e s b z] {v : Value} (H : St W w L) (hs : v.cells.size = s) (hn : s ≤ 16777216)
    (k : ∀ g w', St W w' (cells g e v.cells.toList :: L) → K (.slice (some ⟨g, 0, none⟩) 1 1) w') : RunV P (Instr.buildSlice t 1 #[(0, v)]) w K X := by
  refine rv_buildSlice (parts := [(0, v)]) H v.cells.toList (by omega) ?_ k
  rw [fill_one hs]
  simp
/-! ### A constant string's bytes: a row with the run-time's mark behind it -/
def cellsF (b : Nat) (ty : TypeId) (c : List Value) (fz : Nat × Nat) : HProp := fun h => h b = some (.cells c.toArray ty fz)
theorem rdF {W w : World} {L : List HProp} {b : Nat} {ty : TypeId} {c : List Value} {fz : Nat × Nat} {n cap : Nat} (H : St W w (cellsF b ty c fz :: L)) (hn : n ≤ cap) : Rd w (.slice (some ⟨b, 0, none⟩) n cap) n c := by
  obtain ⟨_, a, _, _, _, _, hs, _, hA, _⟩ := St.cons_iff.1 H
  have := hs b _ hA
  refine .inr ⟨b, 0, cap, rfl, hn, fun j u hj => ?_⟩
  have h2 : w.heap[b]? = some (.cells c.toArray ty fz) := this
  simp [World.cell?, h2, hj]
theorem rv_bytes_const {t e s b n : Nat} {z : Value} [h : TSlice P t e s b z] {parts : List (Nat × Value)} (H : St W w L) (c : List Value) (he : P.underlying e = some (.int .u8)) (hn : n * s ≤ 16777216)
    (hf : Instr.fill (fun i => some (i * s, s)) ((Array.range (n * s)).map (fun j => (if n * s = 0 then #[] else z.cells)[j % (if n * s = 0 then #[] else z.cells).size]!)) parts = some c.toArray)
    (k : ∀ g w', St W w' (cellsF g e c (c.length, c.length + 1) :: L) → K (.slice (some ⟨g, 0, none⟩) n n) w') :
    RunV P (Instr.buildSlice t n parts.toArray) w (fun x w => RunV P (convert t t x) w K X) X := by
  refine rv (run_buildSlice hn hf) ?_
  refine rv (Go.Lib.run_convert_bytes_const w t e c.toArray n n h.und he) ?_
  refine k _ _ ?_
  exact H.new (o := .cells c.toArray e (c.toArray.size, c.toArray.size + 1)) (g := w.heap.size) (by show (w.heap.push _)[w.heap.size]? = _; simp) (Nat.le_refl _) (fun i hi => heap_alloc_old w _ hi) rfl rfl rfl (by simp) (by simp [cellsF])
/-- The empty one. -/
theorem rv_build0 {t e s b : Nat} {z : Value} [TSlice P t e s b z] (H : St W w L) (k : ∀ g w', St W w' (cells g e [] :: L) → K (.slice (some ⟨g, 0, none⟩) 0 0) w') : RunV P (Instr.buildSlice t 0 #[]) w K X := by
  refine rv_buildSlice (parts := []) H [] (by simp) ?_ k
  simp [Instr.fill]

/-- 'append' onto a slice of its own, from whatever cells. -/
theorem run_append' {t e s b ty : Nat} {z : Value} [h : TSlice P t e s b z] {v : Value} {n : Nat} {xs : List Value} (H : St W w (Sl e s v n xs :: L)) {a : Addr} {m c : Nat} {news : List Value} (hl : news.length = m * s)
    (hnews : ∀ j u, news[j]? = some u → w.cell? (a.add j) = some u) (h1 : ∀ u ∈ news, u.oneCell' = true) (hm : n + m ≤ maxLen) (hb : (n + m) * b ≤ 140737488355328) :
    ∃ v' w', (Builtin.append_ #[t, t] ty #[v, .slice (some a) m c]).run P w = .ok v' w' ∧ St W w' (Sl e s v' (n + m) (xs ++ news) :: L) ∧ (v' = .slice none 0 0 ↔ v = .slice none 0 0 ∧ m = 0) := by
  have hinf := h.info
  cases hi' : P.info? e with
  | none => rw [hi'] at hinf; simp at hinf
  | some i =>
    rw [hi'] at hinf
    simp only [Option.map_some, Option.some.injEq, Prod.mk.injEq] at hinf
    obtain ⟨hz, hs, hby⟩ := hinf
    obtain ⟨v', w', hr, ho, hg, hnil⟩ := run_append_own (P := P) w W.heap.size t ty e i z s b h.und hi' hz hs hby h.zsize h.pos v n xs H.owns a m c news hl hnews h1 hm hb H.le
    refine ⟨v', w', hr, H.sl_turn ho hg ?_, hnil⟩
    intro k hk
    rcases H.owns.2 with ⟨rfl, rfl⟩ | ⟨g, cap, cur, rfl, hbg, hgg, hnc, hcm, hcs, htake⟩
    · right
      obtain ⟨v'', w'', hr2, ho2, _, _⟩ := run_append_own (P := P) w w.heap.size t ty e i z s b h.und hi' hz hs hby h.zsize h.pos (.slice none 0 0) 0 xs ⟨H.owns.1, .inl ⟨rfl, rfl⟩⟩ a m c news hl hnews h1 hm hb (Nat.le_refl _)
      rw [hr] at hr2
      simp only [Result.ok.injEq] at hr2
      obtain ⟨rfl, rfl⟩ := hr2
      exact (ho2.lt k hk).1
    · by_cases hroom : n + m ≤ cap
      · left
        subst hs
        have hfit : n * i.size + news.length ≤ cur.size := by rw [hl, hcs, ← Nat.add_mul]; exact Nat.mul_le_mul_right _ hroom
        have hr2 := run_append_room (P := P) w t ty e i h.und hi' g n cap cur hgg a m c news hl hnews h1 hroom hfit
        rw [hr] at hr2
        simp only [Result.ok.injEq] at hr2
        obtain ⟨rfl, rfl⟩ := hr2
        exact hk
      · right
        obtain ⟨v'', w'', hr2, ho2, _⟩ := run_append_arg_grows (P := P) w t ty e i z s b h.und hi' hz hs hby h.zsize h.pos ⟨g, 0, none⟩ n cap xs H.owns.1 (fun j u hj => H.owns.cells (g := g) rfl j u hj) a m c news hl hnews (by omega) hm hb
        rw [hr] at hr2
        simp only [Result.ok.injEq] at hr2
        obtain ⟨rfl, rfl⟩ := hr2
        exact (ho2.lt k hk).1
/-- 'append' onto a slice of its own that is kept: in its own spare room, or the slice stays and a new one comes. -/
theorem run_append_keep {t e s b ty : Nat} {z : Value} [h : TSlice P t e s b z] {v : Value} {n : Nat} {xs : List Value} (H : St W w (Sl e s v n xs :: L)) {a : Addr} {m c : Nat} {news : List Value} (hl : news.length = m * s)
    (hnews : ∀ j u, news[j]? = some u → w.cell? (a.add j) = some u) (h1 : ∀ u ∈ news, u.oneCell' = true) (hm : n + m ≤ maxLen) (hb : (n + m) * b ≤ 140737488355328) :
    ∃ v' w', (Builtin.append_ #[t, t] ty #[v, .slice (some a) m c]).run P w = .ok v' w' ∧
      ((∃ g cap, v = .slice (some ⟨g, 0, none⟩) n cap ∧ v' = .slice (some ⟨g, 0, none⟩) (n + m) cap ∧ n + m ≤ cap ∧ St W w' (Sl e s v' (n + m) (xs ++ news) :: L)) ∨ St W w' (Sl e s v' (n + m) (xs ++ news) :: Sl e s v n xs :: L)) := by
  have hinf := h.info
  cases hi' : P.info? e with
  | none => rw [hi'] at hinf; simp at hinf
  | some i =>
    rw [hi'] at hinf
    simp only [Option.map_some, Option.some.injEq, Prod.mk.injEq] at hinf
    obtain ⟨hz, hs, hby⟩ := hinf
    obtain ⟨v', w', hr, hS, hnil⟩ := run_append' (P := P) (t := t) (ty := ty) (c := c) H hl hnews h1 hm hb
    refine ⟨v', w', hr, ?_⟩
    rcases H.owns.2 with ⟨rfl, rfl⟩ | ⟨g, cap, cur, rfl, hbg, hgg, hnc, hcm, hcs, htake⟩
    · right
      obtain ⟨v'', w'', hr2, ho2, hg2, _⟩ := run_append_own (P := P) w w.heap.size t ty e i z s b h.und hi' hz hs hby h.zsize h.pos (.slice none 0 0) 0 xs ⟨H.owns.1, .inl ⟨rfl, rfl⟩⟩ a m c news hl hnews h1 hm hb (Nat.le_refl _)
      rw [hr] at hr2
      simp only [Result.ok.injEq] at hr2
      obtain ⟨rfl, rfl⟩ := hr2
      exact H.sl_fresh ho2 hg2
    · by_cases hroom : n + m ≤ cap
      · left
        have hs' := hs
        subst hs'
        have hfit : n * i.size + news.length ≤ cur.size := by rw [hl, hcs, ← Nat.add_mul]; exact Nat.mul_le_mul_right _ hroom
        have hr2 := run_append_room (P := P) w t ty e i h.und hi' g n cap cur hgg a m c news hl hnews h1 hroom hfit
        rw [hr] at hr2
        simp only [Result.ok.injEq] at hr2
        exact ⟨g, cap, rfl, hr2.1, hroom, hS⟩
      · right
        obtain ⟨v'', w'', hr2, ho2, hg2⟩ := run_append_arg_grows (P := P) w t ty e i z s b h.und hi' hz hs hby h.zsize h.pos ⟨g, 0, none⟩ n cap xs H.owns.1 (fun j u hj => H.owns.cells (g := g) rfl j u hj) a m c news hl hnews (by omega) hm hb
        rw [hr] at hr2
        simp only [Result.ok.injEq] at hr2
        obtain ⟨rfl, rfl⟩ := hr2
        exact H.sl_fresh ho2 hg2
theorem rv_append {t e s b ty : Nat} {z : Value} [TSlice P t e s b z] {v : Value} {n : Nat} {xs : List Value} (H : St W w (Sl e s v n xs :: L)) {a : Addr} {m c : Nat} (news : List Value) (hl : news.length = m * s)
    (hnews : ∀ j u, news[j]? = some u → w.cell? (a.add j) = some u) (h1 : ∀ u ∈ news, u.oneCell' = true) (hm : n + m ≤ maxLen) (hb : (n + m) * b ≤ 140737488355328)
    (k : ∀ v' w', St W w' (Sl e s v' (n + m) (xs ++ news) :: L) → (v' = .slice none 0 0 ↔ v = .slice none 0 0 ∧ m = 0) → K v' w') : RunV P (Builtin.append_ #[t, t] ty #[v, .slice (some a) m c]) w K X := by
  obtain ⟨v', w', hr, hS, hnil⟩ := run_append' (P := P) (t := t) (ty := ty) (c := c) H hl hnews h1 hm hb
  exact rv hr (k v' w' hS hnil)
/-- The source is a row at the state's head. It goes. -/
theorem rv_append_cells {t e s b ty : Nat} {z : Value} [TSlice P t e s b z] {v : Value} {n g m c : Nat} {xs news : List Value} (H : St W w (cells g e news :: Sl e s v n xs :: L)) (hl : news.length = m * s)
    (h1 : ∀ u ∈ news, u.oneCell' = true) (hm : n + m ≤ maxLen) (hb : (n + m) * b ≤ 140737488355328)
    (k : ∀ v' w', St W w' (Sl e s v' (n + m) (xs ++ news) :: L) → (v' = .slice none 0 0 ↔ v = .slice none 0 0 ∧ m = 0) → K v' w') : RunV P (Builtin.append_ #[t, t] ty #[v, .slice (some ⟨g, 0, none⟩) m c]) w K X := by
  obtain ⟨v', w', hr, hS, hnil⟩ := run_append' (P := P) (t := t) (ty := ty) (c := c) (a := ⟨g, 0, none⟩) H.up1 hl (fun j u hj => by rw [add_plain]; exact H.load hj) h1 hm hb
  exact rv hr (k v' w' hS.up1.drop hnil)
theorem rv_append_none {t e s b ty : Nat} {z : Value} [h : TSlice P t e s b z] {v : Value} {n : Nat} {xs : List Value} (H : St W w (Sl e s v n xs :: L)) (k : K v w) : RunV P (Builtin.append_ #[t, t] ty #[v, .slice none 0 0]) w K X := by
  have hinf := h.info
  cases hi' : P.info? e with
  | none => rw [hi'] at hinf; simp at hinf
  | some i =>
    rw [hi'] at hinf
    simp only [Option.map_some, Option.some.injEq, Prod.mk.injEq] at hinf
    exact rv (run_append_owned_none (P := P) w W.heap.size t ty e i s h.und hi' v n xs H.owns) k
theorem rv_append_rd {t e s b ty : Nat} {z : Value} [TSlice P t e s b z] {v x : Value} {n m : Nat} {xs news : List Value} (H : St W w (Sl e s v n xs :: L)) (R : Rd w x m news) (hl : news.length = m * s)
    (h1 : ∀ u ∈ news, u.oneCell' = true) (hm : n + m ≤ maxLen) (hb : (n + m) * b ≤ 140737488355328)
    (k : ∀ v' w', St W w' (Sl e s v' (n + m) (xs ++ news) :: L) → (v' = .slice none 0 0 ↔ v = .slice none 0 0 ∧ m = 0) → K v' w') : RunV P (Builtin.append_ #[t, t] ty #[v, x]) w K X := by
  rcases R with ⟨rfl, rfl, rfl⟩ | ⟨g, off, cap, rfl, hn, hc⟩
  · refine rv_append_none H (k v w ?_ ?_)
    · simpa using H
    · simp
  · exact rv_append H news hl (fun j u hj => by rw [add_plain']; exact hc j u hj) h1 hm hb k
theorem rv_len_rd {t e s b ty : Nat} {z : Value} [TSlice P t e s b z] {x : Value} {m : Nat} {news : List Value} (R : Rd w x m news) (k : K (.int .i64 m) w) : RunV P (Builtin.len_ #[t] ty #[x]) w K X := by
  rcases R with ⟨rfl, rfl, rfl⟩ | ⟨g, off, cap, rfl, hn, hc⟩ <;> exact rv run_len k
theorem tp_len_rd {t e s b ty : Nat} {z : Value} [TSlice P t e s b z] {x : Value} {m : Nat} {news : List Value} (R : Rd w x m news) {KT : Value → Prop} (k : KT (.int .i64 m)) : TakeP P (Builtin.len_ #[t] ty #[x]) KT := by
  rcases R with ⟨rfl, rfl, rfl⟩ | ⟨g, off, cap, rfl, hn, hc⟩ <;> exact tp (fun _ => run_len) k
theorem call_mono {f : FuncId} {args : Array Value} {K K' : Value → World → Prop} {X X' : XPost} (h : FCall P f args w K X) (hK : ∀ v w, K v w → K' v w) (hX : ∀ c w, X c w → X' c w) : FCall P f args w K' X' := h.mono hK hX

/-- Bytes, as text. -/
theorem run_bytes_str {src dst e s b : Nat} {z : Value} [h : TSlice P src e s b z] (he : P.underlying e = some (.int .u8)) [hd : TStr P dst] {g off n c : Nat} {xs : List Int} (hl : xs.length = n)
    (hc : ∀ j, j < n → w.cell? ⟨g, off + j, none⟩ = some (.int .u8 (xs.getD j 0))) : (convert src dst (.slice (some ⟨g, off, none⟩) n c)).run P w = .ok (.string (strOfNums xs)) w :=
  run_convert_bytes_arg w src e h.und he g off n c xs hl hc dst hd.und
theorem run_bytes_str_nil {src dst e s b : Nat} {z : Value} [h : TSlice P src e s b z] (he : P.underlying e = some (.int .u8)) [hd : TStr P dst] {l c : Nat} : (convert src dst (.slice none l c)).run P w = .ok (.string ByteArray.empty) w :=
  run_convert_bytes_nil w src e h.und he l c dst hd.und
/-! ### The same, as steps -/
theorem rv_eql {t : Nat} {cx cy : Bool} {k : IntKind} {a b : Int}  (hk : K ((.bool (a == b))) w) : RunV P (bin .eql t cx cy (.int k a) (.int k b)) w K X := rv (run_eql ) hk
theorem tp_eql {t : Nat} {cx cy : Bool} {k : IntKind} {a b : Int}  {KT : Value → Prop} (hk : KT ((.bool (a == b)))) : TakeP P (bin .eql t cx cy (.int k a) (.int k b)) KT := tp (fun _ => run_eql ) hk
theorem rv_neq {t : Nat} {cx cy : Bool} {k : IntKind} {a b : Int}  (hk : K ((.bool (a != b))) w) : RunV P (bin .neq t cx cy (.int k a) (.int k b)) w K X := rv (run_neq ) hk
theorem tp_neq {t : Nat} {cx cy : Bool} {k : IntKind} {a b : Int}  {KT : Value → Prop} (hk : KT ((.bool (a != b)))) : TakeP P (bin .neq t cx cy (.int k a) (.int k b)) KT := tp (fun _ => run_neq ) hk
theorem rv_lss {t : Nat} {cx cy : Bool} {k : IntKind} {a b : Int}  (hk : K ((.bool (decide (a < b)))) w) : RunV P (bin .lss t cx cy (.int k a) (.int k b)) w K X := rv (run_lss ) hk
theorem tp_lss {t : Nat} {cx cy : Bool} {k : IntKind} {a b : Int}  {KT : Value → Prop} (hk : KT ((.bool (decide (a < b))))) : TakeP P (bin .lss t cx cy (.int k a) (.int k b)) KT := tp (fun _ => run_lss ) hk
theorem rv_leq {t : Nat} {cx cy : Bool} {k : IntKind} {a b : Int}  (hk : K ((.bool (decide (a ≤ b)))) w) : RunV P (bin .leq t cx cy (.int k a) (.int k b)) w K X := rv (run_leq ) hk
theorem tp_leq {t : Nat} {cx cy : Bool} {k : IntKind} {a b : Int}  {KT : Value → Prop} (hk : KT ((.bool (decide (a ≤ b))))) : TakeP P (bin .leq t cx cy (.int k a) (.int k b)) KT := tp (fun _ => run_leq ) hk
theorem rv_gtr {t : Nat} {cx cy : Bool} {k : IntKind} {a b : Int}  (hk : K ((.bool (decide (b < a)))) w) : RunV P (bin .gtr t cx cy (.int k a) (.int k b)) w K X := rv (run_gtr ) hk
theorem tp_gtr {t : Nat} {cx cy : Bool} {k : IntKind} {a b : Int}  {KT : Value → Prop} (hk : KT ((.bool (decide (b < a))))) : TakeP P (bin .gtr t cx cy (.int k a) (.int k b)) KT := tp (fun _ => run_gtr ) hk
theorem rv_geq {t : Nat} {cx cy : Bool} {k : IntKind} {a b : Int}  (hk : K ((.bool (decide (b ≤ a)))) w) : RunV P (bin .geq t cx cy (.int k a) (.int k b)) w K X := rv (run_geq ) hk
theorem tp_geq {t : Nat} {cx cy : Bool} {k : IntKind} {a b : Int}  {KT : Value → Prop} (hk : KT ((.bool (decide (b ≤ a))))) : TakeP P (bin .geq t cx cy (.int k a) (.int k b)) KT := tp (fun _ => run_geq ) hk
theorem rv_add {t : Nat} {cx cy : Bool} {k : IntKind} {a b : Int}  (hk : K ((.int k (k.wrap (a + b)))) w) : RunV P (bin .add t cx cy (.int k a) (.int k b)) w K X := rv (run_add ) hk
theorem tp_add {t : Nat} {cx cy : Bool} {k : IntKind} {a b : Int}  {KT : Value → Prop} (hk : KT ((.int k (k.wrap (a + b))))) : TakeP P (bin .add t cx cy (.int k a) (.int k b)) KT := tp (fun _ => run_add ) hk
theorem rv_sub {t : Nat} {cx cy : Bool} {k : IntKind} {a b : Int}  (hk : K ((.int k (k.wrap (a - b)))) w) : RunV P (bin .sub t cx cy (.int k a) (.int k b)) w K X := rv (run_sub ) hk
theorem tp_sub {t : Nat} {cx cy : Bool} {k : IntKind} {a b : Int}  {KT : Value → Prop} (hk : KT ((.int k (k.wrap (a - b))))) : TakeP P (bin .sub t cx cy (.int k a) (.int k b)) KT := tp (fun _ => run_sub ) hk
theorem rv_mul {t : Nat} {cx cy : Bool} {k : IntKind} {a b : Int}  (hk : K ((.int k (k.wrap (a * b)))) w) : RunV P (bin .mul t cx cy (.int k a) (.int k b)) w K X := rv (run_mul ) hk
theorem tp_mul {t : Nat} {cx cy : Bool} {k : IntKind} {a b : Int}  {KT : Value → Prop} (hk : KT ((.int k (k.wrap (a * b))))) : TakeP P (bin .mul t cx cy (.int k a) (.int k b)) KT := tp (fun _ => run_mul ) hk
theorem rv_and {t : Nat} {cx cy : Bool} {k : IntKind} {a b : Int}  (hk : K ((.int k (bitsOf .and k a b))) w) : RunV P (bin .and t cx cy (.int k a) (.int k b)) w K X := rv (run_and ) hk
theorem tp_and {t : Nat} {cx cy : Bool} {k : IntKind} {a b : Int}  {KT : Value → Prop} (hk : KT ((.int k (bitsOf .and k a b)))) : TakeP P (bin .and t cx cy (.int k a) (.int k b)) KT := tp (fun _ => run_and ) hk
theorem rv_or {t : Nat} {cx cy : Bool} {k : IntKind} {a b : Int}  (hk : K ((.int k (bitsOf .or k a b))) w) : RunV P (bin .or t cx cy (.int k a) (.int k b)) w K X := rv (run_or ) hk
theorem tp_or {t : Nat} {cx cy : Bool} {k : IntKind} {a b : Int}  {KT : Value → Prop} (hk : KT ((.int k (bitsOf .or k a b)))) : TakeP P (bin .or t cx cy (.int k a) (.int k b)) KT := tp (fun _ => run_or ) hk
theorem rv_xor {t : Nat} {cx cy : Bool} {k : IntKind} {a b : Int}  (hk : K ((.int k (bitsOf .xor k a b))) w) : RunV P (bin .xor t cx cy (.int k a) (.int k b)) w K X := rv (run_xor ) hk
theorem tp_xor {t : Nat} {cx cy : Bool} {k : IntKind} {a b : Int}  {KT : Value → Prop} (hk : KT ((.int k (bitsOf .xor k a b)))) : TakeP P (bin .xor t cx cy (.int k a) (.int k b)) KT := tp (fun _ => run_xor ) hk
theorem rv_shl {t : Nat} {cx cy : Bool} {k j : IntKind} {a b : Int}  (h : 0 ≤ b) (hk : K ((.int k (k.wrap (a * 2 ^ min b.toNat k.bits)))) w) : RunV P (bin .shl t cx cy (.int k a) (.int j b)) w K X := rv (run_shl (h := h)) hk
theorem tp_shl {t : Nat} {cx cy : Bool} {k j : IntKind} {a b : Int}  (h : 0 ≤ b) {KT : Value → Prop} (hk : KT ((.int k (k.wrap (a * 2 ^ min b.toNat k.bits))))) : TakeP P (bin .shl t cx cy (.int k a) (.int j b)) KT := tp (fun _ => run_shl (h := h)) hk
theorem rv_shr {t : Nat} {cx cy : Bool} {k j : IntKind} {a b : Int}  (h : 0 ≤ b) (hk : K ((.int k (a.fdiv (2 ^ min b.toNat k.bits)))) w) : RunV P (bin .shr t cx cy (.int k a) (.int j b)) w K X := rv (run_shr (h := h)) hk
theorem tp_shr {t : Nat} {cx cy : Bool} {k j : IntKind} {a b : Int}  (h : 0 ≤ b) {KT : Value → Prop} (hk : KT ((.int k (a.fdiv (2 ^ min b.toNat k.bits))))) : TakeP P (bin .shr t cx cy (.int k a) (.int j b)) KT := tp (fun _ => run_shr (h := h)) hk
theorem rv_rem {t : Nat} {cx cy : Bool} {a b : Int}  (h : b ≠ 0) (hk : K ((.int .u64 (a.tmod b))) w) : RunV P (bin .rem t cx cy (.int .u64 a) (.int .u64 b)) w K X := rv (run_rem (h := h)) hk
theorem tp_rem {t : Nat} {cx cy : Bool} {a b : Int}  (h : b ≠ 0) {KT : Value → Prop} (hk : KT ((.int .u64 (a.tmod b)))) : TakeP P (bin .rem t cx cy (.int .u64 a) (.int .u64 b)) KT := tp (fun _ => run_rem (h := h)) hk
theorem rv_quo {t : Nat} {cx cy : Bool} {a b : Int}  (h : b ≠ 0) (hk : K ((.int .u64 (IntKind.u64.wrap (a.tdiv b)))) w) : RunV P (bin .quo t cx cy (.int .u64 a) (.int .u64 b)) w K X := rv (run_quo (h := h)) hk
theorem tp_quo {t : Nat} {cx cy : Bool} {a b : Int}  (h : b ≠ 0) {KT : Value → Prop} (hk : KT ((.int .u64 (IntKind.u64.wrap (a.tdiv b))))) : TakeP P (bin .quo t cx cy (.int .u64 a) (.int .u64 b)) KT := tp (fun _ => run_quo (h := h)) hk
theorem rv_convert_i {src dst : Nat} {j k : IntKind} {n : Int}  [hs : TInt P src j] [hd : TInt P dst k] (hk : K ((.int k (k.wrap n))) w) : RunV P (convert src dst (.int j n)) w K X := rv (run_convert_i ) hk
theorem tp_convert_i {src dst : Nat} {j k : IntKind} {n : Int}  [hs : TInt P src j] [hd : TInt P dst k] {KT : Value → Prop} (hk : KT ((.int k (k.wrap n)))) : TakeP P (convert src dst (.int j n)) KT := tp (fun _ => run_convert_i ) hk
theorem rv_eql_b {t : Nat} [h : TBool P t] {cx cy : Bool} {a b : Bool}  (hk : K ((.bool (a == b))) w) : RunV P (bin .eql t cx cy (.bool a) (.bool b)) w K X := rv (run_eql_b ) hk
theorem tp_eql_b {t : Nat} [h : TBool P t] {cx cy : Bool} {a b : Bool}  {KT : Value → Prop} (hk : KT ((.bool (a == b)))) : TakeP P (bin .eql t cx cy (.bool a) (.bool b)) KT := tp (fun _ => run_eql_b ) hk
theorem rv_neq_b {t : Nat} [h : TBool P t] {cx cy : Bool} {a b : Bool}  (hk : K ((.bool (!(a == b)))) w) : RunV P (bin .neq t cx cy (.bool a) (.bool b)) w K X := rv (run_neq_b ) hk
theorem tp_neq_b {t : Nat} [h : TBool P t] {cx cy : Bool} {a b : Bool}  {KT : Value → Prop} (hk : KT ((.bool (!(a == b))))) : TakeP P (bin .neq t cx cy (.bool a) (.bool b)) KT := tp (fun _ => run_neq_b ) hk
theorem rv_eql_s {t : Nat} {cx cy : Bool} {a b : ByteArray}  (hk : K ((.bool (a.toList == b.toList))) w) : RunV P (bin .eql t cx cy (.string a) (.string b)) w K X := rv (run_eql_s ) hk
theorem tp_eql_s {t : Nat} {cx cy : Bool} {a b : ByteArray}  {KT : Value → Prop} (hk : KT ((.bool (a.toList == b.toList)))) : TakeP P (bin .eql t cx cy (.string a) (.string b)) KT := tp (fun _ => run_eql_s ) hk
theorem rv_neq_s {t : Nat} {cx cy : Bool} {a b : ByteArray}  (hk : K ((.bool (!(a.toList == b.toList)))) w) : RunV P (bin .neq t cx cy (.string a) (.string b)) w K X := rv (run_neq_s ) hk
theorem tp_neq_s {t : Nat} {cx cy : Bool} {a b : ByteArray}  {KT : Value → Prop} (hk : KT ((.bool (!(a.toList == b.toList))))) : TakeP P (bin .neq t cx cy (.string a) (.string b)) KT := tp (fun _ => run_neq_s ) hk
theorem rv_eql_pn {t e : Nat} [h : TPtr P t e] {cx cy : Bool} {p : Option Addr}  (hk : K ((.bool p.isNone)) w) : RunV P (bin .eql t cx cy (.pointer p) (.pointer none)) w K X := rv (run_eql_pn ) hk
theorem tp_eql_pn {t e : Nat} [h : TPtr P t e] {cx cy : Bool} {p : Option Addr}  {KT : Value → Prop} (hk : KT ((.bool p.isNone))) : TakeP P (bin .eql t cx cy (.pointer p) (.pointer none)) KT := tp (fun _ => run_eql_pn ) hk
theorem rv_neq_pn {t e : Nat} [h : TPtr P t e] {cx cy : Bool} {p : Option Addr}  (hk : K ((.bool (!p.isNone))) w) : RunV P (bin .neq t cx cy (.pointer p) (.pointer none)) w K X := rv (run_neq_pn ) hk
theorem tp_neq_pn {t e : Nat} [h : TPtr P t e] {cx cy : Bool} {p : Option Addr}  {KT : Value → Prop} (hk : KT ((.bool (!p.isNone)))) : TakeP P (bin .neq t cx cy (.pointer p) (.pointer none)) KT := tp (fun _ => run_neq_pn ) hk
theorem rv_eql_sn {t e s b : Nat} {z : Value} [h : TSlice P t e s b z] {cx cy : Bool} {p : Option Addr} {l c : Nat}  (hk : K ((.bool p.isNone)) w) : RunV P (bin .eql t cx cy (.slice p l c) (.slice none 0 0)) w K X := rv (run_eql_sn ) hk
theorem tp_eql_sn {t e s b : Nat} {z : Value} [h : TSlice P t e s b z] {cx cy : Bool} {p : Option Addr} {l c : Nat}  {KT : Value → Prop} (hk : KT ((.bool p.isNone))) : TakeP P (bin .eql t cx cy (.slice p l c) (.slice none 0 0)) KT := tp (fun _ => run_eql_sn ) hk
theorem rv_not {b : Bool}  (hk : K ((.bool !b)) w) : RunV P (Op.unary .not (.bool b)) w K X := rv (run_not ) hk
theorem tp_not {b : Bool}  {KT : Value → Prop} (hk : KT ((.bool !b))) : TakeP P (Op.unary .not (.bool b)) KT := tp (fun _ => run_not ) hk
theorem rv_neg {k : IntKind} {a : Int}  (hk : K ((.int k (k.wrap (0 - a)))) w) : RunV P (Op.unary .neg (.int k a)) w K X := rv (run_neg ) hk
theorem tp_neg {k : IntKind} {a : Int}  {KT : Value → Prop} (hk : KT ((.int k (k.wrap (0 - a))))) : TakeP P (Op.unary .neg (.int k a)) KT := tp (fun _ => run_neg ) hk
theorem rv_min {t1 t2 ty : Nat} {k : IntKind} {a b : Int}  (hk : K ((.int k (if b < a then b else a))) w) : RunV P (Builtin.min_ #[t1, t2] ty #[.int k a, .int k b]) w K X := rv (run_min ) hk
theorem tp_min {t1 t2 ty : Nat} {k : IntKind} {a b : Int}  {KT : Value → Prop} (hk : KT ((.int k (if b < a then b else a)))) : TakeP P (Builtin.min_ #[t1, t2] ty #[.int k a, .int k b]) KT := tp (fun _ => run_min ) hk
theorem rv_max {t1 t2 ty : Nat} {k : IntKind} {a b : Int}  (hk : K ((.int k (if a < b then b else a))) w) : RunV P (Builtin.max_ #[t1, t2] ty #[.int k a, .int k b]) w K X := rv (run_max ) hk
theorem tp_max {t1 t2 ty : Nat} {k : IntKind} {a b : Int}  {KT : Value → Prop} (hk : KT ((.int k (if a < b then b else a)))) : TakeP P (Builtin.max_ #[t1, t2] ty #[.int k a, .int k b]) KT := tp (fun _ => run_max ) hk
theorem rv_extract {vs : Array Value} {i : Nat} {v : Value} (h : vs[i]? = some v)  (hk : K (v) w) : RunV P (Instr.extract (.tuple vs) i) w K X := rv (run_extract (h := h)) hk
theorem tp_extract {vs : Array Value} {i : Nat} {v : Value} (h : vs[i]? = some v)  {KT : Value → Prop} (hk : KT (v)) : TakeP P (Instr.extract (.tuple vs) i) KT := tp (fun _ => run_extract (h := h)) hk
theorem rv_ext2_0 {a0 a1 : Value} (hk : K a0 w) : RunV P (Instr.extract (.tuple #[a0, a1]) 0) w K X := rv_extract rfl hk
theorem tp_ext2_0 {a0 a1 : Value} {KT : Value → Prop} (hk : KT a0) : TakeP P (Instr.extract (.tuple #[a0, a1]) 0) KT := tp_extract rfl hk
theorem rv_ext2_1 {a0 a1 : Value} (hk : K a1 w) : RunV P (Instr.extract (.tuple #[a0, a1]) 1) w K X := rv_extract rfl hk
theorem tp_ext2_1 {a0 a1 : Value} {KT : Value → Prop} (hk : KT a1) : TakeP P (Instr.extract (.tuple #[a0, a1]) 1) KT := tp_extract rfl hk
theorem rv_ext3_0 {a0 a1 a2 : Value} (hk : K a0 w) : RunV P (Instr.extract (.tuple #[a0, a1, a2]) 0) w K X := rv_extract rfl hk
theorem tp_ext3_0 {a0 a1 a2 : Value} {KT : Value → Prop} (hk : KT a0) : TakeP P (Instr.extract (.tuple #[a0, a1, a2]) 0) KT := tp_extract rfl hk
theorem rv_ext3_1 {a0 a1 a2 : Value} (hk : K a1 w) : RunV P (Instr.extract (.tuple #[a0, a1, a2]) 1) w K X := rv_extract rfl hk
theorem tp_ext3_1 {a0 a1 a2 : Value} {KT : Value → Prop} (hk : KT a1) : TakeP P (Instr.extract (.tuple #[a0, a1, a2]) 1) KT := tp_extract rfl hk
theorem rv_ext3_2 {a0 a1 a2 : Value} (hk : K a2 w) : RunV P (Instr.extract (.tuple #[a0, a1, a2]) 2) w K X := rv_extract rfl hk
theorem tp_ext3_2 {a0 a1 a2 : Value} {KT : Value → Prop} (hk : KT a2) : TakeP P (Instr.extract (.tuple #[a0, a1, a2]) 2) KT := tp_extract rfl hk
theorem rv_ext4_0 {a0 a1 a2 a3 : Value} (hk : K a0 w) : RunV P (Instr.extract (.tuple #[a0, a1, a2, a3]) 0) w K X := rv_extract rfl hk
theorem tp_ext4_0 {a0 a1 a2 a3 : Value} {KT : Value → Prop} (hk : KT a0) : TakeP P (Instr.extract (.tuple #[a0, a1, a2, a3]) 0) KT := tp_extract rfl hk
theorem rv_ext4_1 {a0 a1 a2 a3 : Value} (hk : K a1 w) : RunV P (Instr.extract (.tuple #[a0, a1, a2, a3]) 1) w K X := rv_extract rfl hk
theorem tp_ext4_1 {a0 a1 a2 a3 : Value} {KT : Value → Prop} (hk : KT a1) : TakeP P (Instr.extract (.tuple #[a0, a1, a2, a3]) 1) KT := tp_extract rfl hk
theorem rv_ext4_2 {a0 a1 a2 a3 : Value} (hk : K a2 w) : RunV P (Instr.extract (.tuple #[a0, a1, a2, a3]) 2) w K X := rv_extract rfl hk
theorem tp_ext4_2 {a0 a1 a2 a3 : Value} {KT : Value → Prop} (hk : KT a2) : TakeP P (Instr.extract (.tuple #[a0, a1, a2, a3]) 2) KT := tp_extract rfl hk
theorem rv_ext4_3 {a0 a1 a2 a3 : Value} (hk : K a3 w) : RunV P (Instr.extract (.tuple #[a0, a1, a2, a3]) 3) w K X := rv_extract rfl hk
theorem tp_ext4_3 {a0 a1 a2 a3 : Value} {KT : Value → Prop} (hk : KT a3) : TakeP P (Instr.extract (.tuple #[a0, a1, a2, a3]) 3) KT := tp_extract rfl hk
theorem rv_nilc {a : Addr}  (hk : K ((.pointer (some a))) w) : RunV P (nilc (.pointer (some a))) w K X := rv (run_nilc ) hk
theorem tp_nilc {a : Addr}  {KT : Value → Prop} (hk : KT ((.pointer (some a)))) : TakeP P (nilc (.pointer (some a))) KT := tp (fun _ => run_nilc ) hk
theorem rv_field {s f off : Nat} [h : TField P s f off] {a : Addr}  (hk : K ((.pointer (some (a.add off)))) w) : RunV P (Instr.fieldAt s (.pointer (some a)) f) w K X := rv (run_field ) hk
theorem tp_field {s f off : Nat} [h : TField P s f off] {a : Addr}  {KT : Value → Prop} (hk : KT ((.pointer (some (a.add off))))) : TakeP P (Instr.fieldAt s (.pointer (some a)) f) KT := tp (fun _ => run_field ) hk
theorem rv_field0 {s f off : Nat} [h : TField P s f off] {b : Nat}  (hk : K ((.pointer (some ⟨b, off, none⟩))) w) : RunV P (Instr.fieldAt s (.pointer (some ⟨b, 0, none⟩)) f) w K X := rv (run_field0 ) hk
theorem tp_field0 {s f off : Nat} [h : TField P s f off] {b : Nat}  {KT : Value → Prop} (hk : KT ((.pointer (some ⟨b, off, none⟩)))) : TakeP P (Instr.fieldAt s (.pointer (some ⟨b, 0, none⟩)) f) KT := tp (fun _ => run_field0 ) hk
theorem rv_field' {s f off : Nat} [h : TField P s f off] {b i : Nat}  (hk : K ((.pointer (some ⟨b, i + off, none⟩))) w) : RunV P (Instr.fieldAt s (.pointer (some ⟨b, i, none⟩)) f) w K X := rv (run_field' ) hk
theorem tp_field' {s f off : Nat} [h : TField P s f off] {b i : Nat}  {KT : Value → Prop} (hk : KT ((.pointer (some ⟨b, i + off, none⟩)))) : TakeP P (Instr.fieldAt s (.pointer (some ⟨b, i, none⟩)) f) KT := tp (fun _ => run_field' ) hk
theorem rv_len {t e s b ty : Nat} {z : Value} [h : TSlice P t e s b z] {p : Option Addr} {n c : Nat}  (hk : K ((.int .i64 n)) w) : RunV P (Builtin.len_ #[t] ty #[.slice p n c]) w K X := rv (run_len ) hk
theorem tp_len {t e s b ty : Nat} {z : Value} [h : TSlice P t e s b z] {p : Option Addr} {n c : Nat}  {KT : Value → Prop} (hk : KT ((.int .i64 n))) : TakeP P (Builtin.len_ #[t] ty #[.slice p n c]) KT := tp (fun _ => run_len ) hk
theorem rv_len_s {t ty : Nat} [h : TStr P t] {s : ByteArray}  (hk : K ((.int .i64 s.size)) w) : RunV P (Builtin.len_ #[t] ty #[.string s]) w K X := rv (run_len_s ) hk
theorem tp_len_s {t ty : Nat} [h : TStr P t] {s : ByteArray}  {KT : Value → Prop} (hk : KT ((.int .i64 s.size))) : TakeP P (Builtin.len_ #[t] ty #[.string s]) KT := tp (fun _ => run_len_s ) hk
theorem rv_index {t e s b : Nat} {z : Value} [h : TSlice P t e s b z] {g off n c : Nat} {k : IntKind} {i : Int}  (h0 : 0 ≤ i) (h1 : i < n) (hk : K ((.pointer (some ⟨g, off + i.toNat * s, none⟩))) w) : RunV P (Instr.indexAt t (.slice (some ⟨g, off, none⟩) n c) (.int k i)) w K X := rv (run_index (h0 := h0) (h1 := h1)) hk
theorem tp_index {t e s b : Nat} {z : Value} [h : TSlice P t e s b z] {g off n c : Nat} {k : IntKind} {i : Int}  (h0 : 0 ≤ i) (h1 : i < n) {KT : Value → Prop} (hk : KT ((.pointer (some ⟨g, off + i.toNat * s, none⟩)))) : TakeP P (Instr.indexAt t (.slice (some ⟨g, off, none⟩) n c) (.int k i)) KT := tp (fun _ => run_index (h0 := h0) (h1 := h1)) hk
theorem rv_slice_h' {t e s b : Nat} {z : Value} [h : TSlice P t e s b z] {g off n c : Nat} {k : IntKind} {i : Int}  (h0 : 0 ≤ i) (h1 : i ≤ c) (hk : K ((.slice (some ⟨g, off, none⟩) i.toNat c)) w) : RunV P (Instr.sliceAt t (.slice (some ⟨g, off, none⟩) n c) none (some (.int k i)) none) w K X := rv (run_slice_h' (h0 := h0) (h1 := h1)) hk
theorem tp_slice_h' {t e s b : Nat} {z : Value} [h : TSlice P t e s b z] {g off n c : Nat} {k : IntKind} {i : Int}  (h0 : 0 ≤ i) (h1 : i ≤ c) {KT : Value → Prop} (hk : KT ((.slice (some ⟨g, off, none⟩) i.toNat c))) : TakeP P (Instr.sliceAt t (.slice (some ⟨g, off, none⟩) n c) none (some (.int k i)) none) KT := tp (fun _ => run_slice_h' (h0 := h0) (h1 := h1)) hk
theorem rv_slice_h_nil {t e s b : Nat} {z : Value} [h : TSlice P t e s b z] {k : IntKind}  (hk : K ((.slice none 0 0)) w) : RunV P (Instr.sliceAt t (.slice none 0 0) none (some (.int k 0)) none) w K X := rv (run_slice_h_nil ) hk
theorem tp_slice_h_nil {t e s b : Nat} {z : Value} [h : TSlice P t e s b z] {k : IntKind}  {KT : Value → Prop} (hk : KT ((.slice none 0 0))) : TakeP P (Instr.sliceAt t (.slice none 0 0) none (some (.int k 0)) none) KT := tp (fun _ => run_slice_h_nil ) hk
theorem rv_slice_l' {t e s b : Nat} {z : Value} [h : TSlice P t e s b z] {g off n c : Nat} {k : IntKind} {i : Int}  (h0 : 0 ≤ i) (h1 : i ≤ n) (hk : K ((.slice (some ⟨g, if c = i.toNat then off else off + i.toNat * s, none⟩) (n - i.toNat) (c - i.toNat))) w) : RunV P (Instr.sliceAt t (.slice (some ⟨g, off, none⟩) n c) (some (.int k i)) none none) w K X := rv (run_slice_l' (h0 := h0) (h1 := h1)) hk
theorem tp_slice_l' {t e s b : Nat} {z : Value} [h : TSlice P t e s b z] {g off n c : Nat} {k : IntKind} {i : Int}  (h0 : 0 ≤ i) (h1 : i ≤ n) {KT : Value → Prop} (hk : KT ((.slice (some ⟨g, if c = i.toNat then off else off + i.toNat * s, none⟩) (n - i.toNat) (c - i.toNat)))) : TakeP P (Instr.sliceAt t (.slice (some ⟨g, off, none⟩) n c) (some (.int k i)) none none) KT := tp (fun _ => run_slice_l' (h0 := h0) (h1 := h1)) hk
theorem rv_slice_l_nil {t e s b : Nat} {z : Value} [h : TSlice P t e s b z] {k : IntKind}  (hk : K ((.slice none 0 0)) w) : RunV P (Instr.sliceAt t (.slice none 0 0) (some (.int k 0)) none none) w K X := rv (run_slice_l_nil ) hk
theorem tp_slice_l_nil {t e s b : Nat} {z : Value} [h : TSlice P t e s b z] {k : IntKind}  {KT : Value → Prop} (hk : KT ((.slice none 0 0))) : TakeP P (Instr.sliceAt t (.slice none 0 0) (some (.int k 0)) none none) KT := tp (fun _ => run_slice_l_nil ) hk
theorem rv_slice_lh' {t e s b : Nat} {z : Value} [h : TSlice P t e s b z] {g off n c : Nat} {k k' : IntKind} {i j : Int}  (h0 : 0 ≤ i) (h1 : i ≤ j) (h2 : j ≤ c) (hk : K ((.slice (some ⟨g, if c = i.toNat then off else off + i.toNat * s, none⟩) (j.toNat - i.toNat) (c - i.toNat))) w) : RunV P (Instr.sliceAt t (.slice (some ⟨g, off, none⟩) n c) (some (.int k i)) (some (.int k' j)) none) w K X := rv (run_slice_lh' (h0 := h0) (h1 := h1) (h2 := h2)) hk
theorem tp_slice_lh' {t e s b : Nat} {z : Value} [h : TSlice P t e s b z] {g off n c : Nat} {k k' : IntKind} {i j : Int}  (h0 : 0 ≤ i) (h1 : i ≤ j) (h2 : j ≤ c) {KT : Value → Prop} (hk : KT ((.slice (some ⟨g, if c = i.toNat then off else off + i.toNat * s, none⟩) (j.toNat - i.toNat) (c - i.toNat)))) : TakeP P (Instr.sliceAt t (.slice (some ⟨g, off, none⟩) n c) (some (.int k i)) (some (.int k' j)) none) KT := tp (fun _ => run_slice_lh' (h0 := h0) (h1 := h1) (h2 := h2)) hk
theorem rv_slice_lh_nil {t e s b : Nat} {z : Value} [h : TSlice P t e s b z] {k k' : IntKind}  (hk : K ((.slice none 0 0)) w) : RunV P (Instr.sliceAt t (.slice none 0 0) (some (.int k 0)) (some (.int k' 0)) none) w K X := rv (run_slice_lh_nil ) hk
theorem tp_slice_lh_nil {t e s b : Nat} {z : Value} [h : TSlice P t e s b z] {k k' : IntKind}  {KT : Value → Prop} (hk : KT ((.slice none 0 0))) : TakeP P (Instr.sliceAt t (.slice none 0 0) (some (.int k 0)) (some (.int k' 0)) none) KT := tp (fun _ => run_slice_lh_nil ) hk
theorem rv_eql_p0 {t e : Nat} [TPtr P t e] {cx cy : Bool} (hk : K (.bool true) w) : RunV P (bin .eql t cx cy (.pointer none) (.pointer none)) w K X := rv_eql_pn hk
theorem rv_eql_ps {t e : Nat} [TPtr P t e] {cx cy : Bool} {a : Addr} (hk : K (.bool false) w) : RunV P (bin .eql t cx cy (.pointer (some a)) (.pointer none)) w K X := rv_eql_pn hk
theorem rv_neq_p0 {t e : Nat} [TPtr P t e] {cx cy : Bool} (hk : K (.bool false) w) : RunV P (bin .neq t cx cy (.pointer none) (.pointer none)) w K X := rv_neq_pn hk
theorem rv_neq_ps {t e : Nat} [TPtr P t e] {cx cy : Bool} {a : Addr} (hk : K (.bool true) w) : RunV P (bin .neq t cx cy (.pointer (some a)) (.pointer none)) w K X := rv_neq_pn hk
theorem tp_eql_p0 {t e : Nat} [TPtr P t e] {cx cy : Bool} {KT : Value → Prop} (hk : KT (.bool true)) : TakeP P (bin .eql t cx cy (.pointer none) (.pointer none)) KT := tp_eql_pn hk
theorem tp_eql_ps {t e : Nat} [TPtr P t e] {cx cy : Bool} {a : Addr} {KT : Value → Prop} (hk : KT (.bool false)) : TakeP P (bin .eql t cx cy (.pointer (some a)) (.pointer none)) KT := tp_eql_pn hk
theorem rv_eql_s0 {t e s b : Nat} {z : Value} [TSlice P t e s b z] {cx cy : Bool} {l c : Nat} (hk : K (.bool true) w) : RunV P (bin .eql t cx cy (.slice none l c) (.slice none 0 0)) w K X := rv_eql_sn hk
theorem rv_eql_ss {t e s b : Nat} {z : Value} [TSlice P t e s b z] {cx cy : Bool} {a : Addr} {l c : Nat} (hk : K (.bool false) w) : RunV P (bin .eql t cx cy (.slice (some a) l c) (.slice none 0 0)) w K X := rv_eql_sn hk
theorem rv_not_t (hk : K (.bool false) w) : RunV P (Op.unary .not (.bool true)) w K X := rv_not hk
theorem pick_t {x y : Value} {KT : Value → Prop} (h : KT x) : Pick (.bool true) x y KT := pick_bool h
theorem pick_f {x y : Value} {KT : Value → Prop} (h : KT y) : Pick (.bool false) x y KT := pick_bool h
theorem tk_load {t : Nat} [TCell P t] {b ty i : Nat} {c : List Value} {v : Value} {S : World → Prop} {KT : Value → Prop} (hS : ∀ w, S w → St W w (cells b ty c :: L)) (hc : c[i]? = some v) (hk : KT v) : Take P (Instr.loadAt t (.pointer (some ⟨b, i, none⟩))) S KT := tk (fun w h => Ops.run_load ((hS w h).load hc)) hk
theorem tp_not_t {KT : Value → Prop} (hk : KT (.bool false)) : TakeP P (Op.unary .not (.bool true)) KT := tp_not hk
theorem tp_not_f {KT : Value → Prop} (hk : KT (.bool true)) : TakeP P (Op.unary .not (.bool false)) KT := tp_not hk
theorem rv_not_f (hk : K (.bool true) w) : RunV P (Op.unary .not (.bool false)) w K X := rv_not hk
theorem keep_same {S : World → Prop} {body : (World → Prop) → Prop} (h : S w) (k : body S) : Keep S w body := ⟨⟨S, h, fun _ h => h, k⟩⟩
theorem keep_to {S : World → Prop} {body : (World → Prop) → Prop} (S2 : World → Prop) (h : S2 w) (hs : ∀ w', S2 w' → S w') (k : body S2) : Keep S w body := ⟨⟨S2, h, hs, k⟩⟩
/-- What follows is shown once, of whatever Q says. -/
theorem share_of {J : List Value → World → Prop} {body : (List Value → World → Prop) → Prop} (Q : List Value → World → Prop) (hJ : ∀ vs w, Q vs w → J vs w) (hb : ∀ J', (∀ vs w, Q vs w → J' vs w) → body J') : Share J body := ⟨hb J hJ⟩
theorem loop_of {step : List Value → World → (List Value → World → Prop) → Prop} {vs : List Value} {w : World} (I : List Value → World → Prop) (μ : List Value → World → Nat) (h0 : I vs w)
    (hs : ∀ vs w k, I vs w → (∀ vs' w', I vs' w' → μ vs' w' < μ vs w → k vs' w') → step vs w k) : FLoop step vs w := ⟨⟨I, μ, h0, fun vs w hI => hs vs w _ hI fun _ _ h1 h2 => ⟨h1, h2⟩⟩⟩
theorem guard_split {b want : Bool} {A B : Prop} (h1 : b = want → A) (h2 : b = (!want) → B) : Guard (.bool b) want A B := guard_bool h1 (fun e => h2 (by cases b <;> cases want <;> simp_all))
theorem guard_tt {A B : Prop} (h : A) : Guard (.bool true) true A B := guard_bool (fun _ => h) (fun e => absurd rfl e)
theorem guard_ff {A B : Prop} (h : A) : Guard (.bool false) false A B := guard_bool (fun _ => h) (fun e => absurd rfl e)
theorem guard_tf {A B : Prop} (h : B) : Guard (.bool true) false A B := guard_bool (fun e => by cases e) (fun _ => h)
theorem guard_ft {A B : Prop} (h : B) : Guard (.bool false) true A B := guard_bool (fun e => by cases e) (fun _ => h)
/-! ### Steps that hang on no state: found by their form -/
class Red (A : Prop) (B : outParam Prop) : Prop where
  to : B → A
instance red_guard_ft {A B : Prop} : Red (Guard (.bool false) true A B) (B) := ⟨fun hk => guard_ft hk⟩
instance red_guard_tf {A B : Prop} : Red (Guard (.bool true) false A B) (B) := ⟨fun hk => guard_tf hk⟩
instance red_guard_ff {A B : Prop} : Red (Guard (.bool false) false A B) (A) := ⟨fun hk => guard_ff hk⟩
instance red_guard_tt {A B : Prop} : Red (Guard (.bool true) true A B) (A) := ⟨fun hk => guard_tt hk⟩
instance red_guard_undef {want : Bool} {A B : Prop} : Red (Guard undef want A B) (B) := ⟨fun hk => guard_undef hk⟩
instance red_pick_bool {b : Bool} {x y : Value} {K : Value → Prop} : Red (Pick (.bool b) x y K) (K (cond b x y)) := ⟨fun hk => pick_bool hk⟩
instance red_pick_f {x y : Value} {KT : Value → Prop} : Red (Pick (.bool false) x y KT) (KT y) := ⟨fun hk => pick_f hk⟩
instance red_pick_t {x y : Value} {KT : Value → Prop} : Red (Pick (.bool true) x y KT) (KT x) := ⟨fun hk => pick_t hk⟩
instance red_cond_false1 {A B : Prop} : Red (Cond (.bool false) A B) (B) := ⟨fun hk => cond_false' hk⟩
instance red_cond_true1 {A B : Prop} : Red (Cond (.bool true) A B) (A) := ⟨fun hk => cond_true' hk⟩
instance red_tp_ext4_3 {a0 a1 a2 a3 : Value} {KT : Value → Prop} : Red (TakeP P (Instr.extract (.tuple #[a0, a1, a2, a3]) 3) KT) (KT a3) := ⟨fun hk => tp_ext4_3 hk⟩
instance red_rv_ext4_3 {a0 a1 a2 a3 : Value} : Red (RunV P (Instr.extract (.tuple #[a0, a1, a2, a3]) 3) w K X) (K a3 w) := ⟨fun hk => rv_ext4_3 hk⟩
instance red_tp_ext4_2 {a0 a1 a2 a3 : Value} {KT : Value → Prop} : Red (TakeP P (Instr.extract (.tuple #[a0, a1, a2, a3]) 2) KT) (KT a2) := ⟨fun hk => tp_ext4_2 hk⟩
instance red_rv_ext4_2 {a0 a1 a2 a3 : Value} : Red (RunV P (Instr.extract (.tuple #[a0, a1, a2, a3]) 2) w K X) (K a2 w) := ⟨fun hk => rv_ext4_2 hk⟩
instance red_tp_ext4_1 {a0 a1 a2 a3 : Value} {KT : Value → Prop} : Red (TakeP P (Instr.extract (.tuple #[a0, a1, a2, a3]) 1) KT) (KT a1) := ⟨fun hk => tp_ext4_1 hk⟩
instance red_rv_ext4_1 {a0 a1 a2 a3 : Value} : Red (RunV P (Instr.extract (.tuple #[a0, a1, a2, a3]) 1) w K X) (K a1 w) := ⟨fun hk => rv_ext4_1 hk⟩
instance red_tp_ext4_0 {a0 a1 a2 a3 : Value} {KT : Value → Prop} : Red (TakeP P (Instr.extract (.tuple #[a0, a1, a2, a3]) 0) KT) (KT a0) := ⟨fun hk => tp_ext4_0 hk⟩
instance red_rv_ext4_0 {a0 a1 a2 a3 : Value} : Red (RunV P (Instr.extract (.tuple #[a0, a1, a2, a3]) 0) w K X) (K a0 w) := ⟨fun hk => rv_ext4_0 hk⟩
instance red_tp_ext3_2 {a0 a1 a2 : Value} {KT : Value → Prop} : Red (TakeP P (Instr.extract (.tuple #[a0, a1, a2]) 2) KT) (KT a2) := ⟨fun hk => tp_ext3_2 hk⟩
instance red_rv_ext3_2 {a0 a1 a2 : Value} : Red (RunV P (Instr.extract (.tuple #[a0, a1, a2]) 2) w K X) (K a2 w) := ⟨fun hk => rv_ext3_2 hk⟩
instance red_tp_ext3_1 {a0 a1 a2 : Value} {KT : Value → Prop} : Red (TakeP P (Instr.extract (.tuple #[a0, a1, a2]) 1) KT) (KT a1) := ⟨fun hk => tp_ext3_1 hk⟩
instance red_rv_ext3_1 {a0 a1 a2 : Value} : Red (RunV P (Instr.extract (.tuple #[a0, a1, a2]) 1) w K X) (K a1 w) := ⟨fun hk => rv_ext3_1 hk⟩
instance red_tp_ext3_0 {a0 a1 a2 : Value} {KT : Value → Prop} : Red (TakeP P (Instr.extract (.tuple #[a0, a1, a2]) 0) KT) (KT a0) := ⟨fun hk => tp_ext3_0 hk⟩
instance red_rv_ext3_0 {a0 a1 a2 : Value} : Red (RunV P (Instr.extract (.tuple #[a0, a1, a2]) 0) w K X) (K a0 w) := ⟨fun hk => rv_ext3_0 hk⟩
instance red_tp_ext2_1 {a0 a1 : Value} {KT : Value → Prop} : Red (TakeP P (Instr.extract (.tuple #[a0, a1]) 1) KT) (KT a1) := ⟨fun hk => tp_ext2_1 hk⟩
instance red_rv_ext2_1 {a0 a1 : Value} : Red (RunV P (Instr.extract (.tuple #[a0, a1]) 1) w K X) (K a1 w) := ⟨fun hk => rv_ext2_1 hk⟩
instance red_tp_ext2_0 {a0 a1 : Value} {KT : Value → Prop} : Red (TakeP P (Instr.extract (.tuple #[a0, a1]) 0) KT) (KT a0) := ⟨fun hk => tp_ext2_0 hk⟩
instance red_rv_ext2_0 {a0 a1 : Value} : Red (RunV P (Instr.extract (.tuple #[a0, a1]) 0) w K X) (K a0 w) := ⟨fun hk => rv_ext2_0 hk⟩
instance red_tp_len_s {t ty : Nat} [h : TStr P t] {s : ByteArray} {KT : Value → Prop} : Red (TakeP P (Builtin.len_ #[t] ty #[.string s]) KT) (KT ((.int .i64 s.size))) := ⟨fun hk => tp_len_s hk⟩
instance red_rv_len_s {t ty : Nat} [h : TStr P t] {s : ByteArray} : Red (RunV P (Builtin.len_ #[t] ty #[.string s]) w K X) (K ((.int .i64 s.size)) w) := ⟨fun hk => rv_len_s hk⟩
instance red_tp_len {t e s b ty : Nat} {z : Value} [h : TSlice P t e s b z] {p : Option Addr} {n c : Nat} {KT : Value → Prop} : Red (TakeP P (Builtin.len_ #[t] ty #[.slice p n c]) KT) (KT ((.int .i64 n))) := ⟨fun hk => tp_len hk⟩
instance red_rv_len {t e s b ty : Nat} {z : Value} [h : TSlice P t e s b z] {p : Option Addr} {n c : Nat} : Red (RunV P (Builtin.len_ #[t] ty #[.slice p n c]) w K X) (K ((.int .i64 n)) w) := ⟨fun hk => rv_len hk⟩
instance red_tp_max {t1 t2 ty : Nat} {k : IntKind} {a b : Int} {KT : Value → Prop} : Red (TakeP P (Builtin.max_ #[t1, t2] ty #[.int k a, .int k b]) KT) (KT ((.int k (if a < b then b else a)))) := ⟨fun hk => tp_max hk⟩
instance red_rv_max {t1 t2 ty : Nat} {k : IntKind} {a b : Int} : Red (RunV P (Builtin.max_ #[t1, t2] ty #[.int k a, .int k b]) w K X) (K ((.int k (if a < b then b else a))) w) := ⟨fun hk => rv_max hk⟩
instance red_tp_min {t1 t2 ty : Nat} {k : IntKind} {a b : Int} {KT : Value → Prop} : Red (TakeP P (Builtin.min_ #[t1, t2] ty #[.int k a, .int k b]) KT) (KT ((.int k (if b < a then b else a)))) := ⟨fun hk => tp_min hk⟩
instance red_rv_min {t1 t2 ty : Nat} {k : IntKind} {a b : Int} : Red (RunV P (Builtin.min_ #[t1, t2] ty #[.int k a, .int k b]) w K X) (K ((.int k (if b < a then b else a))) w) := ⟨fun hk => rv_min hk⟩
instance red_tp_neg {k : IntKind} {a : Int} {KT : Value → Prop} : Red (TakeP P (Op.unary .neg (.int k a)) KT) (KT ((.int k (k.wrap (0 - a))))) := ⟨fun hk => tp_neg hk⟩
instance red_rv_neg {k : IntKind} {a : Int} : Red (RunV P (Op.unary .neg (.int k a)) w K X) (K ((.int k (k.wrap (0 - a)))) w) := ⟨fun hk => rv_neg hk⟩
instance red_tp_not {b : Bool} {KT : Value → Prop} : Red (TakeP P (Op.unary .not (.bool b)) KT) (KT ((.bool !b))) := ⟨fun hk => tp_not hk⟩
instance red_rv_not {b : Bool} : Red (RunV P (Op.unary .not (.bool b)) w K X) (K ((.bool !b)) w) := ⟨fun hk => rv_not hk⟩
instance red_tp_not_f {KT : Value → Prop} : Red (TakeP P (Op.unary .not (.bool false)) KT) (KT (.bool true)) := ⟨fun hk => tp_not_f hk⟩
instance red_rv_not_f  : Red (RunV P (Op.unary .not (.bool false)) w K X) (K (.bool true) w) := ⟨fun hk => rv_not_f hk⟩
instance red_tp_not_t {KT : Value → Prop} : Red (TakeP P (Op.unary .not (.bool true)) KT) (KT (.bool false)) := ⟨fun hk => tp_not_t hk⟩
instance red_rv_not_t  : Red (RunV P (Op.unary .not (.bool true)) w K X) (K (.bool false) w) := ⟨fun hk => rv_not_t hk⟩
instance red_rv_eql_ss {t e s b : Nat} {z : Value} [TSlice P t e s b z] {cx cy : Bool} {a : Addr} {l c : Nat} : Red (RunV P (bin .eql t cx cy (.slice (some a) l c) (.slice none 0 0)) w K X) (K (.bool false) w) := ⟨fun hk => rv_eql_ss hk⟩
instance red_rv_eql_s0 {t e s b : Nat} {z : Value} [TSlice P t e s b z] {cx cy : Bool} {l c : Nat} : Red (RunV P (bin .eql t cx cy (.slice none l c) (.slice none 0 0)) w K X) (K (.bool true) w) := ⟨fun hk => rv_eql_s0 hk⟩
instance red_rv_neq_ps {t e : Nat} [TPtr P t e] {cx cy : Bool} {a : Addr} : Red (RunV P (bin .neq t cx cy (.pointer (some a)) (.pointer none)) w K X) (K (.bool true) w) := ⟨fun hk => rv_neq_ps hk⟩
instance red_rv_neq_p0 {t e : Nat} [TPtr P t e] {cx cy : Bool} : Red (RunV P (bin .neq t cx cy (.pointer none) (.pointer none)) w K X) (K (.bool false) w) := ⟨fun hk => rv_neq_p0 hk⟩
instance red_tp_eql_ps {t e : Nat} [TPtr P t e] {cx cy : Bool} {a : Addr} {KT : Value → Prop} : Red (TakeP P (bin .eql t cx cy (.pointer (some a)) (.pointer none)) KT) (KT (.bool false)) := ⟨fun hk => tp_eql_ps hk⟩
instance red_rv_eql_ps {t e : Nat} [TPtr P t e] {cx cy : Bool} {a : Addr} : Red (RunV P (bin .eql t cx cy (.pointer (some a)) (.pointer none)) w K X) (K (.bool false) w) := ⟨fun hk => rv_eql_ps hk⟩
instance red_tp_eql_p0 {t e : Nat} [TPtr P t e] {cx cy : Bool} {KT : Value → Prop} : Red (TakeP P (bin .eql t cx cy (.pointer none) (.pointer none)) KT) (KT (.bool true)) := ⟨fun hk => tp_eql_p0 hk⟩
instance red_rv_eql_p0 {t e : Nat} [TPtr P t e] {cx cy : Bool} : Red (RunV P (bin .eql t cx cy (.pointer none) (.pointer none)) w K X) (K (.bool true) w) := ⟨fun hk => rv_eql_p0 hk⟩
instance red_tp_neq_s {t : Nat} {cx cy : Bool} {a b : ByteArray} {KT : Value → Prop} : Red (TakeP P (bin .neq t cx cy (.string a) (.string b)) KT) (KT ((.bool (!(a.toList == b.toList))))) := ⟨fun hk => tp_neq_s hk⟩
instance red_rv_neq_s {t : Nat} {cx cy : Bool} {a b : ByteArray} : Red (RunV P (bin .neq t cx cy (.string a) (.string b)) w K X) (K ((.bool (!(a.toList == b.toList)))) w) := ⟨fun hk => rv_neq_s hk⟩
instance red_tp_eql_s {t : Nat} {cx cy : Bool} {a b : ByteArray} {KT : Value → Prop} : Red (TakeP P (bin .eql t cx cy (.string a) (.string b)) KT) (KT ((.bool (a.toList == b.toList)))) := ⟨fun hk => tp_eql_s hk⟩
instance red_rv_eql_s {t : Nat} {cx cy : Bool} {a b : ByteArray} : Red (RunV P (bin .eql t cx cy (.string a) (.string b)) w K X) (K ((.bool (a.toList == b.toList))) w) := ⟨fun hk => rv_eql_s hk⟩
instance red_tp_neq_b {t : Nat} [h : TBool P t] {cx cy : Bool} {a b : Bool} {KT : Value → Prop} : Red (TakeP P (bin .neq t cx cy (.bool a) (.bool b)) KT) (KT ((.bool (!(a == b))))) := ⟨fun hk => tp_neq_b hk⟩
instance red_rv_neq_b {t : Nat} [h : TBool P t] {cx cy : Bool} {a b : Bool} : Red (RunV P (bin .neq t cx cy (.bool a) (.bool b)) w K X) (K ((.bool (!(a == b)))) w) := ⟨fun hk => rv_neq_b hk⟩
instance red_tp_eql_b {t : Nat} [h : TBool P t] {cx cy : Bool} {a b : Bool} {KT : Value → Prop} : Red (TakeP P (bin .eql t cx cy (.bool a) (.bool b)) KT) (KT ((.bool (a == b)))) := ⟨fun hk => tp_eql_b hk⟩
instance red_rv_eql_b {t : Nat} [h : TBool P t] {cx cy : Bool} {a b : Bool} : Red (RunV P (bin .eql t cx cy (.bool a) (.bool b)) w K X) (K ((.bool (a == b))) w) := ⟨fun hk => rv_eql_b hk⟩
instance red_tp_convert_i {src dst : Nat} {j k : IntKind} {n : Int} [hs : TInt P src j] [hd : TInt P dst k] {KT : Value → Prop} : Red (TakeP P (convert src dst (.int j n)) KT) (KT ((.int k (k.wrap n)))) := ⟨fun hk => tp_convert_i hk⟩
instance red_rv_convert_i {src dst : Nat} {j k : IntKind} {n : Int} [hs : TInt P src j] [hd : TInt P dst k] : Red (RunV P (convert src dst (.int j n)) w K X) (K ((.int k (k.wrap n))) w) := ⟨fun hk => rv_convert_i hk⟩
instance red_tp_xor {t : Nat} {cx cy : Bool} {k : IntKind} {a b : Int} {KT : Value → Prop} : Red (TakeP P (bin .xor t cx cy (.int k a) (.int k b)) KT) (KT ((.int k (bitsOf .xor k a b)))) := ⟨fun hk => tp_xor hk⟩
instance red_rv_xor {t : Nat} {cx cy : Bool} {k : IntKind} {a b : Int} : Red (RunV P (bin .xor t cx cy (.int k a) (.int k b)) w K X) (K ((.int k (bitsOf .xor k a b))) w) := ⟨fun hk => rv_xor hk⟩
instance red_tp_or {t : Nat} {cx cy : Bool} {k : IntKind} {a b : Int} {KT : Value → Prop} : Red (TakeP P (bin .or t cx cy (.int k a) (.int k b)) KT) (KT ((.int k (bitsOf .or k a b)))) := ⟨fun hk => tp_or hk⟩
instance red_rv_or {t : Nat} {cx cy : Bool} {k : IntKind} {a b : Int} : Red (RunV P (bin .or t cx cy (.int k a) (.int k b)) w K X) (K ((.int k (bitsOf .or k a b))) w) := ⟨fun hk => rv_or hk⟩
instance red_tp_and {t : Nat} {cx cy : Bool} {k : IntKind} {a b : Int} {KT : Value → Prop} : Red (TakeP P (bin .and t cx cy (.int k a) (.int k b)) KT) (KT ((.int k (bitsOf .and k a b)))) := ⟨fun hk => tp_and hk⟩
instance red_rv_and {t : Nat} {cx cy : Bool} {k : IntKind} {a b : Int} : Red (RunV P (bin .and t cx cy (.int k a) (.int k b)) w K X) (K ((.int k (bitsOf .and k a b))) w) := ⟨fun hk => rv_and hk⟩
instance red_tp_mul {t : Nat} {cx cy : Bool} {k : IntKind} {a b : Int} {KT : Value → Prop} : Red (TakeP P (bin .mul t cx cy (.int k a) (.int k b)) KT) (KT ((.int k (k.wrap (a * b))))) := ⟨fun hk => tp_mul hk⟩
instance red_rv_mul {t : Nat} {cx cy : Bool} {k : IntKind} {a b : Int} : Red (RunV P (bin .mul t cx cy (.int k a) (.int k b)) w K X) (K ((.int k (k.wrap (a * b)))) w) := ⟨fun hk => rv_mul hk⟩
instance red_tp_sub {t : Nat} {cx cy : Bool} {k : IntKind} {a b : Int} {KT : Value → Prop} : Red (TakeP P (bin .sub t cx cy (.int k a) (.int k b)) KT) (KT ((.int k (k.wrap (a - b))))) := ⟨fun hk => tp_sub hk⟩
instance red_rv_sub {t : Nat} {cx cy : Bool} {k : IntKind} {a b : Int} : Red (RunV P (bin .sub t cx cy (.int k a) (.int k b)) w K X) (K ((.int k (k.wrap (a - b)))) w) := ⟨fun hk => rv_sub hk⟩
instance red_tp_add {t : Nat} {cx cy : Bool} {k : IntKind} {a b : Int} {KT : Value → Prop} : Red (TakeP P (bin .add t cx cy (.int k a) (.int k b)) KT) (KT ((.int k (k.wrap (a + b))))) := ⟨fun hk => tp_add hk⟩
instance red_rv_add {t : Nat} {cx cy : Bool} {k : IntKind} {a b : Int} : Red (RunV P (bin .add t cx cy (.int k a) (.int k b)) w K X) (K ((.int k (k.wrap (a + b)))) w) := ⟨fun hk => rv_add hk⟩
instance red_tp_geq {t : Nat} {cx cy : Bool} {k : IntKind} {a b : Int} {KT : Value → Prop} : Red (TakeP P (bin .geq t cx cy (.int k a) (.int k b)) KT) (KT ((.bool (decide (b ≤ a))))) := ⟨fun hk => tp_geq hk⟩
instance red_rv_geq {t : Nat} {cx cy : Bool} {k : IntKind} {a b : Int} : Red (RunV P (bin .geq t cx cy (.int k a) (.int k b)) w K X) (K ((.bool (decide (b ≤ a)))) w) := ⟨fun hk => rv_geq hk⟩
instance red_tp_gtr {t : Nat} {cx cy : Bool} {k : IntKind} {a b : Int} {KT : Value → Prop} : Red (TakeP P (bin .gtr t cx cy (.int k a) (.int k b)) KT) (KT ((.bool (decide (b < a))))) := ⟨fun hk => tp_gtr hk⟩
instance red_rv_gtr {t : Nat} {cx cy : Bool} {k : IntKind} {a b : Int} : Red (RunV P (bin .gtr t cx cy (.int k a) (.int k b)) w K X) (K ((.bool (decide (b < a)))) w) := ⟨fun hk => rv_gtr hk⟩
instance red_tp_leq {t : Nat} {cx cy : Bool} {k : IntKind} {a b : Int} {KT : Value → Prop} : Red (TakeP P (bin .leq t cx cy (.int k a) (.int k b)) KT) (KT ((.bool (decide (a ≤ b))))) := ⟨fun hk => tp_leq hk⟩
instance red_rv_leq {t : Nat} {cx cy : Bool} {k : IntKind} {a b : Int} : Red (RunV P (bin .leq t cx cy (.int k a) (.int k b)) w K X) (K ((.bool (decide (a ≤ b)))) w) := ⟨fun hk => rv_leq hk⟩
instance red_tp_lss {t : Nat} {cx cy : Bool} {k : IntKind} {a b : Int} {KT : Value → Prop} : Red (TakeP P (bin .lss t cx cy (.int k a) (.int k b)) KT) (KT ((.bool (decide (a < b))))) := ⟨fun hk => tp_lss hk⟩
instance red_rv_lss {t : Nat} {cx cy : Bool} {k : IntKind} {a b : Int} : Red (RunV P (bin .lss t cx cy (.int k a) (.int k b)) w K X) (K ((.bool (decide (a < b)))) w) := ⟨fun hk => rv_lss hk⟩
instance red_tp_neq {t : Nat} {cx cy : Bool} {k : IntKind} {a b : Int} {KT : Value → Prop} : Red (TakeP P (bin .neq t cx cy (.int k a) (.int k b)) KT) (KT ((.bool (a != b)))) := ⟨fun hk => tp_neq hk⟩
instance red_rv_neq {t : Nat} {cx cy : Bool} {k : IntKind} {a b : Int} : Red (RunV P (bin .neq t cx cy (.int k a) (.int k b)) w K X) (K ((.bool (a != b))) w) := ⟨fun hk => rv_neq hk⟩
instance red_tp_eql {t : Nat} {cx cy : Bool} {k : IntKind} {a b : Int} {KT : Value → Prop} : Red (TakeP P (bin .eql t cx cy (.int k a) (.int k b)) KT) (KT ((.bool (a == b)))) := ⟨fun hk => tp_eql hk⟩
instance red_rv_eql {t : Nat} {cx cy : Bool} {k : IntKind} {a b : Int} : Red (RunV P (bin .eql t cx cy (.int k a) (.int k b)) w K X) (K ((.bool (a == b))) w) := ⟨fun hk => rv_eql hk⟩
instance red_tp_field1 {s f off : Nat} [h : TField P s f off] {b i : Nat} {KT : Value → Prop} : Red (TakeP P (Instr.fieldAt s (.pointer (some ⟨b, i, none⟩)) f) KT) (KT ((.pointer (some ⟨b, i + off, none⟩)))) := ⟨fun hk => tp_field' hk⟩
instance red_rv_field1 {s f off : Nat} [h : TField P s f off] {b i : Nat} : Red (RunV P (Instr.fieldAt s (.pointer (some ⟨b, i, none⟩)) f) w K X) (K ((.pointer (some ⟨b, i + off, none⟩))) w) := ⟨fun hk => rv_field' hk⟩
instance red_tp_field0 {s f off : Nat} [h : TField P s f off] {b : Nat} {KT : Value → Prop} : Red (TakeP P (Instr.fieldAt s (.pointer (some ⟨b, 0, none⟩)) f) KT) (KT ((.pointer (some ⟨b, off, none⟩)))) := ⟨fun hk => tp_field0 hk⟩
instance red_rv_field0 {s f off : Nat} [h : TField P s f off] {b : Nat} : Red (RunV P (Instr.fieldAt s (.pointer (some ⟨b, 0, none⟩)) f) w K X) (K ((.pointer (some ⟨b, off, none⟩))) w) := ⟨fun hk => rv_field0 hk⟩
instance red_tp_nilc {a : Addr} {KT : Value → Prop} : Red (TakeP P (nilc (.pointer (some a))) KT) (KT ((.pointer (some a)))) := ⟨fun hk => tp_nilc hk⟩
instance red_rv_nilc {a : Addr} : Red (RunV P (nilc (.pointer (some a))) w K X) (K ((.pointer (some a))) w) := ⟨fun hk => rv_nilc hk⟩
theorem is_rload {t : Nat} {a : Value} (h : RunV P (Instr.loadAt t a) w K X) : RunV P (Instr.loadAt t a) w K X := h
theorem is_tload {t : Nat} {a : Value} {S : World → Prop} {KT : Value → Prop} (h : Take P (Instr.loadAt t a) S KT) : Take P (Instr.loadAt t a) S KT := h

end
end Go.Ops
