/-
  For every script (at most 1048576 values and letters) and every number, the law WireBack returns true and changes nothing. The condition is the second form's own.
-/
import Derived.Test.YtpfbpjoknlcbkaaRows
import Derived.WalkKit
import Derived.ProofKit
import Derived.OpenShut
import Derived.ShutString
import Derived.ChangeOld
import Derived.Below
import Derived.SizedLaws
import Derived.JoinedCond
import Derived.Test.YtpfbpjoknlcbkaaWireV
namespace Go.Proofs.Ytpfbpjoknlcbkaa.wireBack
open Go.ChangeShapes Go.WideShapes Go.ChangeAt Go.RowKit
open Go.ChangeMaps (open_string shut_string)
set_option linter.unusedVariables false

theorem own : ownKnob Try.prog.godebug = none := by kernel_rfl
theorem laidOut : laidOutB Try.prog = true := by kernel_rfl

theorem slice_plain {P : Program} {w : World} {r : Reach} {base : Nat} {t e : TypeId} {v : Value} (ht : P.underlying t = some (.slice e)) (h : Value.okWide P w r base t v) :
    v = .slice none 0 0 ∨ ∃ g off len cap, v = .slice (some ⟨g, off, none⟩) len cap := by
  simp only [Value.okWide, ht, Cell.okWide] at h
  cases v with
  | slice a l c =>
    cases a with
    | none => left; cases l <;> cases c <;> simp_all [Cell.ok]
    | some a =>
      right
      obtain ⟨g, off, spot⟩ := a
      have : spot = none := by simp_all [Cell.ok, World.has]
      subst this
      exact ⟨g, off, l, c, rfl⟩
  | _ => simp_all [Cell.ok]

/-! ### STEP 1: THE WALK -/
theorem walk (a : Value) (sh : Int) (ops : List OpV) (w : World) (R3 : Sep.Rd w a ops.length (flat ops)) (hok : ∀ o ∈ ops, o.ok) (hB : ∀ o ∈ ops, ∃ xs : List UInt8, Rd0 w o.b xs.length (bv xs)) (hl3 : ops.length ≤ 1048576) (w1 : (Lit.int .i64 sh).wf = true) :
    Calls Try.prog 5 #[a, .int .i64 sh] w fun e w' => e = .returned (.bool true) ∧ Below w.heap.size w w' := by
  have b1 : -9223372036854775808 ≤ sh ∧ sh < 9223372036854775808 := by
    simp [Lit.wf, IntKind.min, IntKind.max, IntKind.signed, IntKind.bits] at w1
    omega
  have hX : ∀ o : OpV, ∃ xs : List UInt8, o ∈ ops → Rd0 w o.b xs.length (bv xs) := fun o =>
    (Classical.em (o ∈ ops)).elim (fun h => (hB o h).imp fun xs hx _ => hx) (fun h => ⟨[], fun h' => absurd h' h⟩)
  have hB' : ∀ o ∈ ops, Rd0 w o.b (Classical.choose (hX o)).length (bv (Classical.choose (hX o))) := fun o ho => Classical.choose_spec (hX o) ho
  have h := back_spec (B := fun o => Classical.choose (hX o)) (K := fun v w' => v = .bool true ∧ Below w.heap.size w w') (X := fun _ _ => False) R3 hok hB' hl3 b1 (Sep.St.start w) (fun w' H => ⟨rfl, H.below⟩)
  refine h.comes.mono fun e w' he => ?_
  cases e with
  | returned v => exact ⟨by rw [he.1], he.2⟩
  | panicked c => exact he.elim
  | outgrown => exact he.elim

/-! ### THE ROW's STEP: WRITTEN OUT: LEAVE IT -/
set_option maxRecDepth 100000 in
theorem lifted (os : Os) (started : os.Started) (H : Type) (enc : TypeId × Value → H) (F : Stop.Interp) :
    ReturnsInHanded {} Try.checked os 5 .any ((Rows.OpenSpec.upto Rows.wireBackSpec).pre6 enc Try.prog Try.f5 Rows.wireBackUptoRow.domain false) (((Rows.OpenSpec.upto Rows.wireBackSpec).at F).post enc Try.prog Try.f5 false true false false) := by
  refine returnsInHanded_of_cond (C := Try.checked) (s := Rows.OpenSpec.upto Rows.wireBackSpec) (k := Rows.uptoSmall) rfl own started (by kernel_rfl) Try.func5
    (OpenSpec.witness (enc := enc) (C := Try.checked) (s := Rows.OpenSpec.upto Rows.wireBackSpec) (k := Rows.uptoSmall) rfl false ⟨#[], #[.slice none 0 0, .int .i64 0], []⟩ 8 (by kernel_rfl) (by kernel_rfl) (by kernel_rfl)
      (x := ([.nil, .lit (.int .i64 0)], [], [])) (by kernel_rfl) rfl (by kernel_rfl)) ?_
  intro W base args ds gs before hval0 hW _ hk _
  have hval : ∀ (j : Nat) t v, Try.f5.params[j]? = some t → args[j]? = some v → Value.okWide Try.prog W .any base t v := hval0
  have hW' := hW
  obtain ⟨p, q, hA0, hV, rfl, hfz, hnd⟩ := hW
  have hA : DataW.TrodAll enc Try.prog W 0 (fun _ => true) true Try.f5.params.toList args.toList ds p := hA0
  rw [Try.params5] at hA hval
  obtain ⟨v0, vs0, d0, ds0, p0, q0, hargs, rfl, rfl, h0, r0⟩ := trodAll_cons hA
  obtain ⟨v1, vs1, d1, ds1, p1, q1, rfl, rfl, rfl, h1, r1⟩ := trodAll_cons r0
  obtain ⟨rfl, rfl, rfl⟩ := trodAll_nil r1
  obtain rfl : args = #[v0, v1] := by cases args; simp_all
  obtain ⟨rfl, rfl⟩ := trodVars_none hV
  have pl0 := slice_plain Try.underlying22 (hval 0 22 v0 rfl rfl)
  have k0 := h0
  have lt0 : ∀ x ∈ p0, x.block < W.heap.size := by obtain ⟨m, hm⟩ := k0; exact DataW.trod_lt m _ _ _ hm
  obtain ⟨ops, w0, hok, hB, hlen⟩ := ops_openB pl0 k0.choose_spec
  have hkb : Rows.uptoBulk d0 ≤ 1048576 := by
    have := of_decide_eq_true hk
    simp only [List.append_nil, Rows.uptoBulkAll] at this
    omega
  simp only at hB hlen
  obtain ⟨a1, rfl, rfl, rfl, w1⟩ := open_int Try.underlying3 (hval 1 3 v1 rfl rfl) h1
  clear hA0 hval0
  refine (walk v0 a1 ops W w0 hok (fun o ho => let ⟨xs, h1, h2⟩ := hB o ho; ⟨xs, h1⟩) (by omega) w1).mono fun e W' ⟨he, bel⟩ => ?_
  subst he
  exact ⟨_, rfl, _, _, _, [], _, [], hW', trodAll_mk1 (shut_bool Try.underlying4 _), (trodAll_cons_mk (Below.trod laidOut (by kernel_rfl) (of_decide_eq_true (by kernel_rfl)) k0 bel lt0) (trodAll_cons_mk (shut_int Try.underlying3 w1) trodAll_mk0)), rfl, bel.frame _, fun h => by cases h⟩

theorem over : Rows.wireBackUptoRow.holds Try.pinned (Rows.OpenSpec.upto Rows.wireBackSpec) :=
  OpenClaim.holds_of_cond 5 Try.f5 rfl rfl rfl rfl rfl rfl rfl ⟨rfl, rfl, rfl, rfl, rfl⟩ rfl rfl rfl rfl rfl (by kernel_rfl) Try.func5 (by kernel_rfl)
    (of_decide_eq_true (by kernel_rfl)) (by unfold Func.isWrapper; first | (rw [if_pos (by decide +kernel)]; kernel_rfl) | (rw [if_neg (by decide +kernel)]; exact ⟨rfl, rfl⟩))
    (fun os started H enc _ F => lifted os started H enc F)

/-- ████ THE STATEMENT ████ -/
theorem proved : Rows.WireBackUptoSaid := over
end Go.Proofs.Ytpfbpjoknlcbkaa.wireBack
