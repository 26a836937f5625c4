/-
  For every script of at most 1048576 values and letters, the law WireWrites returns true and changes nothing. The condition is the second form's own.
-/
import Derived.Test.YtpfbpjoknlcbkaaRows
import Derived.WalkKit
import Derived.ProofKit
import Derived.OpenShut
import Derived.ShutString
import Derived.ChangeOld
import Derived.Below
import Derived.SizedLaws
import Derived.JoinedCond
import Derived.Test.YtpfbpjoknlcbkaaWireQ
namespace Go.Proofs.Ytpfbpjoknlcbkaa.wireWrites
open Go.ChangeShapes Go.WideShapes Go.ChangeAt Go.RowKit
open Go.ChangeMaps (open_string shut_string)
set_option linter.unusedVariables false

theorem own : ownKnob Try.prog.godebug = none := by kernel_rfl
theorem laidOut : laidOutB Try.prog = true := by kernel_rfl

theorem slice_plain {P : Program} {w : World} {r : Reach} {base : Nat} {t e : TypeId} {v : Value} (ht : P.underlying t = some (.slice e)) (h : Value.okWide P w r base t v) :
    v = .slice none 0 0 ∨ ∃ g off len cap, v = .slice (some ⟨g, off, none⟩) len cap := by
  simp only [Value.okWide, ht, Cell.okWide] at h
  cases v with
  | slice a l c =>
    cases a with
    | none => left; cases l <;> cases c <;> simp_all [Cell.ok]
    | some a =>
      right
      obtain ⟨g, off, spot⟩ := a
      have : spot = none := by simp_all [Cell.ok, World.has]
      subst this
      exact ⟨g, off, l, c, rfl⟩
  | _ => simp_all [Cell.ok]

/-! ### STEP 1: THE WALK -/
theorem walk (a : Value) (ops : List OpV) (w : World) (R3 : Sep.Rd w a ops.length (flat ops)) (hok : ∀ o ∈ ops, o.ok) (hB : ∀ o ∈ ops, ∃ xs : List UInt8, Rd0 w o.b xs.length (bv xs) ∧ xs.length ≤ 1048576) (hl3 : ops.length ≤ 1048576) :
    Calls Try.prog 3 #[a] w fun e w' => e = .returned (.bool true) ∧ Below w.heap.size w w' := by
  have h := wwrites_spec (K := fun v w' => v = .bool true ∧ Below w.heap.size w w') (X := fun _ _ => False) R3 hok hB hl3 (Sep.St.start w) (fun w' H => ⟨rfl, H.below⟩)
  refine h.comes.mono fun e w' he => ?_
  cases e with
  | returned v => exact ⟨by rw [he.1], he.2⟩
  | panicked c => exact he.elim
  | outgrown => exact he.elim

/-! ### THE ROW's STEP: WRITTEN OUT: LEAVE IT -/
set_option maxRecDepth 100000 in
theorem lifted (os : Os) (started : os.Started) (H : Type) (enc : TypeId × Value → H) (F : Stop.Interp) :
    ReturnsInHanded {} Try.checked os 3 .any ((Rows.OpenSpec.upto Rows.wireWritesSpec).pre6 enc Try.prog Try.f3 Rows.wireWritesUptoRow.domain false) (((Rows.OpenSpec.upto Rows.wireWritesSpec).at F).post enc Try.prog Try.f3 false true false false) := by
  refine returnsInHanded_of_cond (C := Try.checked) (s := Rows.OpenSpec.upto Rows.wireWritesSpec) (k := Rows.uptoSmall) rfl own started (by kernel_rfl) Try.func3
    (OpenSpec.witness (enc := enc) (C := Try.checked) (s := Rows.OpenSpec.upto Rows.wireWritesSpec) (k := Rows.uptoSmall) rfl false ⟨#[], #[.slice none 0 0], []⟩ 8 (by kernel_rfl) (by kernel_rfl) (by kernel_rfl)
      (x := ([.nil], [], [])) (by kernel_rfl) rfl (by kernel_rfl)) ?_
  intro W base args ds gs before hval0 hW _ hk _
  have hval : ∀ (j : Nat) t v, Try.f3.params[j]? = some t → args[j]? = some v → Value.okWide Try.prog W .any base t v := hval0
  have hW' := hW
  obtain ⟨p, q, hA0, hV, rfl, hfz, hnd⟩ := hW
  have hA : DataW.TrodAll enc Try.prog W 0 (fun _ => true) true Try.f3.params.toList args.toList ds p := hA0
  rw [Try.params3] at hA hval
  obtain ⟨v0, vs0, d0, ds0, p0, q0, hargs, rfl, rfl, h0, r0⟩ := trodAll_cons hA
  obtain ⟨rfl, rfl, rfl⟩ := trodAll_nil r0
  obtain rfl : args = #[v0] := by cases args; simp_all
  obtain ⟨rfl, rfl⟩ := trodVars_none hV
  have pl0 := slice_plain Try.underlying22 (hval 0 22 v0 rfl rfl)
  have k0 := h0
  have lt0 : ∀ x ∈ p0, x.block < W.heap.size := by obtain ⟨m, hm⟩ := k0; exact DataW.trod_lt m _ _ _ hm
  obtain ⟨ops, w0, hok, hB, hlen⟩ := ops_openB pl0 k0.choose_spec
  have hkb : Rows.uptoBulk d0 ≤ 1048576 := by
    have := of_decide_eq_true hk
    simp only [List.append_nil, Rows.uptoBulkAll] at this
    omega
  simp only at hB hlen
  clear hA0 hval0
  refine (walk v0 ops W w0 hok (fun o ho => let ⟨xs, h1, h2⟩ := hB o ho; ⟨xs, h1, by omega⟩) (by omega)).mono fun e W' ⟨he, bel⟩ => ?_
  subst he
  exact ⟨_, rfl, _, _, _, [], _, [], hW', trodAll_mk1 (shut_bool Try.underlying4 _), (trodAll_cons_mk (Below.trod laidOut (by kernel_rfl) (of_decide_eq_true (by kernel_rfl)) k0 bel lt0) trodAll_mk0), rfl, bel.frame _, fun h => by cases h⟩

theorem over : Rows.wireWritesUptoRow.holds Try.pinned (Rows.OpenSpec.upto Rows.wireWritesSpec) :=
  OpenClaim.holds_of_cond 3 Try.f3 rfl rfl rfl rfl rfl rfl rfl ⟨rfl, rfl, rfl, rfl, rfl⟩ rfl rfl rfl rfl rfl (by kernel_rfl) Try.func3 (by kernel_rfl)
    (of_decide_eq_true (by kernel_rfl)) (by unfold Func.isWrapper; first | (rw [if_pos (by decide +kernel)]; kernel_rfl) | (rw [if_neg (by decide +kernel)]; exact ⟨rfl, rfl⟩))
    (fun os started H enc _ F => lifted os started H enc F)

/-- ████ THE STATEMENT ████ -/
theorem proved : Rows.WireWritesUptoSaid := over
end Go.Proofs.Ytpfbpjoknlcbkaa.wireWrites
