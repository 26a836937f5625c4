/-
  For every bytes, the law DraftGets returns true and changes nothing. No condition.
-/
import Derived.Test.YtdmocobabpmoeaaRows
import Derived.WalkKit
import Derived.ProofKit
import Derived.OpenShut
import Derived.ShutString
import Derived.ChangeOld
import Derived.Below
import Derived.SizedLaws
import Derived.Test.YtdmocobabpmoeaaDraftAD
namespace Go.Proofs.Ytdmocobabpmoeaa.draftGets
open Go.ChangeShapes Go.WideShapes Go.ChangeAt Go.RowKit
open Go.ChangeMaps (open_string shut_string)
set_option linter.unusedVariables false

theorem own : ownKnob Try.prog.godebug = none := by kernel_rfl
theorem laidOut : laidOutB Try.prog = true := by kernel_rfl

/-- A slice of bytes as it comes in. -/
def IsBytes (w : World) (v : Value) (bs : List UInt8) : Prop := Sep.Rd w v bs.length (bv bs)

theorem slice_plain {P : Program} {w : World} {r : Reach} {base : Nat} {t e : TypeId} {v : Value} (ht : P.underlying t = some (.slice e)) (h : Value.okWide P w r base t v) :
    v = .slice none 0 0 ∨ ∃ g off len cap, v = .slice (some ⟨g, off, none⟩) len cap := by
  simp only [Value.okWide, ht, Cell.okWide] at h
  cases v with
  | slice a l c =>
    cases a with
    | none => left; cases l <;> cases c <;> simp_all [Cell.ok]
    | some a =>
      right
      obtain ⟨g, off, spot⟩ := a
      have : spot = none := by simp_all [Cell.ok, World.has]
      subst this
      exact ⟨g, off, l, c, rfl⟩
  | _ => simp_all [Cell.ok]

theorem bytes_of {w : World} {g off len cap : Nat} {zs : List Int} (hl : len ≤ cap) (hz : zs.length = cap) (hc : ∀ i, i < zs.length → w.cell? (Addr.add ⟨g, off, none⟩ i) = some (.int .u8 (zs.getD i 0))) (hw : ∀ n ∈ zs, (Lit.int .u8 n).wf = true) :
    ∃ bs : List UInt8, bs.length = len ∧ IsBytes w (.slice (some ⟨g, off, none⟩) len cap) bs := by
  refine ⟨(zs.take len).map fun n => UInt8.ofNat n.toNat, by simp; omega, .inr ⟨g, off, cap, by simp; omega, by simp; omega, ?_⟩⟩
  intro j u hj
  simp only [bv, List.map_map, List.getElem?_map, Option.map_eq_some_iff] at hj
  obtain ⟨n, hn, rfl⟩ := hj
  have hjl : j < len := by
    have := (List.getElem?_eq_some_iff.1 hn).1
    simp at this; omega
  rw [List.getElem?_take_of_lt hjl] at hn
  have hjz : j < zs.length := by omega
  have h := hc j hjz
  have e : zs.getD j 0 = n := by simp [List.getD, hn]
  rw [e] at h
  have hw := hw n (List.mem_of_getElem? hn)
  simp [Lit.wf, IntKind.min, IntKind.max, IntKind.signed, IntKind.bits] at hw
  have e2 : (((UInt8.ofNat n.toNat).toNat : Nat) : Int) = n := by simp; omega
  simp only [Function.comp_apply, e2]
  rw [← h]
  congr 1
  simp [Addr.add]

/-! ### STEP 1: THE WALK -/
theorem walk (a0 a1 : Value) (bs ts : List UInt8) (w : World) (w0 : IsBytes w a0 bs) (hl : bs.length ≤ 140737488351232) (w1 : IsBytes w a1 ts) :
    Calls Try.prog 4 #[a0, a1] w fun e w' => e = .returned (.bool true) ∧ Below w.heap.size w w' := by
  have h := gets_spec (K := fun v w' => v = .bool true ∧ Below w.heap.size w w') (X := fun _ _ => False) (a := a0) (c := a1) (bs := bs) (ts := ts) (.inl w0) hl (.inl w1) (Sep.St.start w) (fun w' H => ⟨rfl, H.below⟩)
  refine h.comes.mono fun e w' he => ?_
  cases e with
  | returned v => exact ⟨by rw [he.1], he.2⟩
  | panicked c => exact he.elim
  | outgrown => exact he.elim

/-! ### THE ROW's STEP: WRITTEN OUT: LEAVE IT -/
set_option maxRecDepth 100000 in
theorem lifted (os : Os) (started : os.Started) (H : Type) (enc : TypeId × Value → H) :
    ReturnsInHanded {} Try.checked os 4 .any (Rows.draftGetsSpec.pre6 enc Try.prog Try.f4 Rows.draftGetsRow.domain false) (Rows.draftGetsSpec.post enc Try.prog Try.f4 false true false false) := by
  refine returnsInHanded_of_change_sized (C := Try.checked) own started (by kernel_rfl) Try.func4
    (ChangeSpec.witness6 (enc := enc) (C := Try.checked) false ⟨#[], #[.slice none 0 0, .slice none 0 0], []⟩ 8 (by kernel_rfl) (by kernel_rfl) (by kernel_rfl) (by kernel_rfl)) ?_
  intro W base args ds gs before hval0 hW hcnd hsz _
  have hval : ∀ (j : Nat) t v, Try.f4.params[j]? = some t → args[j]? = some v → Value.okWide Try.prog W .any base t v := hval0
  have hW' := hW
  obtain ⟨p, q, hA0, hV, rfl, hfz, hnd⟩ := hW
  have hA : DataW.TrodAll enc Try.prog W 0 (fun _ => true) true Try.f4.params.toList args.toList ds p := hA0
  rw [Try.params4] at hA hval
  obtain ⟨v0, vs0, d0, ds0, p0, q0, hargs, rfl, rfl, h0, r0⟩ := trodAll_cons hA
  obtain ⟨v1, vs1, d1, ds1, p1, q1, rfl, rfl, rfl, h1, r1⟩ := trodAll_cons r0
  obtain ⟨rfl, rfl, rfl⟩ := trodAll_nil r1
  obtain rfl : args = #[v0, v1] := by cases args; simp_all
  obtain ⟨rfl, rfl⟩ := trodVars_none hV
  have pl := slice_plain Try.underlying27 (hval 0 27 v0 rfl rfl)
  have pl1 := slice_plain Try.underlying27 (hval 1 27 v1 rfl rfl)
  have k0 := h0
  have k1 := h1
  have lt0 : ∀ x ∈ p0, x.block < W.heap.size := by obtain ⟨m, hm⟩ := k0; exact DataW.trod_lt m _ _ _ hm
  have lt1 : ∀ x ∈ p1, x.block < W.heap.size := by obtain ⟨m, hm⟩ := k1; exact DataW.trod_lt m _ _ _ hm
  obtain ⟨ts, w1⟩ : ∃ ts : List UInt8, IsBytes W v1 ts := by
    obtain ⟨fuel, hf⟩ := h1
    rcases open_ints Try.underlying27 Try.underlying5 (by kernel_rfl) hf with ⟨hcs, _⟩ | ⟨x, l, c, zs, hcs, _, hl, hm, hz, hx, hcell, hwz⟩
    · have e : v1 = .slice none 0 0 := by
        rcases pl1 with rfl | ⟨g, off, len, cap, rfl⟩
        · rfl
        · simp [Value.cells] at hcs
      subst e
      exact ⟨[], .inl ⟨rfl, rfl, rfl⟩⟩
    · rcases pl1 with rfl | ⟨g, off, len, cap, rfl⟩
      · simp [Value.cells] at hcs
      simp [Value.cells] at hcs
      obtain ⟨rfl, rfl, rfl⟩ := hcs
      have hz : zs.length = cap := by simpa using hz
      obtain ⟨bs, hb, hB⟩ := bytes_of hl hz hcell hwz
      exact ⟨bs, hB⟩
  obtain ⟨bs, hl, w0⟩ : ∃ bs : List UInt8, bs.length ≤ 140737488351232 ∧ IsBytes W v0 bs := by
    obtain ⟨fuel, hf⟩ := h0
    rcases open_ints Try.underlying27 Try.underlying5 (by kernel_rfl) hf with ⟨hcs, _⟩ | ⟨x, l, c, zs, hcs, _, hl, hm, hz, hx, hcell, hwz⟩
    · have e : v0 = .slice none 0 0 := by
        rcases pl with rfl | ⟨g, off, len, cap, rfl⟩
        · rfl
        · simp [Value.cells] at hcs
      subst e
      exact ⟨[], by simp, .inl ⟨rfl, rfl, rfl⟩⟩
    · rcases pl with rfl | ⟨g, off, len, cap, rfl⟩
      · simp [Value.cells] at hcs
      simp [Value.cells] at hcs
      obtain ⟨rfl, rfl, rfl⟩ := hcs
      have hz : zs.length = cap := by simpa using hz
      obtain ⟨bs, hb, hB⟩ := bytes_of hl hz hcell hwz
      refine ⟨bs, ?_, hB⟩
      simp only [Prod.mk.injEq] at hx
      rw [hx.1] at hsz
      have hs := sized_slice hsz (j := 0) (t := 27) rfl rfl Try.underlying27
      have hby : Try.checked.prog.bytesOf 5 = 1 := by kernel_rfl
      have hr : reachBytes = 140737488351232 := by decide
      have hle : (lits (H := H) .u8 (zs.take len)).length = len := by simp [lits]; omega
      rw [hle, hby, hr] at hs
      rw [hb]
      omega
  clear hA0 hval0
  refine (walk v0 v1 bs ts W w0 hl w1).mono fun e W' ⟨he, bel⟩ => ?_
  subst he
  exact ⟨_, rfl, _, _, _, [], _, [], hW', trodAll_mk1 (shut_bool Try.underlying4 _), (trodAll_cons_mk (Below.trod laidOut (by kernel_rfl) (of_decide_eq_true (by kernel_rfl)) k0 bel lt0) (trodAll_cons_mk (Below.trod laidOut (by kernel_rfl) (of_decide_eq_true (by kernel_rfl)) k1 bel lt1) trodAll_mk0)), rfl, bel.frame _, fun h => by cases h⟩

theorem over : Rows.draftGetsRow.holds Try.pinned (OpenSpec.ofChange Rows.draftGetsSpec) :=
  OpenClaim.holds_of_wide 4 Try.f4 rfl rfl rfl rfl rfl rfl rfl ⟨rfl, rfl, rfl, rfl, rfl⟩ rfl rfl rfl rfl rfl (by kernel_rfl) Try.func4 (by kernel_rfl)
    (of_decide_eq_true (by kernel_rfl)) (by unfold Func.isWrapper; first | (rw [if_pos (by decide +kernel)]; kernel_rfl) | (rw [if_neg (by decide +kernel)]; exact ⟨rfl, rfl⟩))
    (fun os started H enc _ => lifted os started H enc)

/-- ████ THE STATEMENT ████ -/
theorem proved : Rows.DraftGetsSaid := over
end Go.Proofs.Ytdmocobabpmoeaa.draftGets
