/-
  For every bytes, every other bytes and every script, the law WireReads returns true and changes nothing. No condition.
-/
import Derived.Test.YtpfbpjoknlcbkaaRows
import Derived.WalkKit
import Derived.ProofKit
import Derived.OpenShut
import Derived.ShutString
import Derived.ChangeOld
import Derived.Below
import Derived.SizedLaws
import Derived.Test.YtpfbpjoknlcbkaaWireL
namespace Go.Proofs.Ytpfbpjoknlcbkaa.wireReads
open Go.ChangeShapes Go.WideShapes Go.ChangeAt Go.RowKit
open Go.ChangeMaps (open_string shut_string)
set_option linter.unusedVariables false

theorem own : ownKnob Try.prog.godebug = none := by kernel_rfl
theorem laidOut : laidOutB Try.prog = true := by kernel_rfl

/-- A slice of bytes as it comes in. -/
def IsBytes (w : World) (v : Value) (bs : List UInt8) : Prop := Sep.Rd w v bs.length (bv bs)

theorem slice_plain {P : Program} {w : World} {r : Reach} {base : Nat} {t e : TypeId} {v : Value} (ht : P.underlying t = some (.slice e)) (h : Value.okWide P w r base t v) :
    v = .slice none 0 0 ∨ ∃ g off len cap, v = .slice (some ⟨g, off, none⟩) len cap := by
  simp only [Value.okWide, ht, Cell.okWide] at h
  cases v with
  | slice a l c =>
    cases a with
    | none => left; cases l <;> cases c <;> simp_all [Cell.ok]
    | some a =>
      right
      obtain ⟨g, off, spot⟩ := a
      have : spot = none := by simp_all [Cell.ok, World.has]
      subst this
      exact ⟨g, off, l, c, rfl⟩
  | _ => simp_all [Cell.ok]

theorem bytes_of {w : World} {g off len cap : Nat} {zs : List Int} (hl : len ≤ cap) (hz : zs.length = cap) (hc : ∀ i, i < zs.length → w.cell? (Addr.add ⟨g, off, none⟩ i) = some (.int .u8 (zs.getD i 0))) (hw : ∀ n ∈ zs, (Lit.int .u8 n).wf = true) :
    ∃ bs : List UInt8, bs.length = len ∧ IsBytes w (.slice (some ⟨g, off, none⟩) len cap) bs := by
  refine ⟨(zs.take len).map fun n => UInt8.ofNat n.toNat, by simp; omega, .inr ⟨g, off, cap, by simp; omega, by simp; omega, ?_⟩⟩
  intro j u hj
  simp only [bv, List.map_map, List.getElem?_map, Option.map_eq_some_iff] at hj
  obtain ⟨n, hn, rfl⟩ := hj
  have hjl : j < len := by
    have := (List.getElem?_eq_some_iff.1 hn).1
    simp at this; omega
  rw [List.getElem?_take_of_lt hjl] at hn
  have hjz : j < zs.length := by omega
  have h := hc j hjz
  have e : zs.getD j 0 = n := by simp [List.getD, hn]
  rw [e] at h
  have hw := hw n (List.mem_of_getElem? hn)
  simp [Lit.wf, IntKind.min, IntKind.max, IntKind.signed, IntKind.bits] at hw
  have e2 : (((UInt8.ofNat n.toNat).toNat : Nat) : Int) = n := by simp; omega
  simp only [Function.comp_apply, e2]
  rw [← h]
  congr 1
  simp [Addr.add]

theorem bytes_in {H : Type} {enc : TypeId × Value → H} {W : World} {base : Nat} {v : Value} {d : DataW H} {p : List MemPlace} {ds : List (DataW H)} {ts : List TypeId} {j : Nat} (pl : v = .slice none 0 0 ∨ ∃ g off len cap, v = .slice (some ⟨g, off, none⟩) len cap)
    (h : DataW.Trod enc Try.prog W 0 (fun _ => true) true 27 v d p) (hsz : (DataW.weightsEach Try.checked.prog ts ds).all (· ≤ reachBytes) = true) (ht : ts[j]? = some 27) (hd : ds[j]? = some d) : ∃ bs : List UInt8, bs.length ≤ 140737488351232 ∧ IsBytes W v bs := by
  obtain ⟨fuel, hf⟩ := h
  rcases open_ints Try.underlying27 Try.underlying5 (by kernel_rfl) hf with ⟨hcs, _⟩ | ⟨x, l, c, zs, hcs, _, hl, hm, hz, hx, hcell, hwz⟩
  · have e : v = .slice none 0 0 := by
      rcases pl with rfl | ⟨g, off, len, cap, rfl⟩
      · rfl
      · simp [Value.cells] at hcs
    subst e
    exact ⟨[], by simp, .inl ⟨rfl, rfl, rfl⟩⟩
  · rcases pl with rfl | ⟨g, off, len, cap, rfl⟩
    · simp [Value.cells] at hcs
    simp [Value.cells] at hcs
    obtain ⟨rfl, rfl, rfl⟩ := hcs
    have hz : zs.length = cap := by simpa using hz
    obtain ⟨bs, hb, hB⟩ := bytes_of hl hz hcell hwz
    refine ⟨bs, ?_, hB⟩
    simp only [Prod.mk.injEq] at hx
    rw [hx.1] at hd
    have hs := sized_slice hsz ht hd Try.underlying27
    have hby : Try.checked.prog.bytesOf 5 = 1 := by kernel_rfl
    have hr : reachBytes = 140737488351232 := by decide
    have hle : (lits (H := H) .u8 (zs.take len)).length = len := by simp [lits]; omega
    rw [hle, hby, hr] at hs
    rw [hb]
    omega

/-! ### STEP 1: THE WALK -/
theorem walk (a0 a1 a2 : Value) (b1 b2 : List UInt8) (ops : List OpV) (w : World) (w0 : IsBytes w a0 b1) (hl1 : b1.length ≤ 140737488351232) (w1 : IsBytes w a1 b2) (hl2 : b2.length ≤ 140737488351232) (w2 : Sep.Rd w a2 ops.length (flat ops)) (hok : ∀ o ∈ ops, o.ok) (hl3 : ops.length ≤ 3900000000000) :
    Calls Try.prog 4 #[a0, a1, a2] w fun e w' => e = .returned (.bool true) ∧ Below w.heap.size w w' := by
  have h := wreads_spec (K := fun v w' => v = .bool true ∧ Below w.heap.size w w') (X := fun _ _ => False) w0 w1 w2 hok hl1 hl2 hl3 (Sep.St.start w) (fun w' H => ⟨rfl, H.below⟩)
  refine h.comes.mono fun e w' he => ?_
  cases e with
  | returned v => exact ⟨by rw [he.1], he.2⟩
  | panicked c => exact he.elim
  | outgrown => exact he.elim

/-! ### THE ROW's STEP: WRITTEN OUT: LEAVE IT -/
set_option maxRecDepth 100000 in
theorem lifted (os : Os) (started : os.Started) (H : Type) (enc : TypeId × Value → H) :
    ReturnsInHanded {} Try.checked os 4 .any (Rows.wireReadsSpec.pre6 enc Try.prog Try.f4 Rows.wireReadsRow.domain false) (Rows.wireReadsSpec.post enc Try.prog Try.f4 false true false false) := by
  refine returnsInHanded_of_change_sized (C := Try.checked) own started (by kernel_rfl) Try.func4
    (ChangeSpec.witness6 (enc := enc) (C := Try.checked) false ⟨#[], #[.slice none 0 0, .slice none 0 0, .slice none 0 0], []⟩ 8 (by kernel_rfl) (by kernel_rfl) (by kernel_rfl) (by kernel_rfl)) ?_
  intro W base args ds gs before hval0 hW hcnd hsz _
  have hval : ∀ (j : Nat) t v, Try.f4.params[j]? = some t → args[j]? = some v → Value.okWide Try.prog W .any base t v := hval0
  have hW' := hW
  obtain ⟨p, q, hA0, hV, rfl, hfz, hnd⟩ := hW
  have hA : DataW.TrodAll enc Try.prog W 0 (fun _ => true) true Try.f4.params.toList args.toList ds p := hA0
  rw [Try.params4] at hA hval
  obtain ⟨v0, vs0, d0, ds0, p0, q0, hargs, rfl, rfl, h0, r0⟩ := trodAll_cons hA
  obtain ⟨v1, vs1, d1, ds1, p1, q1, rfl, rfl, rfl, h1, r1⟩ := trodAll_cons r0
  obtain ⟨v2, vs2, d2, ds2, p2, q2, rfl, rfl, rfl, h2, r2⟩ := trodAll_cons r1
  obtain ⟨rfl, rfl, rfl⟩ := trodAll_nil r2
  obtain rfl : args = #[v0, v1, v2] := by cases args; simp_all
  obtain ⟨rfl, rfl⟩ := trodVars_none hV
  have pl0 := slice_plain Try.underlying27 (hval 0 27 v0 rfl rfl)
  have pl1 := slice_plain Try.underlying27 (hval 1 27 v1 rfl rfl)
  have pl2 := slice_plain Try.underlying22 (hval 2 22 v2 rfl rfl)
  have k0 := h0
  have lt0 : ∀ x ∈ p0, x.block < W.heap.size := by obtain ⟨m, hm⟩ := k0; exact DataW.trod_lt m _ _ _ hm
  have k1 := h1
  have lt1 : ∀ x ∈ p1, x.block < W.heap.size := by obtain ⟨m, hm⟩ := k1; exact DataW.trod_lt m _ _ _ hm
  have k2 := h2
  have lt2 : ∀ x ∈ p2, x.block < W.heap.size := by obtain ⟨m, hm⟩ := k2; exact DataW.trod_lt m _ _ _ hm
  obtain ⟨b1, hl1, w0⟩ := bytes_in (base := base) pl0 h0 hsz (j := 0) rfl rfl
  obtain ⟨b2, hl2, w1⟩ := bytes_in (base := base) pl1 h1 hsz (j := 1) rfl rfl
  obtain ⟨ops, w2, hok, hlen⟩ := ops_open pl2 k2.choose_spec
  have hl3 : ops.length ≤ 3900000000000 := by
    rcases hlen with ⟨_, rfl⟩ | ⟨elems, rest, hd, hlen⟩
    · simp
    · simp only at hd
      rw [hd] at hsz
      have hs := sized_slice hsz (j := 2) (t := 22) rfl rfl Try.underlying22
      have hby : Try.checked.prog.bytesOf 37 = 56 := by kernel_rfl
      have hr : reachBytes = 140737488351232 := by decide
      rw [hby, hr] at hs
      omega
  clear hA0 hval0
  refine (walk v0 v1 v2 b1 b2 ops W w0 hl1 w1 hl2 w2 hok hl3).mono fun e W' ⟨he, bel⟩ => ?_
  subst he
  exact ⟨_, rfl, _, _, _, [], _, [], hW', trodAll_mk1 (shut_bool Try.underlying4 _), (trodAll_cons_mk (Below.trod laidOut (by kernel_rfl) (of_decide_eq_true (by kernel_rfl)) k0 bel lt0) (trodAll_cons_mk (Below.trod laidOut (by kernel_rfl) (of_decide_eq_true (by kernel_rfl)) k1 bel lt1) (trodAll_cons_mk (Below.trod laidOut (by kernel_rfl) (of_decide_eq_true (by kernel_rfl)) k2 bel lt2) trodAll_mk0))), rfl, bel.frame _, fun h => by cases h⟩

theorem over : Rows.wireReadsRow.holds Try.pinned (OpenSpec.ofChange Rows.wireReadsSpec) :=
  OpenClaim.holds_of_wide 4 Try.f4 rfl rfl rfl rfl rfl rfl rfl ⟨rfl, rfl, rfl, rfl, rfl⟩ rfl rfl rfl rfl rfl (by kernel_rfl) Try.func4 (by kernel_rfl)
    (of_decide_eq_true (by kernel_rfl)) (by unfold Func.isWrapper; first | (rw [if_pos (by decide +kernel)]; kernel_rfl) | (rw [if_neg (by decide +kernel)]; exact ⟨rfl, rfl⟩))
    (fun os started H enc _ => lifted os started H enc)

/-- ████ THE STATEMENT ████ -/
theorem proved : Rows.WireReadsSaid := over
end Go.Proofs.Ytpfbpjoknlcbkaa.wireReads
