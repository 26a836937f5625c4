/-
  A script, as it comes in.
-/
import Derived.Test.YtpfbpjoknlcbkaaWireK
import Derived.ChangeArms
namespace Go.Proofs.Ytpfbpjoknlcbkaa
open Go.Vc Go.Sep Go.Ops
set_option linter.unusedVariables false
set_option linter.unusedSectionVars false
set_option linter.unusedSimpArgs false

theorem flat_inv : ∀ (ops : List OpV) (m : Nat) (u : Value), (flat ops)[m]? = some u → ∃ i j o, ops[i]? = some o ∧ m = i * 5 + j ∧ o.cs[j]? = some u
  | [], m, u, h => by simp [flat] at h
  | p :: r, m, u, h => by
    simp only [flat, List.flatMap_cons] at h
    by_cases hm : m < 5
    · rw [List.getElem?_append_left (by simpa [OpV.cs] using hm)] at h
      exact ⟨0, m, p, rfl, by omega, h⟩
    · rw [List.getElem?_append_right (by simp [OpV.cs]; omega)] at h
      obtain ⟨i, j, o, h1, h2, h3⟩ := flat_inv r _ u h
      refine ⟨i + 1, j, o, by simpa using h1, ?_, h3⟩
      simp [OpV.cs] at h2
      omega
section
variable {H : Type} {enc : TypeId × Value → H} {P : Program} {w : World} {base : Nat} {spare : Nat → Bool} {held : Bool}
theorem trod_int1 {t fuel : Nat} {k : IntKind} {c : Value} {x : DataW H × List MemPlace} (ht : P.underlying t = some (.int k)) (h : DataW.trod enc P w base spare held fuel t [c] = some x) : ∃ n, c = .int k n ∧ (Lit.int k n).wf = true := by
  cases fuel with
  | zero => simp [DataW.trod] at h
  | succ f =>
    unfold DataW.trod at h
    rw [ht] at h
    cases c <;> simp_all
theorem trod_bool1 {t fuel : Nat} {c : Value} {x : DataW H × List MemPlace} (ht : P.underlying t = some .bool) (h : DataW.trod enc P w base spare held fuel t [c] = some x) : ∃ b, c = .bool b := by
  cases fuel with
  | zero => simp [DataW.trod] at h
  | succ f =>
    unfold DataW.trod at h
    rw [ht] at h
    cases c <;> simp_all

theorem some_of {α : Type} {l : List α} {n i : Nat} (h : l.length = n) (hi : i < n) : ∃ x, l[i]? = some x := ⟨_, List.getElem?_eq_getElem (by omega)⟩
theorem op_open {fuel : Nat} {cs : List Value} {x : DataW H × List MemPlace} (h : DataW.trod enc Try.prog w base spare held fuel 37 cs = some x) : ∃ o : OpV, cs = o.cs ∧ o.ok := by
  obtain ⟨xs, n, rfl, rfl, hl, hlen, hf⟩ := DataW.trod_struct Try.underlying37 h
  have h5 : Try.prog.cellsOf 37 = 5 := by kernel_rfl
  have c3 : Try.prog.cellsOf 3 = 1 := by kernel_rfl
  have c4 : Try.prog.cellsOf 4 = 1 := by kernel_rfl
  have c35 : Try.prog.cellsOf 35 = 1 := by kernel_rfl
  have c2 : Try.prog.cellsOf 2 = 1 := by kernel_rfl
  rw [h5] at hl
  match cs, hl with
  | [k0, k1, k2, k3, k4], _ =>
    have f0 := hf 0 _ rfl
    have f1 := hf 1 _ rfl
    have f2 := hf 2 _ rfl
    have f3 := hf 3 _ rfl
    have hlen : xs.length = 5 := hlen
    obtain ⟨x0, e0⟩ := some_of (i := 0) hlen (by omega)
    obtain ⟨x1, e1⟩ := some_of (i := 1) hlen (by omega)
    obtain ⟨x2, e2⟩ := some_of (i := 2) hlen (by omega)
    obtain ⟨x3, e3⟩ := some_of (i := 3) hlen (by omega)
    rw [e0] at f0
    rw [e1] at f1
    rw [e2] at f2
    rw [e3] at f3
    change DataW.trod enc Try.prog w base spare held n 3 (List.take (Try.prog.cellsOf 3) [k0, k1, k2, k3, k4]) = some x0 at f0
    rw [c3] at f0
    change DataW.trod enc Try.prog w base spare held n 4 (List.take (Try.prog.cellsOf 4) [k1, k2, k3, k4]) = some x1 at f1
    rw [c4] at f1
    change DataW.trod enc Try.prog w base spare held n 35 (List.take (Try.prog.cellsOf 35) [k2, k3, k4]) = some x2 at f2
    rw [c35] at f2
    change DataW.trod enc Try.prog w base spare held n 2 (List.take (Try.prog.cellsOf 2) [k3, k4]) = some x3 at f3
    rw [c2] at f3
    obtain ⟨a0, rfl, w0⟩ := trod_int1 Try.underlying3 f0
    obtain ⟨a1, rfl⟩ := trod_bool1 Try.underlying4 f1
    obtain ⟨a2, rfl, w2⟩ := trod_int1 Try.underlying35 f2
    obtain ⟨a3, rfl, w3⟩ := trod_int1 Try.underlying2 f3
    simp [Lit.wf, IntKind.min, IntKind.max, IntKind.signed, IntKind.bits] at w2 w3
    obtain ⟨v, rfl⟩ := Int.eq_ofNat_of_zero_le (show 0 ≤ a2 by omega)
    exact ⟨⟨a0, a1, v, a3, k4⟩, rfl, by simp only; omega, by simp only; omega, by simp only; omega⟩
theorem cells_get {a : Addr} {n : Nat} {cs : List Value} (h : w.cells? base a n = some cs) : cs.length = n ∧ ∀ j u, cs[j]? = some u → w.cell? (a.add j) = some u := by
  unfold World.cells? at h
  split at h
  · have h1 := mapM_some_length h
    refine ⟨by simpa using h1, ?_⟩
    intro j u hj
    have hjn : j < n := by
      have := (List.getElem?_eq_some_iff.1 hj).1
      have h1 : cs.length = n := by simpa using h1
      omega
    have := mapM_some_get h j j (by simp [hjn])
    rw [this]
    exact hj
  · cases h
theorem ops_open {v : Value} {fuel : Nat} {x : DataW H × List MemPlace} (hv : v = .slice none 0 0 ∨ ∃ g off len cap, v = .slice (some ⟨g, off, none⟩) len cap) (h : DataW.trod enc Try.prog w 0 spare held fuel 22 v.cells.toList = some x) :
    ∃ ops : List OpV, Rd w v ops.length (flat ops) ∧ (∀ o ∈ ops, o.ok) ∧ (v = .slice none 0 0 ∧ ops = [] ∨ ∃ elems rest, x.1 = .slice elems rest ∧ elems.length = ops.length) := by
  rcases DataW.trod_slice Try.underlying22 h with ⟨h1, h2⟩ | ⟨a, len, cap, elems, rest, n, _, h1, rfl, _, hl, hm, hlen, hel, _, _⟩
  · rcases hv with rfl | ⟨g, off, len, cap, rfl⟩
    · exact ⟨[], .inl ⟨rfl, rfl, rfl⟩, by simp, .inl ⟨rfl, rfl⟩⟩
    · simp [Value.cells] at h1
  · rcases hv with rfl | ⟨g, off, len', cap', rfl⟩
    · simp [Value.cells] at h1
    simp [Value.cells] at h1
    obtain ⟨rfl, rfl, rfl⟩ := h1
    have h5 : Try.prog.cellsOf 37 = 5 := by kernel_rfl
    have one : ∀ i, i < len' → ∃ o : OpV, o.ok ∧ ∀ j u, o.cs[j]? = some u → w.cell? ⟨g, off + (i * 5 + j), none⟩ = some u := by
      intro i hi
      have hi2 := hel i hi
      rw [List.getElem?_eq_getElem (by omega)] at hi2
      obtain ⟨cs, hc, ht⟩ := Option.bind_eq_some_iff.1 hi2
      obtain ⟨o, rfl, hok⟩ := op_open ht
      refine ⟨o, hok, fun j u hj => ?_⟩
      have := (cells_get hc).2 j u hj
      rw [h5] at this
      have e1 : Addr.add ⟨g, off, none⟩ (i * 5) = ⟨g, off + i * 5, none⟩ := by by_cases h : i * 5 = 0 <;> simp [Addr.add, h]
      have e2 : Addr.add ⟨g, off + i * 5, none⟩ j = ⟨g, off + i * 5 + j, none⟩ := by by_cases h : j = 0 <;> simp [Addr.add, h]
      rw [e1, e2, Nat.add_assoc] at this
      exact this
    have one' : ∃ f : Nat → OpV, ∀ i, i < len' → (f i).ok ∧ ∀ j u, (f i).cs[j]? = some u → w.cell? ⟨g, off + (i * 5 + j), none⟩ = some u := by
      refine ⟨fun i => if h : i < len' then Classical.choose (one i h) else ⟨0, false, 0, 0, .nilIface⟩, fun i hi => ?_⟩
      simp only [dif_pos hi]
      exact Classical.choose_spec (one i hi)
    obtain ⟨f, hf⟩ := one'
    refine ⟨(List.range len').map f, ?_, ?_, .inr ⟨_, _, rfl, by simpa using hlen⟩⟩
    · refine .inr ⟨g, off, cap', by simp, by simpa using hl, ?_⟩
      intro m u hm
      obtain ⟨i, j, o, h1, rfl, h3⟩ := flat_inv _ _ _ hm
      simp only [List.getElem?_map, Option.map_eq_some_iff] at h1
      obtain ⟨i', hi', rfl⟩ := h1
      have hil : i < len' := by
        have := (List.getElem?_eq_some_iff.1 hi').1
        simpa using this
      have : i' = i := by
        rw [List.getElem?_range hil] at hi'
        exact (Option.some.inj hi').symm
      subst this
      exact (hf i' hil).2 j u h3
    · intro o ho
      obtain ⟨i, hi, rfl⟩ := List.mem_map.1 ho
      exact (hf i (List.mem_range.1 hi)).1
end
end Go.Proofs.Ytpfbpjoknlcbkaa
