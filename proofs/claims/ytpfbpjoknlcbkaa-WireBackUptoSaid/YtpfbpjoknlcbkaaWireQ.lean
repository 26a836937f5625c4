/-
  A script as it comes in, each operation's bytes too; how many they are at most.
-/
import Derived.Test.YtpfbpjoknlcbkaaRows
import Derived.Test.YtpfbpjoknlcbkaaWireP
import Derived.ChangeSlices
import Derived.DataReads
namespace Go.Proofs.Ytpfbpjoknlcbkaa
open Go.Vc Go.Sep Go.Ops
set_option linter.unusedVariables false
set_option linter.unusedSectionVars false
set_option linter.unusedSimpArgs false

section
variable {H : Type} {enc : TypeId × Value → H} {w : World} {base : Nat} {spare : Nat → Bool} {held : Bool}
theorem bulk_one (d : DataW H) : 1 ≤ Rows.uptoBulk d := by
  cases d with
  | lit l => cases l <;> simp [Rows.uptoBulk]
  | nil => simp [Rows.uptoBulk]
  | ptr d => simp [Rows.uptoBulk]
  | slice elems spare => simp [Rows.uptoBulk]
  | agg parts => simp [Rows.uptoBulk]
  | iface t d => simp [Rows.uptoBulk]
  | map entries => simp [Rows.uptoBulk]
  | held h => simp [Rows.uptoBulk]
theorem bulk_part {d : DataW H} {l : List (DataW H)} (h : d ∈ l) : Rows.uptoBulk d ≤ Rows.uptoBulkAll l := by
  induction l with
  | nil => cases h
  | cons x r ih =>
    simp only [Rows.uptoBulkAll]
    rcases List.mem_cons.1 h with e | e
    · subst e; omega
    · have := ih e; omega
theorem bulk_length (l : List (DataW H)) : l.length ≤ Rows.uptoBulkAll l := by
  induction l with
  | nil => simp [Rows.uptoBulkAll]
  | cons x r ih => have := bulk_one x; simp only [Rows.uptoBulkAll, List.length_cons]; omega
theorem bulk_slice (elems rest : List (DataW H)) : Rows.uptoBulkAll elems ≤ Rows.uptoBulk (.slice elems rest) := by
  simp only [Rows.uptoBulk]; omega
theorem bulk_agg (parts : List (DataW H)) : Rows.uptoBulkAll parts ≤ Rows.uptoBulk (.agg parts) := by
  simp only [Rows.uptoBulk]; omega

theorem bytes_of' {g off len cap : Nat} {zs : List Int} (hl : len ≤ cap) (hz : len ≤ zs.length) (hc : ∀ i, i < zs.length → w.cell? (Addr.add ⟨g, off, none⟩ i) = some (.int .u8 (zs.getD i 0))) (hw : ∀ n ∈ zs, (Lit.int .u8 n).wf = true) :
    ∃ bs : List UInt8, bs.length = len ∧ Rd w (.slice (some ⟨g, off, none⟩) len cap) bs.length (bv bs) := by
  refine ⟨(zs.take len).map fun n => UInt8.ofNat n.toNat, by simp; omega, .inr ⟨g, off, cap, by simp; omega, by simp; omega, ?_⟩⟩
  intro j u hj
  simp only [bv, List.map_map, List.getElem?_map, Option.map_eq_some_iff] at hj
  obtain ⟨n, hn, rfl⟩ := hj
  have hjl : j < len := by
    have := (List.getElem?_eq_some_iff.1 hn).1
    simp at this; omega
  rw [List.getElem?_take_of_lt hjl] at hn
  have hjz : j < zs.length := by omega
  have h := hc j hjz
  have e : zs.getD j 0 = n := by simp [List.getD, hn]
  rw [e] at h
  have hw := hw n (List.mem_of_getElem? hn)
  simp [Lit.wf, IntKind.min, IntKind.max, IntKind.signed, IntKind.bits] at hw
  have e2 : (((UInt8.ofNat n.toNat).toNat : Nat) : Int) = n := by simp; omega
  simp only [Function.comp_apply, e2]
  rw [← h]
  congr 1
  simp [Addr.add]
theorem bytes_open {fuel : Nat} {c : Value} {x : DataW H × List MemPlace} (h : DataW.trod enc Try.prog w base (fun _ => true) held fuel 27 [c] = some x) : ∃ xs : List UInt8, Rd0 w c xs.length (bv xs) ∧ xs.length ≤ Rows.uptoBulk x.1 := by
  rcases ChangeShapes.open_ints Try.underlying27 Try.underlying5 (by kernel_rfl) h with ⟨hcs, _⟩ | ⟨a, len, cap, zs, hcs, _, hl, hm, hz, hx, hcell, hwz⟩
  · simp at hcs
    subst hcs
    exact ⟨[], .inl (.inl ⟨rfl, rfl, rfl⟩), by simp⟩
  · simp at hcs
    subst hcs
    simp at hz
    rcases Nat.eq_zero_or_pos len with rfl | hpos
    · exact ⟨[], .inr ⟨a, cap, rfl, rfl, rfl⟩, by simp⟩
    · obtain ⟨g, off, spot⟩ := a
      have h0 := hcell 0 (by omega)
      have hs := World.cell?_spot h0
      simp [Addr.add] at hs
      subst hs
      obtain ⟨bs, hb, hB⟩ := bytes_of' hl (by omega) hcell hwz
      refine ⟨bs, .inl hB, ?_⟩
      rw [hb, hx]
      refine Nat.le_trans ?_ (bulk_slice _ _)
      refine Nat.le_trans ?_ (bulk_length _)
      simp [ChangeShapes.lits]
      omega
theorem op_openB {fuel : Nat} {cs : List Value} {x : DataW H × List MemPlace} (h : DataW.trod enc Try.prog w base (fun _ => true) held fuel 37 cs = some x) : ∃ o : OpV, cs = o.cs ∧ o.ok ∧ ∃ xs : List UInt8, Rd0 w o.b xs.length (bv xs) ∧ xs.length ≤ Rows.uptoBulk x.1 := by
  obtain ⟨o, rfl, hok⟩ := op_open h
  obtain ⟨xs, n, rfl, rfl, hl, hlen, hf⟩ := DataW.trod_struct Try.underlying37 h
  have c27 : Try.prog.cellsOf 27 = 1 := by kernel_rfl
  have f4 := hf 4 _ rfl
  have hlen : xs.length = 5 := hlen
  obtain ⟨x4, e4⟩ := some_of (i := 4) hlen (by omega)
  rw [e4] at f4
  change DataW.trod enc Try.prog w base (fun _ => true) held n 27 (List.take (Try.prog.cellsOf 27) [o.b]) = some x4 at f4
  rw [c27] at f4
  obtain ⟨bs, h1, h2⟩ := bytes_open f4
  refine ⟨o, rfl, hok, bs, h1, ?_⟩
  have hm : x4 ∈ xs := List.mem_of_getElem? e4
  have h3 := bulk_part (d := x4.1) (l := xs.map Prod.fst) (List.mem_map_of_mem hm)
  have h4 := bulk_agg (xs.map Prod.fst)
  exact Nat.le_trans h2 (Nat.le_trans h3 h4)

theorem ops_openB {v : Value} {fuel : Nat} {x : DataW H × List MemPlace} (hv : v = .slice none 0 0 ∨ ∃ g off len cap, v = .slice (some ⟨g, off, none⟩) len cap) (h : DataW.trod enc Try.prog w 0 (fun _ => true) held fuel 22 v.cells.toList = some x) :
    ∃ ops : List OpV, Rd w v ops.length (flat ops) ∧ (∀ o ∈ ops, o.ok) ∧ (∀ o ∈ ops, ∃ xs : List UInt8, Rd0 w o.b xs.length (bv xs) ∧ xs.length ≤ Rows.uptoBulk x.1) ∧ ops.length ≤ Rows.uptoBulk x.1 := by
  rcases DataW.trod_slice Try.underlying22 h with ⟨h1, h2⟩ | ⟨a, len, cap, elems, rest, n, _, h1, rfl, _, hl, hm, hlen, hel, _, _⟩
  · rcases hv with rfl | ⟨g, off, len, cap, rfl⟩
    · exact ⟨[], .inl ⟨rfl, rfl, rfl⟩, by simp, by simp, by simp⟩
    · simp [Value.cells] at h1
  · rcases hv with rfl | ⟨g, off, len', cap', rfl⟩
    · simp [Value.cells] at h1
    simp [Value.cells] at h1
    obtain ⟨rfl, rfl, rfl⟩ := h1
    have h5 : Try.prog.cellsOf 37 = 5 := by kernel_rfl
    have hbl := bulk_slice (elems.map Prod.fst) (rest.map Prod.fst)
    have one : ∀ i, i < len' → ∃ o : OpV, o.ok ∧ (∀ j u, o.cs[j]? = some u → w.cell? ⟨g, off + (i * 5 + j), none⟩ = some u) ∧ ∃ xs : List UInt8, Rd0 w o.b xs.length (bv xs) ∧ xs.length ≤ Rows.uptoBulk (.slice (elems.map Prod.fst) (rest.map Prod.fst)) := by
      intro i hi
      have hi2 := hel i hi
      rw [List.getElem?_eq_getElem (by omega)] at hi2
      obtain ⟨cs, hc, ht⟩ := Option.bind_eq_some_iff.1 hi2
      obtain ⟨o, rfl, hok, bs, hb1, hb2⟩ := op_openB ht
      have hpm := bulk_part (d := elems[i].1) (l := elems.map Prod.fst) (List.mem_map_of_mem (List.getElem_mem _))
      refine ⟨o, hok, fun j u hj => ?_, bs, hb1, by omega⟩
      have := (cells_get hc).2 j u hj
      rw [h5] at this
      have e1 : Addr.add ⟨g, off, none⟩ (i * 5) = ⟨g, off + i * 5, none⟩ := by by_cases h : i * 5 = 0 <;> simp [Addr.add, h]
      have e2 : Addr.add ⟨g, off + i * 5, none⟩ j = ⟨g, off + i * 5 + j, none⟩ := by by_cases h : j = 0 <;> simp [Addr.add, h]
      rw [e1, e2, Nat.add_assoc] at this
      exact this
    have one' : ∃ f : Nat → OpV, ∀ i, i < len' → (f i).ok ∧ (∀ j u, (f i).cs[j]? = some u → w.cell? ⟨g, off + (i * 5 + j), none⟩ = some u) ∧ ∃ xs : List UInt8, Rd0 w (f i).b xs.length (bv xs) ∧ xs.length ≤ Rows.uptoBulk (.slice (elems.map Prod.fst) (rest.map Prod.fst)) := by
      refine ⟨fun i => if h : i < len' then Classical.choose (one i h) else ⟨0, false, 0, 0, .nilIface⟩, fun i hi => ?_⟩
      simp only [dif_pos hi]
      exact Classical.choose_spec (one i hi)
    obtain ⟨f, hf⟩ := one'
    refine ⟨(List.range len').map f, ?_, ?_, ?_, ?_⟩
    · refine .inr ⟨g, off, cap', by simp, by simpa using hl, ?_⟩
      intro m u hm
      obtain ⟨i, j, o, h1, rfl, h3⟩ := flat_inv _ _ _ hm
      simp only [List.getElem?_map, Option.map_eq_some_iff] at h1
      obtain ⟨i', hi', rfl⟩ := h1
      have hil : i < len' := by
        have := (List.getElem?_eq_some_iff.1 hi').1
        simpa using this
      have : i' = i := by
        rw [List.getElem?_range hil] at hi'
        exact (Option.some.inj hi').symm
      subst this
      exact (hf i' hil).2.1 j u h3
    · intro o ho
      obtain ⟨i, hi, rfl⟩ := List.mem_map.1 ho
      exact (hf i (List.mem_range.1 hi)).1
    · intro o ho
      obtain ⟨i, hi, rfl⟩ := List.mem_map.1 ho
      exact (hf i (List.mem_range.1 hi)).2.2
    · have := bulk_length (elems.map Prod.fst)
      refine Nat.le_trans ?_ (Nat.le_trans this hbl)
      simp
      omega
end
end Go.Proofs.Ytpfbpjoknlcbkaa
