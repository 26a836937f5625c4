/-
  A graph as it comes in.
-/
import Derived.Test.YtdmocobabpmoeaaDraftO
import Derived.ChangeArms
import Derived.SizedLaws
import Derived.OpenShut
namespace Go.Proofs.Ytdmocobabpmoeaa
open Go.Vc Go.Sep Go.Ops
set_option linter.unusedVariables false
set_option linter.unusedSectionVars false
set_option linter.unusedSimpArgs false

theorem len2 {α : Type} {l : List α} (h : l.length = 2) : ∃ a b, l = [a, b] := by
  match l, h with
  | [a, b], _ => exact ⟨a, b, rfl⟩
theorem len3 {α : Type} {l : List α} (h : l.length = 3) : ∃ a b c, l = [a, b, c] := by
  match l, h with
  | [a, b, c], _ => exact ⟨a, b, c, rfl⟩
theorem len5 {α : Type} {l : List α} (h : l.length = 5) : ∃ a b c d e, l = [a, b, c, d, e] := by
  match l, h with
  | [a, b, c, d, e], _ => exact ⟨a, b, c, d, e, rfl⟩
theorem len10 {α : Type} {l : List α} (h : l.length = 10) : ∃ a b c d e f g i j k, l = [a, b, c, d, e, f, g, i, j, k] := by
  match l, h with
  | [a, b, c, d, e, f, g, i, j, k], _ => exact ⟨a, b, c, d, e, f, g, i, j, k, rfl⟩
theorem fl_inv {α : Type} {f : α → List Value} {s : Nat} (hf : ∀ x, (f x).length = s) : ∀ (l : List α) (m : Nat) (u : Value), (fl f l)[m]? = some u → ∃ i j o, l[i]? = some o ∧ m = i * s + j ∧ (f o)[j]? = some u
  | [], m, u, h => by simp [fl] at h
  | p :: r, m, u, h => by
    simp only [fl, List.flatMap_cons] at h
    by_cases hm : m < s
    · rw [List.getElem?_append_left (by rw [hf]; exact hm)] at h
      exact ⟨0, m, p, rfl, by omega, h⟩
    · rw [List.getElem?_append_right (by rw [hf]; omega)] at h
      obtain ⟨i, j, o, h1, h2, h3⟩ := fl_inv hf r _ u h
      refine ⟨i + 1, j, o, by simpa using h1, ?_, h3⟩
      rw [hf] at h2
      rw [Nat.succ_mul]
      omega
/-- the memory holds it, as Go's own bounds are -/
def NodeV.fits (n : NodeV) : Prop := n.code.length * 16 ≤ 140737488351232 ∧ n.conns.length * 40 ≤ 140737488351232
def GraphV.fits (g : GraphV) : Prop := g.nodes.length * 112 ≤ 140737488351232 ∧ g.edges.length * 40 ≤ 140737488351232 ∧ ∀ n ∈ g.nodes, n.fits
section
variable {H : Type} {enc : TypeId × Value → H} {P : Program} {w : World} {base : Nat} {spare : Nat → Bool} {held : Bool}
def Sm (P : Program) (t : TypeId) (d : DataW H) : Prop := ∀ n ∈ d.weights P t, n ≤ reachBytes
theorem sm_each {ts : List TypeId} {ds : List (DataW H)} (h : (DataW.weightsEach P ts ds).all (· ≤ reachBytes) = true) {j : Nat} {t : TypeId} {d : DataW H} (ht : ts[j]? = some t) (hd : ds[j]? = some d) : Sm P t d := by
  intro n hn
  have := List.all_eq_true.1 h _ (DataW.weights_mem_each ht hd n hn)
  simpa using this
theorem sm_struct {t : TypeId} {fs : Array Field} {parts : List (DataW H)} (hu : P.underlying t = some (.struct fs)) (h : Sm P t (.agg parts)) {i : Nat} {f : Field} {d : DataW H} (hf : fs[i]? = some f) (hd : parts[i]? = some d) : Sm P f.type d := by
  intro n hn
  refine h n ?_
  simp only [DataW.weights, hu]
  exact DataW.weights_mem_each (j := i) (by simp [hf]) hd n hn
theorem weights_mem_all {e : TypeId} {n : Nat} {d : DataW H} : ∀ {l : List (DataW H)}, d ∈ l → n ∈ d.weights P e → n ∈ DataW.weightsAll P e l
  | x :: r, h, hn => by
    simp only [DataW.weightsAll, List.mem_append]
    rcases List.mem_cons.1 h with rfl | h
    · exact .inl hn
    · exact .inr (weights_mem_all h hn)
theorem sm_slice {t e : TypeId} {elems rest : List (DataW H)} (hu : P.underlying t = some (.slice e)) (h : Sm P t (.slice elems rest)) : (elems.length + rest.length) * P.bytesOf e ≤ reachBytes ∧ ∀ d ∈ elems, Sm P e d := by
  refine ⟨h _ (by simp [DataW.weights, hu]), fun d hd n hn => h n ?_⟩
  simp only [DataW.weights, hu, List.mem_cons, List.mem_append]
  exact .inr (.inl (weights_mem_all hd hn))
theorem trod_int1 {t fuel : Nat} {k : IntKind} {c : Value} {x : DataW H × List MemPlace} (ht : P.underlying t = some (.int k)) (h : DataW.trod enc P w base spare held fuel t [c] = some x) : ∃ n, c = .int k n ∧ (Lit.int k n).wf = true := by
  cases fuel with
  | zero => simp [DataW.trod] at h
  | succ f =>
    unfold DataW.trod at h
    rw [ht] at h
    cases c <;> simp_all
theorem trod_bool1 {t fuel : Nat} {c : Value} {x : DataW H × List MemPlace} (ht : P.underlying t = some .bool) (h : DataW.trod enc P w base spare held fuel t [c] = some x) : ∃ b, c = .bool b := by
  cases fuel with
  | zero => simp [DataW.trod] at h
  | succ f =>
    unfold DataW.trod at h
    rw [ht] at h
    cases c <;> simp_all
theorem some_of {α : Type} {l : List α} {n i : Nat} (h : l.length = n) (hi : i < n) : ∃ x, l[i]? = some x := ⟨_, List.getElem?_eq_getElem (by omega)⟩
theorem cells_get {a : Addr} {n : Nat} {cs : List Value} (h : w.cells? base a n = some cs) : cs.length = n ∧ ∀ j u, cs[j]? = some u → w.cell? (a.add j) = some u := by
  unfold World.cells? at h
  split at h
  · have h1 := mapM_some_length h
    refine ⟨by simpa using h1, ?_⟩
    intro j u hj
    have hjn : j < n := by
      have := (List.getElem?_eq_some_iff.1 hj).1
      have h1 : cs.length = n := by simpa using h1
      omega
    have := mapM_some_get h j j (by simp [hjn])
    rw [this]
    exact hj
  · cases h
theorem u64_nat {n : Int} (h : (Lit.int .u64 n).wf = true) : ∃ m : Nat, n = m ∧ m < 18446744073709551616 := by
  simp [Lit.wf, IntKind.min, IntKind.max, IntKind.signed, IntKind.bits] at h
  obtain ⟨m, rfl⟩ := Int.eq_ofNat_of_zero_le h.1
  exact ⟨m, rfl, by omega⟩
theorem i64_rng {n : Int} (h : (Lit.int .i64 n).wf = true) : i64r n := by
  simp [Lit.wf, IntKind.min, IntKind.max, IntKind.signed, IntKind.bits] at h
  exact ⟨by omega, by omega⟩
/-- A slice of rows as it comes in. -/
theorem rows_open {α : Type} {f : α → List Value} {Q : α → Prop} {s t e : Nat} (ht : P.underlying t = some (.slice e)) (hs : P.cellsOf e = s) (hs0 : 0 < s) (hf : ∀ o, (f o).length = s)
    (one : ∀ n cs x, DataW.trod enc P w base (fun _ => true) held n e cs = some x → Sm P e x.1 → ∃ o, cs = f o ∧ Q o) {fuel : Nat} {c : Value} {x : DataW H × List MemPlace} (h : DataW.trod enc P w base (fun _ => true) held fuel t [c] = some x) (hsm : Sm P t x.1) :
    ∃ l : List α, Rd0 w c l.length (fl f l) ∧ (∀ o ∈ l, Q o) ∧ l.length * P.bytesOf e ≤ reachBytes := by
  rcases DataW.trod_slice ht h with ⟨h1, h2⟩ | ⟨a, len, cap, elems, rest, n, _, h1, rfl, _, hl, hm, hlen, hel, _, _⟩
  · simp only [List.cons.injEq, and_true] at h1
    exact ⟨[], .inl (.inl ⟨h1, rfl, rfl⟩), by simp, by simp⟩
  · simp only [List.cons.injEq, and_true] at h1
    subst h1
    obtain ⟨hsz, hse⟩ := sm_slice ht hsm
    rcases Nat.eq_zero_or_pos len with rfl | hpos
    · exact ⟨[], .inr ⟨a, cap, rfl, rfl, rfl⟩, by simp, by simp⟩
    have one1 : ∀ i, i < len → ∃ o, Q o ∧ ∀ j u, (f o)[j]? = some u → w.cell? ((a.add (i * s)).add j) = some u := by
      intro i hi
      have hi2 := hel i hi
      rw [List.getElem?_eq_getElem (by omega)] at hi2
      obtain ⟨cs, hc, hx⟩ := Option.bind_eq_some_iff.1 hi2
      obtain ⟨o, rfl, hQ⟩ := one n cs _ hx (hse _ (List.mem_map_of_mem (List.getElem_mem _)))
      rw [hs] at hc
      exact ⟨o, hQ, (cells_get hc).2⟩
    have one' : ∃ F : Nat → Option α, ∀ i, i < len → ∃ o, F i = some o ∧ Q o ∧ ∀ j u, (f o)[j]? = some u → w.cell? ((a.add (i * s)).add j) = some u :=
      ⟨fun i => if h : i < len then some (Classical.choose (one1 i h)) else none, fun i hi => ⟨_, by simp only [dif_pos hi], Classical.choose_spec (one1 i hi)⟩⟩
    obtain ⟨F, hF⟩ := one'
    obtain ⟨g, off, spot⟩ := a
    have hspot : spot = none := by
      obtain ⟨o, _, _, h0⟩ := hF 0 hpos
      have hlen0 := hf o
      obtain ⟨u, hu⟩ : ∃ u, (f o)[0]? = some u := ⟨_, List.getElem?_eq_getElem (by omega)⟩
      have := World.cell?_spot (h0 0 u hu)
      simpa [Addr.add] using this
    subst hspot
    have hll : ((List.range len).filterMap F).length = len ∧ ∀ i, i < len → ((List.range len).filterMap F)[i]? = F i := by
      have key : ∀ (L : List Nat), (∀ i ∈ L, i < len) → (L.filterMap F).length = L.length ∧ ∀ (k i : Nat), L[k]? = some i → (L.filterMap F)[k]? = F i := by
        intro L
        induction L with
        | nil => intro _; simp
        | cons y r ih =>
          intro hL
          obtain ⟨o, ho, _⟩ := hF y (hL y (by simp))
          have ih := ih (fun i hi => hL i (by simp [hi]))
          simp only [List.filterMap_cons, ho]
          refine ⟨by simp [ih.1], fun k i hk => ?_⟩
          cases k with
          | zero => simp only [List.getElem?_cons_zero, Option.some.injEq] at hk; subst hk; simp [ho]
          | succ k => simpa using ih.2 k i (by simpa using hk)
      obtain ⟨k1, k2⟩ := key (List.range len) (fun i hi => List.mem_range.1 hi)
      exact ⟨by simpa using k1, fun i hi => k2 i i (by simp [hi])⟩
    refine ⟨(List.range len).filterMap F, .inl (.inr ⟨g, off, cap, by rw [hll.1], by rw [hll.1]; exact hl, ?_⟩), ?_, ?_⟩
    · intro m u hm
      obtain ⟨i, j, o, h1, rfl, h3⟩ := fl_inv hf _ _ _ hm
      have hil : i < len := by
        have := (List.getElem?_eq_some_iff.1 h1).1
        rw [hll.1] at this
        exact this
      rw [hll.2 i hil] at h1
      obtain ⟨o', ho', _, hc⟩ := hF i hil
      rw [ho'] at h1
      cases h1
      have := hc j u h3
      rwa [add_plain', add_plain', Nat.add_assoc] at this
    · intro o ho
      obtain ⟨i, hi, hFi⟩ := List.mem_filterMap.1 ho
      obtain ⟨o', ho', hQ, _⟩ := hF i (List.mem_range.1 hi)
      rw [ho'] at hFi
      cases hFi
      exact hQ
    · rw [hll.1]
      refine Nat.le_trans (Nat.mul_le_mul_right _ ?_) hsz
      simp only [List.length_map]
      omega
end
section
variable {H : Type} {enc : TypeId × Value → H} {w : World} {base : Nat} {held : Bool}
theorem op_open (n : Nat) (cs : List Value) (x : DataW H × List MemPlace) (h : DataW.trod enc Try.prog w base (fun _ => true) held n 61 cs = some x) (_ : Sm Try.prog 61 x.1) : ∃ o : OpD, cs = o.cs ∧ o.ok := by
  obtain ⟨xs, n, rfl, rfl, hl, hlen, hf⟩ := DataW.trod_struct Try.underlying61 h
  have hc : Try.prog.cellsOf 61 = 2 := by kernel_rfl
  have c3 : Try.prog.cellsOf 3 = 1 := by kernel_rfl
  have c54 : Try.prog.cellsOf 54 = 1 := by kernel_rfl
  rw [hc] at hl
  obtain ⟨k0, k1, rfl⟩ := len2 hl
  · skip
    have f0 := hf 0 _ rfl
    have f1 := hf 1 _ rfl
    have hlen : xs.length = 2 := hlen
    obtain ⟨x0, e0⟩ := some_of (i := 0) hlen (by omega)
    obtain ⟨x1, e1⟩ := some_of (i := 1) hlen (by omega)
    rw [e0] at f0
    rw [e1] at f1
    change DataW.trod enc Try.prog w base _ held n 3 (List.take (Try.prog.cellsOf 3) [k0, k1]) = some x0 at f0
    change DataW.trod enc Try.prog w base _ held n 54 (List.take (Try.prog.cellsOf 54) [k1]) = some x1 at f1
    rw [c3] at f0
    rw [c54] at f1
    obtain ⟨a0, rfl, w0⟩ := trod_int1 Try.underlying3 f0
    obtain ⟨a1, rfl, w1⟩ := trod_int1 Try.underlying54 f1
    obtain ⟨m, rfl, hm⟩ := u64_nat w1
    exact ⟨⟨a0, m⟩, rfl, i64_rng w0, hm⟩
theorem path_open (n : Nat) (cs : List Value) (x : DataW H × List MemPlace) (h : DataW.trod enc Try.prog w base (fun _ => true) held n 56 cs = some x) : ∃ a b c : Nat, cs = [.int .u64 a, .int .u64 b, .int .u64 c] ∧ a < 18446744073709551616 ∧ b < 18446744073709551616 ∧ c < 18446744073709551616 := by
  obtain ⟨xs, n, rfl, rfl, hl, hlen, hf⟩ := DataW.trod_struct Try.underlying56 h
  have hc : Try.prog.cellsOf 56 = 3 := by kernel_rfl
  have c54 : Try.prog.cellsOf 54 = 1 := by kernel_rfl
  rw [hc] at hl
  obtain ⟨k0, k1, k2, rfl⟩ := len3 hl
  · skip
    have f0 := hf 0 _ rfl
    have f1 := hf 1 _ rfl
    have f2 := hf 2 _ rfl
    have hlen : xs.length = 3 := hlen
    obtain ⟨x0, e0⟩ := some_of (i := 0) hlen (by omega)
    obtain ⟨x1, e1⟩ := some_of (i := 1) hlen (by omega)
    obtain ⟨x2, e2⟩ := some_of (i := 2) hlen (by omega)
    rw [e0] at f0
    rw [e1] at f1
    rw [e2] at f2
    change DataW.trod enc Try.prog w base _ held n 54 (List.take (Try.prog.cellsOf 54) [k0, k1, k2]) = some x0 at f0
    change DataW.trod enc Try.prog w base _ held n 54 (List.take (Try.prog.cellsOf 54) [k1, k2]) = some x1 at f1
    change DataW.trod enc Try.prog w base _ held n 54 (List.take (Try.prog.cellsOf 54) [k2]) = some x2 at f2
    rw [c54] at f0 f1 f2
    obtain ⟨a0, rfl, w0⟩ := trod_int1 Try.underlying54 f0
    obtain ⟨a1, rfl, w1⟩ := trod_int1 Try.underlying54 f1
    obtain ⟨a2, rfl, w2⟩ := trod_int1 Try.underlying54 f2
    obtain ⟨m0, rfl, hm0⟩ := u64_nat w0
    obtain ⟨m1, rfl, hm1⟩ := u64_nat w1
    obtain ⟨m2, rfl, hm2⟩ := u64_nat w2
    exact ⟨m0, m1, m2, rfl, hm0, hm1, hm2⟩
theorem conn_open (n : Nat) (cs : List Value) (x : DataW H × List MemPlace) (h : DataW.trod enc Try.prog w base (fun _ => true) held n 63 cs = some x) (_ : Sm Try.prog 63 x.1) : ∃ o : ConnD, cs = o.cs ∧ o.ok := by
  obtain ⟨xs, n, rfl, rfl, hl, hlen, hf⟩ := DataW.trod_struct Try.underlying63 h
  have hc : Try.prog.cellsOf 63 = 5 := by kernel_rfl
  have c3 : Try.prog.cellsOf 3 = 1 := by kernel_rfl
  have c56 : Try.prog.cellsOf 56 = 3 := by kernel_rfl
  rw [hc] at hl
  obtain ⟨k0, k1, k2, k3, k4, rfl⟩ := len5 hl
  · skip
    have f0 := hf 0 _ rfl
    have f1 := hf 1 _ rfl
    have f2 := hf 2 _ rfl
    have hlen : xs.length = 3 := hlen
    obtain ⟨x0, e0⟩ := some_of (i := 0) hlen (by omega)
    obtain ⟨x1, e1⟩ := some_of (i := 1) hlen (by omega)
    obtain ⟨x2, e2⟩ := some_of (i := 2) hlen (by omega)
    rw [e0] at f0
    rw [e1] at f1
    rw [e2] at f2
    change DataW.trod enc Try.prog w base _ held n 3 (List.take (Try.prog.cellsOf 3) [k0, k1, k2, k3, k4]) = some x0 at f0
    change DataW.trod enc Try.prog w base _ held n 3 (List.take (Try.prog.cellsOf 3) [k1, k2, k3, k4]) = some x1 at f1
    change DataW.trod enc Try.prog w base _ held n 56 (List.take (Try.prog.cellsOf 56) [k2, k3, k4]) = some x2 at f2
    rw [c3] at f0 f1
    rw [c56] at f2
    obtain ⟨a0, rfl, w0⟩ := trod_int1 Try.underlying3 f0
    obtain ⟨a1, rfl, w1⟩ := trod_int1 Try.underlying3 f1
    obtain ⟨a, b, c, hp, ha, hb, hcc⟩ := path_open _ _ _ f2
    simp at hp
    obtain ⟨rfl, rfl, rfl⟩ := hp
    exact ⟨⟨a0, a1, a, b, c⟩, rfl, i64_rng w0, i64_rng w1, ha, hb, hcc⟩
theorem edge_open (n : Nat) (cs : List Value) (x : DataW H × List MemPlace) (h : DataW.trod enc Try.prog w base (fun _ => true) held n 65 cs = some x) (_ : Sm Try.prog 65 x.1) : ∃ o : EdgeD, cs = o.cs ∧ o.ok := by
  obtain ⟨xs, n, rfl, rfl, hl, hlen, hf⟩ := DataW.trod_struct Try.underlying65 h
  have hc : Try.prog.cellsOf 65 = 5 := by kernel_rfl
  have c3 : Try.prog.cellsOf 3 = 1 := by kernel_rfl
  have c4 : Try.prog.cellsOf 4 = 1 := by kernel_rfl
  rw [hc] at hl
  obtain ⟨k0, k1, k2, k3, k4, rfl⟩ := len5 hl
  · skip
    have f0 := hf 0 _ rfl
    have f1 := hf 1 _ rfl
    have f2 := hf 2 _ rfl
    have f3 := hf 3 _ rfl
    have f4 := hf 4 _ rfl
    have hlen : xs.length = 5 := hlen
    obtain ⟨x0, e0⟩ := some_of (i := 0) hlen (by omega)
    obtain ⟨x1, e1⟩ := some_of (i := 1) hlen (by omega)
    obtain ⟨x2, e2⟩ := some_of (i := 2) hlen (by omega)
    obtain ⟨x3, e3⟩ := some_of (i := 3) hlen (by omega)
    obtain ⟨x4, e4⟩ := some_of (i := 4) hlen (by omega)
    rw [e0] at f0
    rw [e1] at f1
    rw [e2] at f2
    rw [e3] at f3
    rw [e4] at f4
    change DataW.trod enc Try.prog w base _ held n 3 (List.take (Try.prog.cellsOf 3) [k0, k1, k2, k3, k4]) = some x0 at f0
    change DataW.trod enc Try.prog w base _ held n 3 (List.take (Try.prog.cellsOf 3) [k1, k2, k3, k4]) = some x1 at f1
    change DataW.trod enc Try.prog w base _ held n 3 (List.take (Try.prog.cellsOf 3) [k2, k3, k4]) = some x2 at f2
    change DataW.trod enc Try.prog w base _ held n 3 (List.take (Try.prog.cellsOf 3) [k3, k4]) = some x3 at f3
    change DataW.trod enc Try.prog w base _ held n 4 (List.take (Try.prog.cellsOf 4) [k4]) = some x4 at f4
    rw [c3] at f0 f1 f2 f3
    rw [c4] at f4
    obtain ⟨a0, rfl, w0⟩ := trod_int1 Try.underlying3 f0
    obtain ⟨a1, rfl, w1⟩ := trod_int1 Try.underlying3 f1
    obtain ⟨a2, rfl, w2⟩ := trod_int1 Try.underlying3 f2
    obtain ⟨a3, rfl, w3⟩ := trod_int1 Try.underlying3 f3
    obtain ⟨a4, rfl⟩ := trod_bool1 Try.underlying4 f4
    exact ⟨⟨a0, a1, a2, a3, a4⟩, rfl, i64_rng w0, i64_rng w1, i64_rng w2, i64_rng w3⟩
theorem node_open2 (n : Nat) (cs : List Value) (x : DataW H × List MemPlace) (h : DataW.trod enc Try.prog w base (fun _ => true) held n 59 cs = some x) (hsm : Sm Try.prog 59 x.1) : ∃ o : NodeV, cs = o.cs ∧ o.ok ∧ NRd w o ∧ o.fits := by
  obtain ⟨xs, n, rfl, rfl, hl, hlen, hf⟩ := DataW.trod_struct Try.underlying59 h
  have hc : Try.prog.cellsOf 59 = 10 := by kernel_rfl
  have c3 : Try.prog.cellsOf 3 = 1 := by kernel_rfl
  have c4 : Try.prog.cellsOf 4 = 1 := by kernel_rfl
  have c53 : Try.prog.cellsOf 53 = 1 := by kernel_rfl
  have c54 : Try.prog.cellsOf 54 = 1 := by kernel_rfl
  have c56 : Try.prog.cellsOf 56 = 3 := by kernel_rfl
  have c57 : Try.prog.cellsOf 57 = 1 := by kernel_rfl
  have c61 : Try.prog.cellsOf 61 = 2 := by kernel_rfl
  have c63 : Try.prog.cellsOf 63 = 5 := by kernel_rfl
  rw [hc] at hl
  obtain ⟨k0, k1, k2, k3, k4, k5, k6, k7, k8, k9, rfl⟩ := len10 hl
  · skip
    have f0 := hf 0 _ rfl
    have f1 := hf 1 _ rfl
    have f2 := hf 2 _ rfl
    have f3 := hf 3 _ rfl
    have f4 := hf 4 _ rfl
    have f5 := hf 5 _ rfl
    have f6 := hf 6 _ rfl
    have f7 := hf 7 _ rfl
    have hlen : xs.length = 8 := hlen
    obtain ⟨x0, e0⟩ := some_of (i := 0) hlen (by omega)
    obtain ⟨x1, e1⟩ := some_of (i := 1) hlen (by omega)
    obtain ⟨x2, e2⟩ := some_of (i := 2) hlen (by omega)
    obtain ⟨x3, e3⟩ := some_of (i := 3) hlen (by omega)
    obtain ⟨x4, e4⟩ := some_of (i := 4) hlen (by omega)
    obtain ⟨x5, e5⟩ := some_of (i := 5) hlen (by omega)
    obtain ⟨x6, e6⟩ := some_of (i := 6) hlen (by omega)
    obtain ⟨x7, e7⟩ := some_of (i := 7) hlen (by omega)
    rw [e0] at f0
    rw [e1] at f1
    rw [e2] at f2
    rw [e3] at f3
    rw [e4] at f4
    rw [e5] at f5
    rw [e6] at f6
    rw [e7] at f7
    change DataW.trod enc Try.prog w base _ held n 3 (List.take (Try.prog.cellsOf 3) [k0, k1, k2, k3, k4, k5, k6, k7, k8, k9]) = some x0 at f0
    change DataW.trod enc Try.prog w base _ held n 3 (List.take (Try.prog.cellsOf 3) [k1, k2, k3, k4, k5, k6, k7, k8, k9]) = some x1 at f1
    change DataW.trod enc Try.prog w base _ held n 3 (List.take (Try.prog.cellsOf 3) [k2, k3, k4, k5, k6, k7, k8, k9]) = some x2 at f2
    change DataW.trod enc Try.prog w base _ held n 53 (List.take (Try.prog.cellsOf 53) [k3, k4, k5, k6, k7, k8, k9]) = some x3 at f3
    change DataW.trod enc Try.prog w base _ held n 56 (List.take (Try.prog.cellsOf 56) [k4, k5, k6, k7, k8, k9]) = some x4 at f4
    change DataW.trod enc Try.prog w base _ held n 54 (List.take (Try.prog.cellsOf 54) [k7, k8, k9]) = some x5 at f5
    change DataW.trod enc Try.prog w base _ held n 57 (List.take (Try.prog.cellsOf 57) [k8, k9]) = some x6 at f6
    change DataW.trod enc Try.prog w base _ held n 4 (List.take (Try.prog.cellsOf 4) [k9]) = some x7 at f7
    rw [c3] at f0 f1 f2
    rw [c53] at f3
    rw [c56] at f4
    rw [c54] at f5
    rw [c57] at f6
    rw [c4] at f7
    obtain ⟨a0, rfl, w0⟩ := trod_int1 Try.underlying3 f0
    obtain ⟨a1, rfl, w1⟩ := trod_int1 Try.underlying3 f1
    obtain ⟨a2, rfl, w2⟩ := trod_int1 Try.underlying3 f2
    obtain ⟨a, b, c, hp, ha, hb, hcc⟩ := path_open _ _ _ f4
    simp at hp
    obtain ⟨rfl, rfl, rfl⟩ := hp
    obtain ⟨a5, rfl, w5⟩ := trod_int1 Try.underlying54 f5
    obtain ⟨bd, rfl, hbd⟩ := u64_nat w5
    obtain ⟨a7, rfl⟩ := trod_bool1 Try.underlying4 f7
    have s3 : Sm Try.prog 53 x3.1 := sm_struct Try.underlying59 hsm (i := 3) rfl (by simp [e3])
    have s6 : Sm Try.prog 57 x6.1 := sm_struct Try.underlying59 hsm (i := 6) rfl (by simp [e6])
    obtain ⟨code, r1, q1, z1⟩ := rows_open (f := OpD.cs) Try.underlying53 c61 (by omega) OpD.len (fun n cs x => op_open n cs x) f3 s3
    obtain ⟨conns, r2, q2, z2⟩ := rows_open (f := ConnD.cs) Try.underlying57 c63 (by omega) ConnD.len (fun n cs x => conn_open n cs x) f6 s6
    have b61 : Try.prog.bytesOf 61 = 16 := by kernel_rfl
    have b63 : Try.prog.bytesOf 63 = 40 := by kernel_rfl
    have hr : reachBytes = 140737488351232 := by decide
    rw [b61, hr] at z1
    rw [b63, hr] at z2
    refine ⟨⟨a0, a1, a2, code, k3, a, b, c, bd, conns, k8, a7⟩, rfl, ?_, ⟨r1, r2⟩, by simp only [NodeV.fits]; omega⟩
    exact ⟨i64_rng w0, i64_rng w1, i64_rng w2, q1, ha, hb, hcc, hbd, q2, by simp only; omega, by simp only; omega⟩
theorem graph_open2 {n : Nat} {cs : List Value} {x : DataW H × List MemPlace} (h : DataW.trod enc Try.prog w base (fun _ => true) held n 25 cs = some x) (hsm : Sm Try.prog 25 x.1) : ∃ g : GraphV, cs = g.cs ∧ g.ok ∧ GRd w g ∧ g.fits := by
  obtain ⟨xs, n, rfl, rfl, hl, hlen, hf⟩ := DataW.trod_struct Try.underlying25 h
  have hc : Try.prog.cellsOf 25 = 3 := by kernel_rfl
  have c3 : Try.prog.cellsOf 3 = 1 := by kernel_rfl
  have c22 : Try.prog.cellsOf 22 = 1 := by kernel_rfl
  have c23 : Try.prog.cellsOf 23 = 1 := by kernel_rfl
  have c59 : Try.prog.cellsOf 59 = 10 := by kernel_rfl
  have c65 : Try.prog.cellsOf 65 = 5 := by kernel_rfl
  rw [hc] at hl
  obtain ⟨k0, k1, k2, rfl⟩ := len3 hl
  · skip
    have f0 := hf 0 _ rfl
    have f1 := hf 1 _ rfl
    have f2 := hf 2 _ rfl
    have hlen : xs.length = 3 := hlen
    obtain ⟨x0, e0⟩ := some_of (i := 0) hlen (by omega)
    obtain ⟨x1, e1⟩ := some_of (i := 1) hlen (by omega)
    obtain ⟨x2, e2⟩ := some_of (i := 2) hlen (by omega)
    rw [e0] at f0
    rw [e1] at f1
    rw [e2] at f2
    change DataW.trod enc Try.prog w base _ held n 3 (List.take (Try.prog.cellsOf 3) [k0, k1, k2]) = some x0 at f0
    change DataW.trod enc Try.prog w base _ held n 22 (List.take (Try.prog.cellsOf 22) [k1, k2]) = some x1 at f1
    change DataW.trod enc Try.prog w base _ held n 23 (List.take (Try.prog.cellsOf 23) [k2]) = some x2 at f2
    rw [c3] at f0
    rw [c22] at f1
    rw [c23] at f2
    obtain ⟨a0, rfl, w0⟩ := trod_int1 Try.underlying3 f0
    have s1 : Sm Try.prog 22 x1.1 := sm_struct Try.underlying25 hsm (i := 1) rfl (by simp [e1])
    have s2 : Sm Try.prog 23 x2.1 := sm_struct Try.underlying25 hsm (i := 2) rfl (by simp [e2])
    obtain ⟨nodes, r1, q1, z1⟩ := rows_open (f := NodeV.cs) Try.underlying22 c59 (by omega) NodeV.len (fun n cs x => node_open2 n cs x) f1 s1
    obtain ⟨edges, r2, q2, z2⟩ := rows_open (f := EdgeD.cs) Try.underlying23 c65 (by omega) EdgeD.len (fun n cs x => edge_open n cs x) f2 s2
    have b59 : Try.prog.bytesOf 59 = 112 := by kernel_rfl
    have b65 : Try.prog.bytesOf 65 = 40 := by kernel_rfl
    have hr : reachBytes = 140737488351232 := by decide
    rw [b59, hr] at z1
    rw [b65, hr] at z2
    refine ⟨⟨a0, nodes, k1, edges, k2⟩, rfl, ⟨i64_rng w0, fun n hn => (q1 n hn).1, q2, by simp only; omega, by simp only; omega⟩, ⟨r1, r2, fun n hn => (q1 n hn).2.1⟩, by simp only; omega, by simp only; omega, fun n hn => (q1 n hn).2.2⟩
theorem graph_open {n : Nat} {cs : List Value} {x : DataW H × List MemPlace} (h : DataW.trod enc Try.prog w base (fun _ => true) held n 25 cs = some x) (hsm : Sm Try.prog 25 x.1) : ∃ g : GraphV, cs = g.cs ∧ g.ok ∧ GRd w g := by
  obtain ⟨g, h1, h2, h3, _⟩ := graph_open2 h hsm
  exact ⟨g, h1, h2, h3⟩
end
end Go.Proofs.Ytdmocobabpmoeaa
