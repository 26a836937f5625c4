
/-
  DraftOwn: lists of lists, marked.
-/
import Derived.Test.YtdmocobabpmoeaaDraftAD
namespace Go.Proofs.Ytdmocobabpmoeaa
open Go.Vc Go.Sep Go.Ops
set_option linter.unusedVariables false
set_option linter.unusedSectionVars false
set_option linter.unusedSimpArgs false

abbrev It := Value × List (List Value)
def LLs (e s : Nat) (its : List It) : List HProp := its.map fun q => Sl e s q.1 q.2.length q.2.flatten
def markI (i j : Nat) : Int := -1 - 1000 * i - j
def marks (row : Int → List Value) (i n : Nat) : List (List Value) := (List.range n).map fun j => row (markI i j)
theorem marks_succ (row : Int → List Value) (i n : Nat) : marks row i (n + 1) = marks row i n ++ [row (markI i n)] := by simp [marks, List.range_succ]
theorem marks_len (row : Int → List Value) (i n : Nat) : (marks row i n).length = n := by simp [marks]
def RowsOk (s : Nat) (q : It) : Prop := (∀ r ∈ q.2, r.length = s ∧ ∀ u ∈ r, u.oneCell' = true) ∧ q.2.length ≤ 1000
theorem flat_len {s : Nat} : ∀ {rows : List (List Value)}, (∀ r ∈ rows, r.length = s) → rows.flatten.length = rows.length * s
  | [], _ => by simp
  | x :: t, h => by
    rw [List.flatten_cons, List.length_append, flat_len (fun r hr => h r (List.mem_cons_of_mem _ hr)), h x (by simp), List.length_cons, Nat.succ_mul]
    omega
theorem flat_get {s : Nat} : ∀ {rows : List (List Value)} {j k : Nat} {r : List Value} {u : Value}, (∀ r ∈ rows, r.length = s) → rows[j]? = some r → r[k]? = some u → rows.flatten[j * s + k]? = some u
  | [], j, k, r, u, _, h, _ => by simp at h
  | x :: t, 0, k, r, u, hs, h, hu => by
    simp only [List.getElem?_cons_zero, Option.some.injEq] at h
    subst h
    rw [List.flatten_cons, Nat.zero_mul, Nat.zero_add, List.getElem?_append_left (List.getElem?_eq_some_iff.1 hu).1]
    exact hu
  | x :: t, j + 1, k, r, u, hs, h, hu => by
    simp only [List.getElem?_cons_succ] at h
    have hx := hs x (by simp)
    rw [List.flatten_cons, List.getElem?_append_right (by rw [hx, Nat.succ_mul]; omega), hx]
    have e : (j + 1) * s + k - s = j * s + k := by rw [Nat.succ_mul]; omega
    rw [e]
    exact flat_get (fun r hr => hs r (List.mem_cons_of_mem _ hr)) h hu
theorem flat_set {s : Nat} : ∀ {rows : List (List Value)} {j : Nat} {r : List Value}, (∀ r ∈ rows, r.length = s) → j < rows.length → r.length = s → (rows.set j r).flatten = rows.flatten.take (j * s) ++ r ++ rows.flatten.drop (j * s + s)
  | [], j, r, _, h, _ => by simp at h
  | x :: t, 0, r, hs, h, hr => by
    have hx := hs x (by simp)
    rw [List.set_cons_zero, List.flatten_cons, List.flatten_cons, Nat.zero_mul, List.take_zero, List.nil_append, Nat.zero_add, List.drop_append_of_le_length (by omega), ← hx, List.drop_length, List.nil_append]
  | x :: t, j + 1, r, hs, h, hr => by
    have hx := hs x (by simp)
    simp only [List.length_cons] at h
    rw [List.set_cons_succ, List.flatten_cons, List.flatten_cons, flat_set (fun r hr => hs r (List.mem_cons_of_mem _ hr)) (by omega) hr]
    have e1 : (j + 1) * s = x.length + j * s := by rw [hx, Nat.succ_mul]; omega
    have e2 : (j + 1) * s + s = x.length + (j * s + s) := by rw [hx, Nat.succ_mul]; omega
    rw [e2, e1, List.take_length_add_append, List.drop_length_add_append]
    simp
section
variable {W w : World} {L : List HProp} {K : Value → World → Prop} {KU : World → Prop} {X : XPost}
theorem mark_spec {i j : Nat} (hi : i ≤ 1000000) (hj : j ≤ 1000000) (k : K (.int .i64 (markI i j)) w) : FCall Try.prog Fn.sluicelaw08_mark #[.int .i64 (i : Nat), .int .i64 (j : Nat)] w K X := by
  refine sluicelaw08_mark_call ?_
  unfold Sh.sluicelaw08_mark
  (repeat with_reducible (first | refine Red.to ?_ | (refine is_rload ?_; (first | refine rv_load H rfl ?_ | refine rv_load H.up1 rfl ?_ | refine rv_load H.up2 rfl ?_ | refine rv_load H.up3 rfl ?_ | refine rv_load H.up4 rfl ?_))))
  rw [i64_small (n := 1000 * (i : Int)) (by omega) (by omega), i64_small (n := -1 - 1000 * (i : Int)) (by omega) (by omega), i64_small (by omega) (by omega)]
  exact k
theorem rv_row_set {u e s b : Nat} {z : Value} [TSlice Try.prog u e s b z] [h : TAgg Try.prog e s] {v : Value} {rows : List (List Value)} {r : List Value} {j : Nat} (H : St W w (Sl e s v rows.length rows.flatten :: L)) (hs : ∀ r ∈ rows, r.length = s) (hj : j < rows.length) (hr : r.length = s) (h1 : ∀ u ∈ r, u.oneCell' = true)
    (k : ∀ w', St W w' (Sl e s v (rows.set j r).length (rows.set j r).flatten :: L) → KU w') : RunV Try.prog (Instr.indexAt u v (.int .i64 (j : Nat))) w (fun p w => RunU Try.prog (Instr.storeAt e p (.agg r.toArray)) w KU X) X := by
  rcases H.sl_form.2 with ⟨_, h0⟩ | ⟨g, cap, rfl, hn, hc⟩
  · omega
  refine rv_index (by omega) (by omega) ?_
  have ei : 0 + ((j : Nat) : Int).toNat * s = j * s := by simp
  rw [ei]
  obtain ⟨rest, hrest, H⟩ := St.cells_of_sl H
  have hfl := flat_len hs
  have hle : j * s + s ≤ rows.length * s := by
    have := Nat.mul_le_mul_right s (show j + 1 ≤ rows.length by omega)
    rw [Nat.succ_mul] at this
    exact this
  refine ru_store_agg (hr ▸ h.size) H (by rw [List.length_append, hfl, hr]; omega) h1 ?_
  clear H
  intro w1 H
  refine k w1 ?_
  have e : (rows.flatten ++ rest).take (j * s) ++ r ++ (rows.flatten ++ rest).drop (j * s + r.length) = (rows.set j r).flatten ++ rest := by
    rw [flat_set hs hj hr, hr, List.take_append_of_le_length (by omega), List.drop_append_of_le_length (by omega)]
    simp
  rw [e] at H
  have hfl2 : (rows.set j r).flatten.length = rows.length * s := by
    rw [flat_len (s := s), List.length_set]
    intro r' hr'
    rcases List.mem_or_eq_of_mem_set hr' with h | rfl
    · exact hs _ h
    · exact hr
  have H := H.sl_of_cells (size := s) (n := rows.length) (cap := cap) (by rw [List.length_append, hfl2, ← hrest, List.length_append, hfl]) hn hc
  rw [← hfl2, List.take_left'  rfl] at H
  rw [List.length_set]
  exact H
theorem rv_cell_set {t u b : Nat} {z : Value} [TSlice Try.prog t u 1 b z] [TCell Try.prog u] {v x : Value} {n j : Nat} {xs : List Value} (H : St W w (Sl u 1 v n xs :: L)) (hj : j < n) (h1 : x.oneCell' = true) {KT : Value → Prop}
    (k : ∀ p, (∀ {KU : World → Prop} {X : XPost}, (∀ w', St W w' (Sl u 1 v n (xs.set j x) :: L) → KU w') → RunU Try.prog (Instr.storeAt u p x) w KU X) → KT p) : TakeP Try.prog (Instr.indexAt t v (.int .i64 (j : Nat))) KT := by
  have hx := H.sl_form.1
  rcases H.sl_form.2 with ⟨_, h0⟩ | ⟨g, cap, rfl, hn, hc⟩
  · omega
  refine tp_index (by omega) (by omega) (k _ ?_)
  intro KU X kk
  have ei : 0 + ((j : Nat) : Int).toNat * 1 = j := by simp
  rw [ei]
  obtain ⟨rest, hrest, H⟩ := St.cells_of_sl H
  refine ru_store H (by simp; omega) h1 ?_
  clear H
  intro w1 H
  refine kk w1 ?_
  have e : (xs ++ rest).set j x = xs.set j x ++ rest := List.set_append_left _ _ (by omega)
  rw [e] at H
  have H := H.sl_of_cells (size := 1) (n := n) (cap := cap) (by rw [List.length_append, List.length_set, ← List.length_append]; exact hrest) hn hc
  have e2 : n * 1 = (xs.set j x).length := by rw [List.length_set]; exact hx.symm
  rw [e2, List.take_left' rfl] at H
  exact H
end
end Go.Proofs.Ytdmocobabpmoeaa
