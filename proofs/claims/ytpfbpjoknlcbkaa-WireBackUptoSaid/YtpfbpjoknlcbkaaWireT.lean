/-
  Numbers' forms read back: of a whole form, and of a beginning of one. Plain Lean, no program in sight.
-/
import Derived.Test.YtpfbpjoknlcbkaaWireQ
import Derived.Test.YtpfbpjoknlcbkaaWireO
namespace Go.Proofs.Ytpfbpjoknlcbkaa
open Go.Vc Go.Sep Go.Ops
set_option linter.unusedVariables false
set_option linter.unusedSectionVars false
set_option linter.unusedSimpArgs false

theorem u8_of {n : Nat} (h : n < 256) : (UInt8.ofNat n).toNat = n := by simp; omega
theorem bad_of {i n : Nat} (hn : n < 256) (h1 : 0 < i → n ≠ 0) (h2 : i = 9 → n = 1) : bad i (UInt8.ofNat n) = false := by
  have e0 : UInt8.ofNat n = 0 ↔ n = 0 := by
    rw [← UInt8.toNat_inj, u8_of hn]; simp
  have e1 : UInt8.ofNat n = 1 ↔ n = 1 := by
    rw [← UInt8.toNat_inj, u8_of hn]; simp
  simp only [bad, e0, ne_eq, e1, decide_eq_false_iff_not, not_or, not_and]
  exact ⟨fun h => h1 h, fun h h' => h' (h2 h)⟩
theorem pow_step {i : Nat} (h : i < 9) {x : Nat} (hx : x < 2 ^ (64 - 7 * i)) : x / 128 < 2 ^ (64 - 7 * (i + 1)) := by
  rw [Nat.div_lt_iff_lt_mul (by omega)]
  have e : 64 - 7 * i = (64 - 7 * (i + 1)) + 7 := by omega
  rw [e, Nat.pow_add] at hx
  exact hx
theorem pow_nine {i : Nat} (h : ¬ i < 9) (h9 : i ≤ 9) {x : Nat} (hx : x < 2 ^ (64 - 7 * i)) : x < 2 := by
  have : i = 9 := by omega
  subst this
  simpa using hx
theorem numGo_back (rest : List UInt8) : ∀ (n x i v : Nat), x ≤ n → x < 2 ^ (64 - 7 * i) → (0 < i → x ≠ 0) → i ≤ 9 → numGo i v (form x ++ rest) = (v + x * 128 ^ i, i + (form x).length, 0) := by
  intro n
  induction n with
  | zero =>
    intro x i v h0 hx hi h9
    obtain rfl : x = 0 := by omega
    rw [form_lt (by omega)]
    simp only [List.cons_append, List.nil_append, numGo_cons]
    rw [bad_of (by omega) (fun h => hi h) (fun h => absurd rfl (hi (by omega)))]
    simp
  | succ n ih =>
    intro x i v h0 hx hi h9
    by_cases h : x < 128
    · rw [form_lt h]
      simp only [List.cons_append, List.nil_append, numGo_cons]
      rw [bad_of (by omega) (fun h => hi h) (fun h => by have := pow_nine (by omega) h9 hx; have := hi (by omega); omega)]
      rw [u8_of (by omega)]
      simp only [Bool.false_eq_true, if_false, if_pos h, Nat.mod_eq_of_lt h, List.length_cons, List.length_nil]
    · have hi9 : i < 9 := by
        refine Classical.byContradiction fun hh => ?_
        have := pow_nine hh h9 hx
        omega
      rw [form_ge (by omega)]
      simp only [List.cons_append, numGo_cons]
      rw [bad_of (by omega) (fun h => by omega) (fun h => by omega), u8_of (by omega), ih (x / 128) (i + 1) _ (by omega) (pow_step hi9 hx) (fun _ => by omega) (by omega)]
      rw [if_neg (by simp), if_neg (by omega)]
      have e1 : (x % 128 + 128) % 128 = x % 128 := by omega
      rw [e1, Nat.pow_succ]
      have e2 : x / 128 * (128 ^ i * 128) = (x / 128 * 128) * 128 ^ i := by
        rw [Nat.mul_comm (128 ^ i) 128, Nat.mul_assoc]
      have e3 : x * 128 ^ i = (x % 128 + x / 128 * 128) * 128 ^ i := by congr 1; omega
      rw [e2, e3, Nat.add_mul, List.length_cons, Nat.add_assoc]
      refine Prod.ext rfl (Prod.ext ?_ rfl)
      simp only
      omega
theorem num_back {x : Nat} (hx : x < 18446744073709551616) (rest : List UInt8) : num (form x ++ rest) = (x, (form x).length, 0) := by
  have := numGo_back rest x x 0 0 (Nat.le_refl _) (by simpa using hx) (by omega) (by omega)
  simpa [num] using this
theorem numGo_short : ∀ (n x i v m : Nat), x ≤ n → x < 2 ^ (64 - 7 * i) → i ≤ 9 → m < (form x).length → numGo i v ((form x).take m) = (0, 0, 30) := by
  intro n
  induction n with
  | zero =>
    intro x i v m h0 hx h9 hm
    obtain rfl : x = 0 := by omega
    rw [form_lt (by omega)] at hm ⊢
    obtain rfl : m = 0 := by simpa using hm
    simp [numGo]
  | succ n ih =>
    intro x i v m h0 hx h9 hm
    cases m with
    | zero => simp [numGo]
    | succ m =>
      have h : 128 ≤ x := by
        refine Classical.byContradiction fun hh => ?_
        rw [form_lt (by omega)] at hm
        simp at hm
      have hi9 : i < 9 := by
        refine Classical.byContradiction fun hh => ?_
        have := pow_nine hh h9 hx
        omega
      rw [form_ge h] at hm ⊢
      rw [List.take_succ_cons, numGo_cons, bad_of (by omega) (fun h => by omega) (fun h => by omega), u8_of (by omega), ih (x / 128) (i + 1) _ m (by omega) (pow_step hi9 hx) (by omega) (by simpa using hm)]
      rw [if_neg (by simp), if_neg (by omega)]
theorem num_short {x m : Nat} (hx : x < 18446744073709551616) (hm : m < (form x).length) : num ((form x).take m) = (0, 0, 30) :=
  numGo_short x x 0 0 m (Nat.le_refl _) (by simpa using hx) (by omega) hm

/-! ### A script put and taken -/
def cutB (xs : List UInt8) : List UInt8 := xs.take 65536
theorem cutB_len (xs : List UInt8) : (cutB xs).length ≤ 65536 := by simp [cutB]; omega
def enc (o : OpV) (xs : List UInt8) : List UInt8 :=
  if o.kd = 1 then form o.vv else if o.kd = 2 then form (zz o.nn) else if o.kd = 3 then [UInt8.ofNat (IntKind.u8.wrap o.nn).toNat] else form (cutB xs).length ++ cutB xs
theorem enc_len (o : OpV) (ho : o.ok) (xs : List UInt8) : (enc o xs).length ≤ 65546 := by
  have h1 := form_length10 ho.1
  have h2 := form_length10 (zz_lt ho.2.1 ho.2.2)
  have h3 := cutB_len xs
  have h4 := form_length10 (v := (cutB xs).length) (by omega)
  unfold enc
  split
  · omega
  · split
    · omega
    · split
      · simp
      · simp only [List.length_append]; omega
/-- what one call on a reader answers: is it what was put, the error, the place -/
def gotR (e : Nat) (bs : List UInt8) (at_ : Nat) (o : OpV) (xs : List UInt8) : Bool × Nat × Nat :=
  if o.kd = 1 then (decide ((rNum e bs at_ o.vv).1 = o.vv), (rNum e bs at_ o.vv).2.1, (rNum e bs at_ o.vv).2.2) else
  if o.kd = 2 then (decide (back (rNum e bs at_ 18446744073709551615).1 = o.nn), (rNum e bs at_ 18446744073709551615).2.1, (rNum e bs at_ 18446744073709551615).2.2) else
  if o.kd = 3 then (decide (((rByte e bs at_).1.toNat : Int) = IntKind.u8.wrap o.nn), (rByte e bs at_).2.1, (rByte e bs at_).2.2) else
  (decide ((rBytes e bs at_ (cutB xs).length).1 = cutB xs), (rBytes e bs at_ (cutB xs).length).2.1, (rBytes e bs at_ (cutB xs).length).2.2)
theorem rNum_back {bs rest : List UInt8} {at_ x most : Nat} (hx : x < 18446744073709551616) (h : bs.drop at_ = form x ++ rest) (hm : x ≤ most) : rNum 0 bs at_ most = (x, 0, at_ + (form x).length) := by
  unfold rNum
  rw [h, num_back hx]
  simp only
  rw [if_neg (by simp), if_neg (by simp), if_neg (by omega)]
theorem rNum_short {bs : List UInt8} {at_ x m most : Nat} (hx : x < 18446744073709551616) (h : bs.drop at_ = (form x).take m) (hm : m < (form x).length) : (rNum 0 bs at_ most).2.1 = 30 := by
  unfold rNum
  rw [h, num_short hx hm]
  simp
theorem got_back {bs rest : List UInt8} {at_ : Nat} {o : OpV} {xs : List UInt8} (ho : o.ok) (h : bs.drop at_ = enc o xs ++ rest) : gotR 0 bs at_ o xs = (true, 0, at_ + (enc o xs).length) := by
  unfold gotR
  unfold enc at h ⊢
  split
  · rename_i hk
    rw [if_pos hk] at h
    rw [rNum_back ho.1 h (Nat.le_refl _)]
    simp
  rename_i hk
  rw [if_neg hk] at h
  split
  · rename_i hk
    rw [if_pos hk] at h
    have hz := zz_lt ho.2.1 ho.2.2
    rw [rNum_back hz h (by omega), back_zz]
    simp
  rename_i hk
  rw [if_neg hk] at h
  split
  · rename_i hk
    rw [if_pos hk] at h
    have hb : bs[at_]? = some (UInt8.ofNat (IntKind.u8.wrap o.nn).toNat) := by
      have := congrArg (·[0]?) h
      simpa using this
    have hw := u8_bounds o.nn
    unfold rByte
    rw [if_neg (by simp), hb]
    simp only [List.length_cons, List.length_nil]
    rw [u8_of (by omega), decide_eq_true (by omega)]
  rename_i hk
  rw [if_neg hk] at h
  have hc := cutB_len xs
  generalize cutB xs = ys at h hc ⊢
  have hy : ys.length < 18446744073709551616 := by omega
  have hlen : bs.length - at_ = (form ys.length).length + ys.length + rest.length := by
    have := congrArg List.length h
    simp only [List.length_drop, List.length_append] at this
    exact this
  have hd : bs.drop (at_ + (form ys.length).length) = ys ++ rest := by
    rw [← List.drop_drop, h, List.append_assoc, List.drop_left]
  have hE : rBytesE bs at_ ys.length = 0 := by
    unfold rBytesE
    rw [h, List.append_assoc, num_back hy]
    simp only
    rw [if_neg (by simp), if_neg (by omega), if_neg (by omega)]
  unfold rBytes
  rw [if_neg (by simp), hE, if_neg (by simp)]
  have hn : num (bs.drop at_) = (ys.length, (form ys.length).length, 0) := by rw [h, List.append_assoc, num_back hy]
  rw [hn]
  simp only
  rw [hd, List.take_left, List.length_append, decide_eq_true rfl, Nat.add_assoc]
theorem got_short {bs : List UInt8} {at_ m : Nat} {o : OpV} {xs : List UInt8} (ho : o.ok) (h : bs.drop at_ = (enc o xs).take m) (hm : m < (enc o xs).length) : (gotR 0 bs at_ o xs).2.1 = 30 := by
  unfold gotR
  unfold enc at h hm
  split
  · rename_i hk
    rw [if_pos hk] at h hm
    exact rNum_short ho.1 h hm
  rename_i hk
  rw [if_neg hk] at h hm
  split
  · rename_i hk
    rw [if_pos hk] at h hm
    exact rNum_short (zz_lt ho.2.1 ho.2.2) h hm
  rename_i hk
  rw [if_neg hk] at h hm
  split
  · rename_i hk
    rw [if_pos hk] at h hm
    obtain rfl : m = 0 := by simpa using hm
    have hb : bs[at_]? = none := by
      have := congrArg List.length h
      simp at this
      exact List.getElem?_eq_none (by omega)
    unfold rByte
    rw [if_neg (by simp), hb]
  rename_i hk
  rw [if_neg hk] at h hm
  have hc := cutB_len xs
  generalize cutB xs = ys at h hc hm ⊢
  have hy : ys.length < 18446744073709551616 := by omega
  have hE : rBytesE bs at_ ys.length = 30 := by
    unfold rBytesE
    by_cases hs : m < (form ys.length).length
    · have : bs.drop at_ = (form ys.length).take m := by rw [h, List.take_append_of_le_length (by omega)]
      rw [this, num_short hy hs]
      simp
    · have e : (form ys.length ++ ys).take m = form ys.length ++ ys.take (m - (form ys.length).length) := by
        rw [List.take_append, List.take_of_length_le (by omega)]
      have hlen : bs.length - at_ = m := by
        have := congrArg List.length h
        simp only [List.length_drop, List.length_take, List.length_append] at this hm
        omega
      rw [h, e, num_back hy]
      simp only [List.length_append] at hm ⊢
      rw [if_neg (by simp), if_neg (by omega), if_pos (by omega)]
  unfold rBytes
  rw [if_neg (by simp), hE, if_pos (by simp)]

def cat (B : OpV → List UInt8) (ops : List OpV) : List UInt8 := ops.flatMap fun o => enc o (B o)
def pos (B : OpV → List UInt8) (ops : List OpV) (i : Nat) : Nat := (cat B (ops.take i)).length
theorem cat_snoc (B : OpV → List UInt8) {ops : List OpV} {i : Nat} {o : OpV} (h : ops[i]? = some o) : cat B (ops.take (i + 1)) = cat B (ops.take i) ++ enc o (B o) := by
  unfold cat
  rw [List.take_add_one, h]
  simp
theorem pos_succ (B : OpV → List UInt8) {ops : List OpV} {i : Nat} {o : OpV} (h : ops[i]? = some o) : pos B ops (i + 1) = pos B ops i + (enc o (B o)).length := by
  unfold pos
  rw [cat_snoc B h, List.length_append]
theorem cat_drop (B : OpV → List UInt8) {ops : List OpV} {i : Nat} {o : OpV} (h : ops[i]? = some o) : (cat B ops).drop (pos B ops i) = enc o (B o) ++ cat B (ops.drop (i + 1)) := by
  have hi := (List.getElem?_eq_some_iff.1 h).1
  have e : cat B ops = cat B (ops.take i) ++ (enc o (B o) ++ cat B (ops.drop (i + 1))) := by
    have : ops = ops.take i ++ o :: ops.drop (i + 1) := by
      rw [← (List.getElem?_eq_some_iff.1 h).2, ← List.drop_eq_getElem_cons hi, List.take_append_drop]
    conv => lhs; rw [this]
    simp [cat]
  rw [e, pos, List.drop_left]
theorem pos_all (B : OpV → List UInt8) (ops : List OpV) : pos B ops ops.length = (cat B ops).length := by simp [pos]
theorem pos_mono (B : OpV → List UInt8) (ops : List OpV) {i j : Nat} (h : i ≤ j) : pos B ops i ≤ pos B ops j := by
  induction j with
  | zero => obtain rfl : i = 0 := by omega
            omega
  | succ j ih =>
    by_cases hj : i ≤ j
    · refine Nat.le_trans (ih hj) ?_
      cases ho : ops[j]? with
      | some o => rw [pos_succ B ho]; omega
      | none =>
        have := List.getElem?_eq_none_iff.1 ho
        unfold pos
        rw [List.take_of_length_le (by omega), List.take_of_length_le (by omega)]
        omega
    · obtain rfl : i = j + 1 := by omega
      omega
theorem pos_le (B : OpV → List UInt8) (ops : List OpV) (hok : ∀ o ∈ ops, o.ok) (i : Nat) : pos B ops i ≤ i * 65546 := by
  induction i with
  | zero => simp [pos, cat]
  | succ j ih =>
    cases ho : ops[j]? with
    | some o =>
      have := enc_len o (hok o (List.mem_of_getElem? ho)) (B o)
      rw [pos_succ B ho, Nat.succ_mul]
      exact Nat.add_le_add ih this
    | none =>
      have := List.getElem?_eq_none_iff.1 ho
      have e : pos B ops (j + 1) = pos B ops j := by
        unfold pos
        rw [List.take_of_length_le (by omega), List.take_of_length_le (by omega)]
      rw [e, Nat.succ_mul]
      exact Nat.le_trans ih (Nat.le_add_right _ _)
theorem cat_short (B : OpV → List UInt8) {ops : List OpV} {i s : Nat} {o : OpV} (h : ops[i]? = some o) (hs : pos B ops i ≤ s) : ((cat B ops).take s).drop (pos B ops i) = (enc o (B o) ++ cat B (ops.drop (i + 1))).take (s - pos B ops i) := by
  rw [List.drop_take, cat_drop B h]
end Go.Proofs.Ytpfbpjoknlcbkaa
