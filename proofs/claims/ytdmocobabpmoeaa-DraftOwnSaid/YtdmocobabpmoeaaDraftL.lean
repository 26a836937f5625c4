/-
  Draft's plain law: what is laid is read back; a beginning is too short, a byte more is a rest; what is read has just those bytes. No program in sight.
-/
import Derived.Test.YtdmocobabpmoeaaDraftK
namespace Go.Proofs.Ytdmocobabpmoeaa
open Go.Vc Go.Sep Go.Ops
set_option linter.unusedVariables false
set_option linter.unusedSectionVars false
set_option linter.unusedSimpArgs false

/-! ### Numbers -/
theorem numGo_ext : ∀ (l : List UInt8) (i v : Nat), (numGo i v l).2.2 = 0 → (∀ r, numGo i v (l ++ r) = numGo i v l) ∧ (∀ j, (numGo i v l).2.1 ≤ i + j → numGo i v (l.take j) = numGo i v l) ∧ (∀ j, i + j < (numGo i v l).2.1 → numGo i v (l.take j) = (0, 0, 30))
  | [], i, v, h => by simp [numGo] at h
  | b :: r, i, v, h => by
    simp only [numGo_cons] at h ⊢
    cases hb : bad i b with
    | true => rw [hb] at h; simp at h
    | false =>
      rw [hb] at h
      simp only [Bool.false_eq_true, if_false] at h ⊢
      by_cases h1 : b.toNat < 128
      · rw [if_pos h1] at h ⊢
        refine ⟨fun r' => ?_, fun j hj => ?_, fun j hj => ?_⟩
        · simp [numGo_cons, hb, h1]
        · obtain ⟨j, rfl⟩ : ∃ k, j = k + 1 := ⟨j - 1, by simp at hj; omega⟩
          simp [numGo_cons, hb, h1]
        · obtain rfl : j = 0 := by simp at hj; omega
          simp [numGo]
      · rw [if_neg h1] at h ⊢
        obtain ⟨e1, e2, e3⟩ := numGo_ext r (i + 1) _ h
        refine ⟨fun r' => ?_, fun j hj => ?_, fun j hj => ?_⟩
        · simp only [List.cons_append, numGo_cons, hb, Bool.false_eq_true, if_false, if_neg h1]
          exact e1 r'
        · cases j with
          | zero =>
            exfalso
            have := numGo_gt r (i + 1) _ h
            omega
          | succ j =>
            simp only [List.take_succ_cons, numGo_cons, hb, Bool.false_eq_true, if_false, if_neg h1]
            exact e2 j (by omega)
        · cases j with
          | zero => simp [numGo]
          | succ j =>
            simp only [List.take_succ_cons, numGo_cons, hb, Bool.false_eq_true, if_false, if_neg h1]
            exact e3 j (by omega)
where
  numGo_gt : ∀ (l : List UInt8) (i v : Nat), (numGo i v l).2.2 = 0 → i < (numGo i v l).2.1
    | [], i, v, h => by simp [numGo] at h
    | b :: r, i, v, h => by
      simp only [numGo_cons] at h ⊢
      cases hb : bad i b with
      | true => rw [hb] at h; simp at h
      | false =>
        rw [hb] at h
        simp only [Bool.false_eq_true, if_false] at h ⊢
        by_cases h1 : b.toNat < 128
        · rw [if_pos h1]; simp
        · rw [if_neg h1] at h ⊢
          have := numGo_gt r (i + 1) _ h
          omega
theorem num_ext {l : List UInt8} (h : (num l).2.2 = 0) : (∀ r, num (l ++ r) = num l) ∧ (∀ j, (num l).2.1 ≤ j → num (l.take j) = num l) ∧ (∀ j, j < (num l).2.1 → num (l.take j) = (0, 0, 30)) := by
  obtain ⟨h1, h2, h3⟩ := numGo_ext l 0 0 h
  exact ⟨h1, fun j hj => h2 j (by simpa [num] using hj), fun j hj => h3 j (by simpa [num] using hj)⟩

theorem u8_of {n : Nat} (h : n < 256) : (UInt8.ofNat n).toNat = n := by simp; omega
theorem bad_of {i n : Nat} (hn : n < 256) (h1 : 0 < i → n ≠ 0) (h2 : i = 9 → n = 1) : bad i (UInt8.ofNat n) = false := by
  have e0 : UInt8.ofNat n = 0 ↔ n = 0 := by
    rw [← UInt8.toNat_inj, u8_of hn]; simp
  have e1 : UInt8.ofNat n = 1 ↔ n = 1 := by
    rw [← UInt8.toNat_inj, u8_of hn]; simp
  simp only [bad, e0, ne_eq, e1, decide_eq_false_iff_not, not_or, not_and]
  exact ⟨fun h => h1 h, fun h h' => h' (h2 h)⟩
theorem pow_step {i : Nat} (h : i < 9) {x : Nat} (hx : x < 2 ^ (64 - 7 * i)) : x / 128 < 2 ^ (64 - 7 * (i + 1)) := by
  rw [Nat.div_lt_iff_lt_mul (by omega)]
  have e : 64 - 7 * i = (64 - 7 * (i + 1)) + 7 := by omega
  rw [e, Nat.pow_add] at hx
  exact hx
theorem pow_nine {i : Nat} (h : ¬ i < 9) (h9 : i ≤ 9) {x : Nat} (hx : x < 2 ^ (64 - 7 * i)) : x < 2 := by
  have : i = 9 := by omega
  subst this
  simpa using hx
theorem numGo_back (rest : List UInt8) : ∀ (n x i v : Nat), x ≤ n → x < 2 ^ (64 - 7 * i) → (0 < i → x ≠ 0) → i ≤ 9 → numGo i v (form x ++ rest) = (v + x * 128 ^ i, i + (form x).length, 0) := by
  intro n
  induction n with
  | zero =>
    intro x i v h0 hx hi h9
    obtain rfl : x = 0 := by omega
    rw [form_lt (by omega)]
    simp only [List.cons_append, List.nil_append, numGo_cons]
    rw [bad_of (by omega) (fun h => hi h) (fun h => absurd rfl (hi (by omega)))]
    simp
  | succ n ih =>
    intro x i v h0 hx hi h9
    by_cases h : x < 128
    · rw [form_lt h]
      simp only [List.cons_append, List.nil_append, numGo_cons]
      rw [bad_of (by omega) (fun h => hi h) (fun h => by have := pow_nine (by omega) h9 hx; have := hi (by omega); omega)]
      rw [u8_of (by omega)]
      simp only [Bool.false_eq_true, if_false, if_pos h, Nat.mod_eq_of_lt h, List.length_cons, List.length_nil]
    · have hi9 : i < 9 := by
        refine Classical.byContradiction fun hh => ?_
        have := pow_nine hh h9 hx
        omega
      rw [form_ge (by omega)]
      simp only [List.cons_append, numGo_cons]
      rw [bad_of (by omega) (fun h => by omega) (fun h => by omega), u8_of (by omega), ih (x / 128) (i + 1) _ (by omega) (pow_step hi9 hx) (fun _ => by omega) (by omega)]
      rw [if_neg (by simp), if_neg (by omega)]
      have e1 : (x % 128 + 128) % 128 = x % 128 := by omega
      rw [e1, Nat.pow_succ]
      have e2 : x / 128 * (128 ^ i * 128) = (x / 128 * 128) * 128 ^ i := by
        rw [Nat.mul_comm (128 ^ i) 128, Nat.mul_assoc]
      have e3 : x * 128 ^ i = (x % 128 + x / 128 * 128) * 128 ^ i := by congr 1; omega
      rw [e2, e3, Nat.add_mul, List.length_cons, Nat.add_assoc]
      refine Prod.ext rfl (Prod.ext ?_ rfl)
      simp only
      omega
theorem num_back {x : Nat} (hx : x < 18446744073709551616) (rest : List UInt8) : num (form x ++ rest) = (x, (form x).length, 0) := by
  have := numGo_back rest x x 0 0 (Nat.le_refl _) (by simpa using hx) (by omega) (by omega)
  simpa [num] using this
theorem numGo_form : ∀ (l : List UInt8) (i v : Nat), (numGo i v l).2.2 = 0 → ∃ x, (numGo i v l).1 = v + x * 128 ^ i ∧ form x = l.take ((numGo i v l).2.1 - i) ∧ i < (numGo i v l).2.1 ∧ (1 ≤ i → x ≠ 0)
  | [], i, v, h => by simp [numGo] at h
  | b :: r, i, v, h => by
    unfold numGo at h ⊢
    have hb := b.toNat_lt
    split at h
    · simp at h
    rename_i hn
    rw [if_neg hn]
    split at h
    · rename_i h1
      rw [if_pos h1]
      refine ⟨b.toNat, ?_, ?_, by simp, ?_⟩
      · rw [Nat.mod_eq_of_lt h1]
      · rw [form_lt h1]
        simp
      · intro hi h0
        refine hn (.inl ⟨by omega, ?_⟩)
        rw [← UInt8.ofNat_toNat (x := b), h0]
        rfl
    · rename_i h1
      rw [if_neg h1]
      obtain ⟨x, e1, e2, e3, e4⟩ := numGo_form r (i + 1) _ h
      have hx := e4 (by omega)
      refine ⟨b.toNat % 128 + 128 * x, ?_, ?_, by omega, fun _ => by omega⟩
      · rw [e1, Nat.pow_succ, Nat.add_mul]
        have : x * (128 ^ i * 128) = 128 * x * 128 ^ i := by
          rw [Nat.mul_comm (128 ^ i) 128, ← Nat.mul_assoc, Nat.mul_comm x 128]
        omega
      · rw [form_ge (by omega)]
        have h2 : (b.toNat % 128 + 128 * x) % 128 + 128 = b.toNat := by omega
        have h3 : (b.toNat % 128 + 128 * x) / 128 = x := by omega
        rw [h2, h3, e2]
        obtain ⟨m, hm⟩ : ∃ m, (numGo (i + 1) (v + b.toNat % 128 * 128 ^ i) r).2.1 - i = m + 1 := ⟨_, (Nat.succ_pred_eq_of_pos (by omega)).symm⟩
        have hm' : (numGo (i + 1) (v + b.toNat % 128 * 128 ^ i) r).2.1 - (i + 1) = m := by omega
        rw [hm, hm', List.take_succ_cons, UInt8.ofNat_toNat]
theorem num_form {l : List UInt8} (h : (num l).2.2 = 0) : form (num l).1 = l.take (num l).2.1 := by
  obtain ⟨x, e1, e2, _, _⟩ := numGo_form l 0 0 h
  have : (num l).1 = x := by unfold num; rw [e1]; simp
  rw [this]
  simpa [num] using e2

/-! ### What is read: where it ends, of longer and of shorter bytes; what was read, laid, is those bytes; where a fault stands -/
structure Fine {α : Type} (f : List UInt8 → Nat → Rs α) (enc : α → List Nat) : Prop where
  ok : ∀ bs p x q, p ≤ bs.length → f bs p = .ok x q → p ≤ q ∧ q ≤ bs.length ∧ bs.take q = bs.take p ++ fb (enc x) ∧ (∀ r, f (bs ++ r) p = .ok x q) ∧ (∀ i, q ≤ i → f (bs.take i) p = .ok x q) ∧ (∀ i, p ≤ i → i < q → ∃ a, f (bs.take i) p = .bad 30 a ∧ a ≤ i)
  bad : ∀ bs p e a, p ≤ bs.length → f bs p = .bad e a → a ≤ bs.length ∧ e ≠ 0
theorem fine_pure {α : Type} (x : α) {enc : α → List Nat} (h : enc x = []) : Fine (fun _ p => .ok x p) enc := by
  refine ⟨fun bs p y q hp hh => ?_, fun bs p e a hp hh => by cases hh⟩
  simp only [Rs.ok.injEq] at hh
  obtain ⟨rfl, rfl⟩ := hh
  exact ⟨Nat.le_refl _, hp, by simp [h, fb], fun _ => rfl, fun _ _ => rfl, fun i h1 h2 => by omega⟩
theorem fine_bind {α β : Type} {f : List UInt8 → Nat → Rs α} {g : α → List UInt8 → Nat → Rs β} {e1 : α → List Nat} {e2 : α → β → List Nat} {enc : β → List Nat} (hf : Fine f e1) (hg : ∀ bs p x q, f bs p = .ok x q → Fine (g x) (e2 x)) (he : ∀ bs p x q y q', f bs p = .ok x q → g x bs q = .ok y q' → enc y = e1 x ++ e2 x y) :
    Fine (fun bs p => (f bs p).bind fun x q => g x bs q) enc := by
  refine ⟨fun bs p y q hp hh => ?_, fun bs p e a hp hh => ?_⟩
  · cases h1 : f bs p with
    | bad e a => simp only [h1, Rs.bind] at hh; cases hh
    | ok x q1 =>
      simp only [h1, Rs.bind] at hh
      obtain ⟨a1, a2, a3, a4, a5, a6⟩ := hf.ok bs p x q1 hp h1
      obtain ⟨b1, b2, b3, b4, b5, b6⟩ := (hg _ _ _ _ h1).ok bs q1 y q a2 hh
      refine ⟨by omega, b2, ?_, fun r => ?_, fun i hi => ?_, fun i h2 h3 => ?_⟩
      · rw [b3, a3, he _ _ _ _ _ _ h1 hh, fb_append, List.append_assoc]
      · simp only [a4 r, Rs.bind]; exact b4 r
      · simp only [a5 i (by omega), Rs.bind]; exact b5 i hi
      · by_cases hq : q1 ≤ i
        · simp only [a5 i hq, Rs.bind]; exact b6 i hq h3
        · obtain ⟨a, ha, hai⟩ := a6 i h2 (by omega)
          exact ⟨a, by simp only [ha, Rs.bind], hai⟩
  · cases h1 : f bs p with
    | bad e' a' => simp only [h1, Rs.bind, Rs.bad.injEq] at hh; obtain ⟨rfl, rfl⟩ := hh; exact hf.bad bs p _ _ hp h1
    | ok x q1 =>
      simp only [h1, Rs.bind] at hh
      obtain ⟨a1, a2, _⟩ := hf.ok bs p x q1 hp h1
      exact (hg _ _ _ _ h1).bad bs q1 e a a2 hh
theorem fine_pN (most err : Nat) (hz : err ≠ 0 ∨ most = 18446744073709551615) : Fine (fun bs p => pN bs most err p) (fun x => [x]) := by
  refine ⟨fun bs p x q hp hh => ?_, fun bs p e a hp hh => ?_⟩
  · obtain ⟨h1, h2, h3, h4, h5⟩ := pN_ok hh
    have hb := num_bounds (bs.drop p)
    have hl : (bs.drop p).length = bs.length - p := by simp
    obtain ⟨e1, e2, e3⟩ := num_ext h3
    refine ⟨by omega, by omega, ?_, fun r => ?_, fun i hi => ?_, fun i h6 h7 => ?_⟩
    · rw [fb_one, h4, num_form h3, h5, List.take_add]
    · unfold pN
      rw [List.drop_append_of_le_length hp, e1 r, if_neg (by omega), if_neg (by omega), ← h4, ← h5]
    · unfold pN
      rw [List.drop_take, e2 (i - p) (by omega), if_neg (by omega), if_neg (by omega), ← h4, ← h5]
    · refine ⟨p, ?_, h6⟩
      unfold pN
      rw [List.drop_take, e3 (i - p) (by omega), if_pos (by simp)]
  · unfold pN at hh
    have hb := (num_bounds (bs.drop p)).1
    split at hh
    · rename_i h0; cases hh; exact ⟨hp, h0⟩
    · split at hh
      · cases hh; exact ⟨hp, by omega⟩
      · cases hh
theorem fine_pT : Fine pT (fun b => [boolN b]) := by
  refine ⟨fun bs p x q hp hh => ?_, fun bs p e a hp hh => ?_⟩
  · unfold pT at hh
    cases hx : bs[p]? with
    | none => rw [hx] at hh; cases hh
    | some b =>
      rw [hx] at hh
      simp only at hh
      split at hh
      · rename_i hb
        simp only [Rs.ok.injEq] at hh
        obtain ⟨rfl, rfl⟩ := hh
        have hlt := (List.getElem?_eq_some_iff.1 hx).1
        refine ⟨by omega, hlt, ?_, fun r => ?_, fun i hi => ?_, fun i h6 h7 => ?_⟩
        · rw [List.take_add_one, hx, fb_one]
          congr 1
          have h01 : b.toNat = 0 ∨ b.toNat = 1 := by omega
          rcases h01 with h | h
          · have : b = 0 := by rw [← UInt8.ofNat_toNat (x := b), h]; rfl
            subst this
            rw [show boolN (decide ((0 : UInt8).toNat = 1)) = 0 from rfl, form_lt (by decide)]
            rfl
          · have : b = 1 := by rw [← UInt8.ofNat_toNat (x := b), h]; rfl
            subst this
            rw [show boolN (decide ((1 : UInt8).toNat = 1)) = 1 from rfl, form_lt (by decide)]
            rfl
        · unfold pT
          rw [List.getElem?_append_left hlt, hx]
          simp [hb]
        · unfold pT
          rw [List.getElem?_take_of_lt (by omega), hx]
          simp [hb]
        · refine ⟨p, ?_, h6⟩
          unfold pT
          rw [List.getElem?_take_eq_none (by omega)]
      · cases hh
  · unfold pT at hh
    split at hh
    · cases hh; exact ⟨hp, by decide⟩
    · split at hh
      · cases hh
      · cases hh; exact ⟨hp, by decide⟩
theorem fine_pL {α : Type} {f : List UInt8 → Nat → Rs α} {enc : α → List Nat} (hf : Fine f enc) : ∀ n, Fine (fun bs p => pL (f bs) n p) (fun l => l.flatMap enc)
  | 0 => by
    refine ⟨fun bs p y q hp hh => ?_, fun bs p e a hp hh => by simp only [pL] at hh; cases hh⟩
    simp only [pL, Rs.ok.injEq] at hh
    obtain ⟨rfl, rfl⟩ := hh
    exact ⟨Nat.le_refl _, hp, by simp [fb], fun _ => by simp [pL], fun _ _ => by simp [pL], fun i h1 h2 => by omega⟩
  | n + 1 => by
    have h := fine_bind (f := f) (g := fun x bs p => (pL (f bs) n p).bind fun xs p => .ok (x :: xs) p) (e1 := enc) (e2 := fun x l => l.tail.flatMap enc) (enc := fun l => l.flatMap enc) hf (fun bs p x q _ => by
      refine fine_bind (f := fun bs p => pL (f bs) n p) (g := fun xs _ p => .ok (x :: xs) p) (e1 := fun l => l.flatMap enc) (e2 := fun _ _ => []) (fine_pL hf n) (fun bs p xs q _ => fine_pure _ rfl) (fun bs p xs q y q' h1 h2 => ?_)
      simp only [Rs.ok.injEq] at h2
      obtain ⟨rfl, rfl⟩ := h2
      simp) (fun bs p x q y q' h1 h2 => by
      cases h3 : pL (f bs) n q with
      | bad e a => simp only [h3, Rs.bind] at h2; cases h2
      | ok xs r =>
        simp only [h3, Rs.bind, Rs.ok.injEq] at h2
        obtain ⟨rfl, rfl⟩ := h2
        simp)
    exact h
end Go.Proofs.Ytdmocobabpmoeaa
