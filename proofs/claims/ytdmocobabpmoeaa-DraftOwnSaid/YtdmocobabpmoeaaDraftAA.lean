/-
  The document's own reader: a node, in plain Lean.
-/
import Derived.Test.YtdmocobabpmoeaaDraftZ
namespace Go.Proofs.Ytdmocobabpmoeaa
open Go.Vc Go.Sep Go.Ops
set_option linter.unusedVariables false
set_option linter.unusedSectionVars false
set_option linter.unusedSimpArgs false

def pLs {α : Type} (f : Nat → Rs α) (n : Nat) (s : Rs Unit) : Rs (List α) := s.go (fun p => pL f n p)
theorem loop_step {α : Type} {f : Nat → Rs α} {s0 s : Rs Unit} {i p : Nat} {u : Unit} {es : List α} {x : α} (hs : s = (pLs f i s0).st) (hp : s = .ok u p) (hl : ∀ l q, pLs f i s0 = .ok l q → es = l) (hx : ∀ y q, f p = .ok y q → x = y) :
    (f p).st = (pLs f (i + 1) s0).st ∧ ∀ l q, pLs f (i + 1) s0 = .ok l q → es ++ [x] = l := by
  subst hp
  cases s0 with
  | bad e a => cases hs
  | ok u0 p0 =>
    unfold pLs at *
    simp only [go_ok] at *
    rw [pL_snoc]
    cases h : pL f i p0 with
    | bad e a => rw [h] at hs; cases hs
    | ok xs q =>
      rw [h] at hs
      simp only [Rs.st, Rs.ok.injEq, true_and] at hs
      subst hs
      have := hl xs p h
      subst this
      simp only [Rs.bind]
      cases h2 : f p with
      | bad e a => exact ⟨rfl, fun l q h => by cases h⟩
      | ok y q =>
        have := hx y q h2
        subst this
        exact ⟨rfl, fun l q h => by cases h; rfl⟩
theorem loop_exit {α : Type} {f : Nat → Rs α} {s0 s : Rs Unit} {i n : Nat} {es : List α} (hs : s = (pLs f i s0).st) (hi : i ≤ n) (he : i = n ∨ ∃ e a, s = .bad e a) (hl : ∀ l q, pLs f i s0 = .ok l q → es = l) :
    s = (pLs f n s0).st ∧ ∀ l q, pLs f n s0 = .ok l q → es = l := by
  rcases he with rfl | ⟨e, a, rfl⟩
  · exact ⟨hs, hl⟩
  · cases s0 with
    | bad e' a' => exact ⟨hs, fun l q h => by cases h⟩
    | ok u0 p0 =>
      unfold pLs at *
      simp only [go_ok] at *
      cases h : pL f i p0 with
      | ok xs q => rw [h] at hs; cases hs
      | bad e' a' =>
        rw [h] at hs
        simp only [Rs.st, Rs.bad.injEq] at hs
        obtain ⟨rfl, rfl⟩ := hs
        rw [pL_bad h hi]
        exact ⟨rfl, fun l q h => by cases h⟩
theorem loop_zero {α : Type} {f : Nat → Rs α} {s0 : Rs Unit} : s0 = (pLs f 0 s0).st ∧ ∀ l q, pLs f 0 s0 = .ok l q → ([] : List α) = l := by
  cases s0 with
  | bad e a => exact ⟨rfl, fun l q h => by cases h⟩
  | ok u p => exact ⟨rfl, fun l q h => by cases h; rfl⟩
theorem op_st {bs : List UInt8} {p : Nat} : (pOp bs p).st = (((pI bs p).st).go (pA bs)).st ∧ ∀ o q, pOp bs p = .ok o q → (⟨((pI bs p).val 0 : Nat), ((pI bs p).st.go (pA bs)).val 0⟩ : OpD) = o := by
  unfold pOp
  cases h1 : pI bs p with
  | bad e a => exact ⟨rfl, fun o q h => by cases h⟩
  | ok x q =>
    simp only [Rs.bind, Rs.st, Rs.val, go_ok]
    cases h2 : pA bs q with
    | bad e a => exact ⟨rfl, fun o q h => by cases h⟩
    | ok y q2 => exact ⟨rfl, fun o q h => by cases h; rfl⟩
theorem conn_st {bs : List UInt8} {p a b c : Nat} (hp : ∀ a' b' c' q, ((pI bs p).st.go (pI bs)).st.go (pPath bs) = .ok (a', b', c') q → a' = a ∧ b' = b ∧ c' = c) :
    (pConn bs p).st = ((((pI bs p).st).go (pI bs)).st.go (pPath bs)).st ∧ ∀ o q, pConn bs p = .ok o q → (⟨((pI bs p).val 0 : Nat), (((pI bs p).st.go (pI bs)).val 0 : Nat), a, b, c⟩ : ConnD) = o := by
  unfold pConn
  cases h1 : pI bs p with
  | bad e a => exact ⟨rfl, fun o q h => by cases h⟩
  | ok x q =>
    rw [h1] at hp
    simp only [Rs.bind, Rs.st, Rs.val, go_ok] at hp ⊢
    cases h2 : pI bs q with
    | bad e a => exact ⟨rfl, fun o q h => by cases h⟩
    | ok y q2 =>
      rw [h2] at hp
      simp only [go_ok] at hp ⊢
      cases h3 : pPath bs q2 with
      | bad e a => exact ⟨rfl, fun o q h => by cases h⟩
      | ok z q3 =>
        obtain ⟨z1, z2, z3⟩ := z
        obtain ⟨rfl, rfl, rfl⟩ := hp z1 z2 z3 q3 h3
        exact ⟨rfl, fun o q h => by cases h; rfl⟩
theorem edge_st {bs : List UInt8} {p : Nat} {s1 s2 s3 s4 : Rs Unit} (h1 : s1 = (pI bs p).st) (h2 : s2 = (s1.go (pI bs)).st) (h3 : s3 = (s2.go (pI bs)).st) (h4 : s4 = (s3.go (pI bs)).st) :
    (pEdge bs p).st = (s4.go (pT bs)).st ∧ ∀ o q, pEdge bs p = .ok o q → (⟨((pI bs p).val 0 : Nat), ((s1.go (pI bs)).val 0 : Nat), ((s2.go (pI bs)).val 0 : Nat), ((s3.go (pI bs)).val 0 : Nat), (s4.go (pT bs)).val false⟩ : EdgeD) = o := by
  subst h1 h2 h3 h4
  unfold pEdge
  cases h1 : pI bs p with
  | bad e a => exact ⟨rfl, fun o q h => by cases h⟩
  | ok x q =>
    simp only [Rs.bind, Rs.st, Rs.val, go_ok]
    cases h2 : pI bs q with
    | bad e a => exact ⟨rfl, fun o q h => by cases h⟩
    | ok y q2 =>
      simp only [go_ok]
      cases h3 : pI bs q2 with
      | bad e a => exact ⟨rfl, fun o q h => by cases h⟩
      | ok z q3 =>
        simp only [go_ok]
        cases h4 : pI bs q3 with
        | bad e a => exact ⟨rfl, fun o q h => by cases h⟩
        | ok z4 q4 =>
          simp only [go_ok]
          cases h5 : pT bs q4 with
          | bad e a => exact ⟨rfl, fun o q h => by cases h⟩
          | ok z5 q5 => exact ⟨rfl, fun o q h => by cases h; rfl⟩
def kst (s : Rs Unit) (x p : Nat) : Rs Unit :=
  match s with
  | .ok _ q => if x < 1 ∨ 8 < x then .bad 20 p else .ok () q
  | .bad e a => .bad e a
/-- what a node's kind comes to -/
theorem kind_rel {bs : List UInt8} {p x : Nat} (hx : x = (pA bs p).val 0) :
    (pK bs p).st = kst (pA bs p).st x p ∧ (∀ k q, pK bs p = .ok k q → k = x ∧ 1 ≤ x ∧ x ≤ 8) ∧ (∀ e a, pK bs p = .bad e a → x < 1 ∨ 8 < x) := by
  subst hx
  by_cases h0 : (num (bs.drop p)).2.2 ≠ 0
  · have a1 : pA bs p = .bad (num (bs.drop p)).2.2 p := by unfold pA pN; rw [if_pos h0]
    have a2 : pN bs 8 20 p = .bad (num (bs.drop p)).2.2 p := by unfold pN; rw [if_pos h0]
    unfold pK
    rw [a1, a2]
    exact ⟨rfl, fun k q h => (by cases h), fun e a _ => .inl (by simp [Rs.val])⟩
  · have hb := (num_bounds (bs.drop p)).1
    have a1 : pA bs p = .ok (num (bs.drop p)).1 (p + (num (bs.drop p)).2.1) := by unfold pA pN; rw [if_neg h0, if_neg (by omega)]
    unfold pK
    rw [a1]
    generalize hn : (num (bs.drop p)).1 = n at *
    change _ = (if n < 1 ∨ 8 < n then Rs.bad 20 p else .ok () _) ∧ (∀ k q, _ → k = n ∧ 1 ≤ n ∧ n ≤ 8) ∧ (∀ e a, _ → n < 1 ∨ 8 < n)
    by_cases h8 : 8 < n
    · have a2 : pN bs 8 20 p = .bad 20 p := by unfold pN; rw [if_neg h0, if_pos (by omega)]
      rw [a2, if_pos (.inr h8)]
      exact ⟨rfl, fun k q h => (by cases h), fun e a _ => .inr h8⟩
    · have a2 : pN bs 8 20 p = .ok n (p + (num (bs.drop p)).2.1) := by unfold pN; rw [if_neg h0, if_neg (by omega), hn]
      rw [a2]
      simp only [Rs.bind]
      by_cases h1 : n < 1
      · rw [if_pos h1, if_pos (.inl h1)]
        exact ⟨rfl, fun k q h => (by cases h), fun e a _ => .inl h1⟩
      · rw [if_neg h1, if_neg (by omega)]
        exact ⟨rfl, fun k q h => by cases h; exact ⟨rfl, by omega, by omega⟩, fun e a h => by cases h⟩
theorem node_rel {bs : List UInt8} {p k q : Nat} (h : pK bs p = .ok k q) : pNode bs p = pNodeK k bs q := by rw [pNode_eq, h]; rfl
theorem code_rel {bs : List UInt8} {k q m : Nat} {s0 s : Rs Unit} {es : List OpD} (hk : k = 2 ∨ k = 3) (h0 : s0 = (pN bs 16 2 q).st) (hm : m = (pN bs 16 2 q).val 0) (hs : s = (pLs (pOp bs) m s0).st) (hl : ∀ l q', pLs (pOp bs) m s0 = .ok l q' → es = l) :
    (pNodeK k bs q).st = s ∧ ∀ n q', pNodeK k bs q = .ok n q' → { nd k 1 1 with code := es } = n := by
  subst h0 hm
  unfold pNodeK
  rw [if_neg (by omega), if_neg (by omega), if_pos hk]
  cases h1 : pN bs 16 2 q with
  | bad e a => rw [h1] at hs; exact ⟨hs.symm, fun n q h => by cases h⟩
  | ok m q2 =>
    rw [h1] at hs hl
    unfold pLs at hs hl
    simp only [Rs.bind, Rs.st, Rs.val, go_ok] at hs hl ⊢
    cases h2 : pL (pOp bs) m q2 with
    | bad e a => rw [h2] at hs; exact ⟨hs.symm, fun n q h => by cases h⟩
    | ok l q3 =>
      rw [h2] at hs
      have := hl l q3 h2
      subst this
      exact ⟨hs.symm, fun n q h => by cases h; rfl⟩
theorem loop_rel {bs : List UInt8} {q a b c : Nat} {s1 s2 : Rs Unit} (h1 : s1 = (pA bs q).st) (h2 : s2 = (s1.go (pPath bs)).st) (hp : ∀ a' b' c' q', s1.go (pPath bs) = .ok (a', b', c') q' → a' = a ∧ b' = b ∧ c' = c) :
    (pNodeK 5 bs q).st = s2 ∧ ∀ n q', pNodeK 5 bs q = .ok n q' → { nd 5 1 1 with bd := (pA bs q).val 0, a := a, b := b, c := c } = n := by
  subst h1 h2
  unfold pNodeK
  rw [if_neg (by omega), if_neg (by omega), if_neg (by omega), if_pos rfl]
  cases h1 : pA bs q with
  | bad e a => exact ⟨rfl, fun n q h => by cases h⟩
  | ok x q2 =>
    rw [h1] at hp
    simp only [Rs.bind, Rs.st, Rs.val, go_ok] at hp ⊢
    cases h2 : pPath bs q2 with
    | bad e a => exact ⟨rfl, fun n q h => by cases h⟩
    | ok z q3 =>
      obtain ⟨z1, z2, z3⟩ := z
      obtain ⟨rfl, rfl, rfl⟩ := hp z1 z2 z3 q3 h2
      exact ⟨rfl, fun n q h => by cases h; rfl⟩
theorem free_rel {bs : List UInt8} {q m : Nat} {s1 s2 s3 s4 : Rs Unit} {es : List ConnD} (h1 : s1 = (pT bs q).st) (h2 : s2 = (s1.go (pN bs 16 2)).st) (hm : m = (s1.go (pN bs 16 2)).val 0) (h3 : s3 = (pLs (pConn bs) m s2).st) (hl : ∀ l q', pLs (pConn bs) m s2 = .ok l q' → es = l) (h4 : s4 = (s3.go (pI bs)).st) :
    (pNodeK 8 bs q).st = (s4.go (pI bs)).st ∧ ∀ n q', pNodeK 8 bs q = .ok n q' → { nd 8 ((s4.go (pI bs)).val 0 : Nat) ((s3.go (pI bs)).val 0 : Nat) with st := (pT bs q).val false, conns := es } = n := by
  subst h1 h2 hm h4
  unfold pNodeK
  rw [if_neg (by omega), if_neg (by omega), if_neg (by omega), if_neg (by omega), if_pos rfl]
  cases h1 : pT bs q with
  | bad e a => rw [h1] at h3; subst h3; exact ⟨rfl, fun n q h => by cases h⟩
  | ok t q2 =>
    rw [h1] at h3 hl
    simp only [Rs.bind, Rs.st, Rs.val, go_ok] at h3 hl ⊢
    cases h2 : pN bs 16 2 q2 with
    | bad e a => rw [h2] at h3; subst h3; exact ⟨rfl, fun n q h => by cases h⟩
    | ok m q3 =>
      rw [h2] at h3 hl
      unfold pLs at h3 hl
      simp only [go_ok] at h3 hl ⊢
      cases h4 : pL (pConn bs) m q3 with
      | bad e a => rw [h4] at h3; subst h3; exact ⟨rfl, fun n q h => by cases h⟩
      | ok l q4 =>
        rw [h4] at h3
        subst h3
        have := hl l q4 h4
        subst this
        simp only [go_ok]
        cases h5 : pI bs q4 with
        | bad e a => exact ⟨rfl, fun n q h => by cases h⟩
        | ok o q5 =>
          simp only [go_ok]
          cases h6 : pI bs q5 with
          | bad e a => exact ⟨rfl, fun n q h => by cases h⟩
          | ok i q6 => exact ⟨rfl, fun n q h => by cases h; rfl⟩
theorem join_rel {bs : List UInt8} {q : Nat} : (pNodeK 4 bs q).st = (pI bs q).st ∧ ∀ n q', pNodeK 4 bs q = .ok n q' → nd 4 ((pI bs q).val 0 : Nat) 1 = n := by
  unfold pNodeK
  rw [if_neg (by omega), if_neg (by omega), if_neg (by omega), if_neg (by omega), if_neg (by omega), if_pos rfl]
  cases h1 : pI bs q with
  | bad e a => exact ⟨rfl, fun n q h => by cases h⟩
  | ok x q2 => exact ⟨rfl, fun n q h => by cases h; rfl⟩
end Go.Proofs.Ytdmocobabpmoeaa
