/-
  A LAYER OF MY OWN OVER THE WALK'S PREDICATES: a function's code as nested predicates over values and worlds ('vc'), with what a slot holds as a function from numbers to values; that it is sound. No program in sight.
-/
import Derived.OrdersHeld
import Derived.Tactics
import Derived.Eval
import Derived.Scope
import Derived.Recover
namespace Go.Vc

abbrev Env := Nat → Value

def act (n : Nat) (ρ : Env) (ds : List Deferred) : Act := ⟨Array.ofFn (n := n) fun i => ρ i, ds⟩

def rd (n : Nat) (ρ : Env) : Operand → Value
  | .tmp t => cond (Nat.blt t n) (ρ t) undef
  | .const v => v
  | .global g => .pointer (some ⟨g, 0, none⟩)
  | .func f => .func (.func f) #[] #[]

def upd (ρ : Env) (d : Option Nat) (v : Value) : Env :=
  match d with
  | none => ρ
  | some d => fun i => cond (Nat.beq i d) v (ρ i)

theorem act_put (n : Nat) (ρ : Env) (ds : List Deferred) (d : Option Nat) (v : Value) : (act n ρ ds).put d v = act n (upd ρ d v) ds := by
  cases d with
  | none => rfl
  | some d =>
    simp only [act, Act.put, upd, Act.mk.injEq, and_true]
    apply Array.ext
    · simp
    · intro i h1 h2
      rw [Array.getElem_setIfInBounds (by simpa using h2)]
      simp only [Array.getElem_ofFn]
      by_cases h : d = i
      · subst h; simp
      · have : Nat.beq i d = false := by
          rw [Bool.eq_false_iff]; intro hb; exact h (Nat.eq_of_beq_eq_true hb).symm
        simp [h, this]

theorem act_getD (n : Nat) (ρ : Env) (ds : List Deferred) (t : Nat) : (act n ρ ds).tmps.getD t undef = rd n ρ (.tmp t) := by
  simp only [act, rd]
  by_cases h : t < n
  · have : Nat.blt t n = true := by simp only [Nat.blt, Nat.ble_eq]; omega
    simp [this, Array.getD, h]
  · have : Nat.blt t n = false := by
      rw [Bool.eq_false_iff]; intro hb; simp only [Nat.blt, Nat.ble_eq] at hb; omega
    simp [this, Array.getD, h]

theorem act_eval (n : Nat) (ρ : Env) (ds : List Deferred) : (act n ρ ds).eval = rd n ρ := by
  funext x
  cases x with
  | tmp t => exact act_getD n ρ ds t
  | _ => rfl

def asB : Value → Option Bool
  | .bool b => some b
  | _ => none

theorem act_yielded (n : Nat) (ρ : Env) (ds : List Deferred) (ops : Array Oper) (j : Nat) :
    yielded ops (act n ρ ds).tmps j = match (ops[j]?).bind (·.dst) with | some t => asB (rd n ρ (.tmp t)) | none => none := by
  unfold yielded
  cases (ops[j]?).bind (·.dst) with
  | none => rfl
  | some t =>
    simp only [Option.bind_some]
    have h := act_getD n ρ ds t
    simp only [Array.getD_eq_getD_getElem?] at h
    rw [← h]
    cases hx : (act n ρ ds).tmps[t]? with
    | none => simp [undef, asB]
    | some v => cases v <;> simp [asB]

/-! ### The words of the shallow form -/
structure Guard (x : Value) (want : Bool) (A B : Prop) : Prop where mk ::
  yes : asB x = some want → A
  no : asB x ≠ some want → B
structure Cond (x : Value) (A B : Prop) : Prop where mk ::
  out : ∃ t, x = .bool t ∧ (t = true → A) ∧ (t = false → B)
structure Pick (c a b : Value) (K : Value → Prop) : Prop where mk ::
  out : ∃ t, c = .bool t ∧ K (cond t a b)

abbrev XPost := List PanicEntry → World → Prop

def runV (P : Program) (s : Sem Value) (w : World) (K : Value → World → Prop) (X : XPost) : Prop :=
  match s.run P w with
  | .ok v w' => K v w'
  | .halt (.panic v) w' => X [{ v, recovered := false }] w'
  | _ => False
structure RunV (P : Program) (s : Sem Value) (w : World) (K : Value → World → Prop) (X : XPost) : Prop where mk ::
  out : runV P s w K X

def runU (P : Program) (s : Sem Unit) (w : World) (K : World → Prop) (X : XPost) : Prop :=
  match s.run P w with
  | .ok _ w' => K w'
  | .halt (.panic v) w' => X [{ v, recovered := false }] w'
  | _ => False
structure RunU (P : Program) (s : Sem Unit) (w : World) (K : World → Prop) (X : XPost) : Prop where mk ::
  out : runU P s w K X

structure FCall (P : Program) (f : FuncId) (args : Array Value) (w : World) (K : Value → World → Prop) (X : XPost) : Prop where mk ::
  enters : (callFunc f args).run P w = .ok (.enter f args) w
  comes : Calls P f args w fun e w' => match e with
    | .returned v => K v w'
    | .panicked c => X c w'
    | .outgrown => False

def CallX (P : Program) (fv : Value) (args : List Value) (w : World) (K : Value → World → Prop) (X : XPost) : Prop :=
  match fv with
  | .func (.func f) first cap => FCall P f (first.toList ++ args ++ cap.toList).toArray w K X
  | _ => False

/-- 'd' is taken ahead of all that may come up beside it. -/
structure Take (P : Program) (s : Sem Value) (S : World → Prop) (K : Value → Prop) : Prop where mk ::
  out : ∃ v, (∀ w', S w' → s.run P w' = .ok v w') ∧ K v
/-- The same of what hangs on no world. -/
structure TakeP (P : Program) (s : Sem Value) (K : Value → Prop) : Prop where mk ::
  out : ∃ v, (∀ w', s.run P w' = .ok v w') ∧ K v

/-- What follows is said once. -/
structure Share (J : List Value → World → Prop) (body : (List Value → World → Prop) → Prop) : Prop where mk ::
  out : body J

/-- What comes next may lean on more: S2. -/
structure Keep (S : World → Prop) (w : World) (body : (World → Prop) → Prop) : Prop where mk ::
  out : ∃ S2 : World → Prop, S2 w ∧ (∀ w', S2 w' → S w') ∧ body S2

structure FLoop (step : List Value → World → (List Value → World → Prop) → Prop) (vs : List Value) (w : World) : Prop where mk ::
  out : ∃ (I : List Value → World → Prop) (μ : List Value → World → Nat), I vs w ∧
    ∀ vs w, I vs w → step vs w (fun vs' w' => I vs' w' ∧ μ vs' w' < μ vs w)

/-! ### One operation -/
def isC : Operand → Bool
  | .const _ => true
  | _ => false

/-- An operand that is a constant, or none. -/
def opd (c : Bool) : Operand := if c then .const .nilIface else .tmp 0
/-- The test ahead of '==' asks of the two operands only whether they are typed as constants. -/
def eqg (op : BinOp) (t : TypeId) (cx cy : Bool) (a b : Value) : Sem Unit := eqGuard op t (opd cx) (opd cy) a b

theorem eqg_eq (op : BinOp) (t : TypeId) (x y : Operand) (a b : Value) : eqGuard op t x y a b = eqg op t (isC x) (isC y) a b := by
  cases x <;> cases y <;> rfl

def bin (op : BinOp) (t : TypeId) (cx cy : Bool) (a b : Value) : Sem Value := do eqg op t cx cy a b; binOp op t a b

def nilc (x : Value) : Sem Value :=
  match x with
  | .pointer none | .nilIface | .nilFunc => runtimePanic .nilDeref
  | .func (.method _) _ _ => stuck "a method value"
  | x => pure x

/-- Operations that give a value and enter no function. -/
def semOf (n : Nat) (ρ : Env) (o : Oper) : Option (Sem Value) :=
  match o.op with
  | .alloc elem => some (Instr.alloc elem true (.tuple #[]))
  | .box elem x => some (Instr.box elem (rd n ρ x))
  | .build t parts => some (Instr.build t (parts.toList.map fun p => (p.1, rd n ρ p.2)).toArray)
  | .buildSlice t len parts => some (Instr.buildSlice t len (parts.toList.map fun p => (p.1, rd n ρ p.2)).toArray)
  | .load t a => some (Instr.loadAt t (rd n ρ a))
  | .waits g => some (Instr.waits g)
  | .binOp op t x y _ => some (bin op t (isC x) (isC y) (rd n ρ x) (rd n ρ y))
  | .unOp op _ x => some (Op.unary op (rd n ρ x))
  | .convert src dst x => some (convert src dst (rd n ρ x))
  | .makeInterface t x => some (Instr.makeInterface t (rd n ρ x))
  | .makeFunc fn first captured => some (Instr.makeFunc fn (first.toList.map (rd n ρ)).toArray (captured.toList.map (rd n ρ)).toArray)
  | .makeMap t r => some (Instr.makeMap t (match r with | some x => some (rd n ρ x) | none => none))
  | .makeSlice t l c => some (Instr.makeSlice t (rd n ρ l) (rd n ρ c))
  | .slice t x lo hi mx => some (Instr.sliceAt t (rd n ρ x) (match lo with | some y => some (rd n ρ y) | none => none) (match hi with | some y => some (rd n ρ y) | none => none) (match mx with | some y => some (rd n ρ y) | none => none))
  | .fieldAddr s x f => some (Instr.fieldAt s (rd n ρ x) f)
  | .field t x f => some (Instr.field t (rd n ρ x) f)
  | .indexAddr t x ix => some (Instr.indexAt t (rd n ρ x) (rd n ρ ix))
  | .index t x ix => some (Instr.index t (rd n ρ x) (rd n ρ ix))
  | .lookup t x ix ok => some (Instr.lookup t (rd n ρ x) (rd n ρ ix) ok)
  | .mapEntry t m k => some (Instr.mapEntry t (rd n ρ m) (rd n ρ k))
  | .range t x => some (Instr.range t (rd n ρ x))
  | .next it s => some (Instr.next (rd n ρ it) s o.type)
  | .entry it => some (Instr.entry (rd n ρ it))
  | .typeAssert x t a ok => some (Instr.typeAssert (rd n ρ x) t a ok)
  | .extract t ix => some (Instr.extract (rd n ρ t) ix)
  | .panic x => some (Instr.panic (rd n ρ x))
  | .call { callee := .builtin .append, args, argTypes } => some (Builtin.append_ argTypes o.type (args.toList.map (rd n ρ)).toArray)
  | .call { callee := .builtin .cap, args, argTypes } => some (Builtin.cap_ argTypes o.type (args.toList.map (rd n ρ)).toArray)
  | .call { callee := .builtin .clear, args, argTypes } => some (Builtin.clear_ argTypes o.type (args.toList.map (rd n ρ)).toArray)
  | .call { callee := .builtin .copy, args, argTypes } => some (Builtin.copy_ argTypes o.type (args.toList.map (rd n ρ)).toArray)
  | .call { callee := .builtin .delete, args, argTypes } => some (Builtin.delete_ argTypes o.type (args.toList.map (rd n ρ)).toArray)
  | .call { callee := .builtin .len, args, argTypes } => some (Builtin.len_ argTypes o.type (args.toList.map (rd n ρ)).toArray)
  | .call { callee := .builtin .max, args, argTypes } => some (Builtin.max_ argTypes o.type (args.toList.map (rd n ρ)).toArray)
  | .call { callee := .builtin .min, args, argTypes } => some (Builtin.min_ argTypes o.type (args.toList.map (rd n ρ)).toArray)
  | _ => none

/-- Operations that give none. -/
def semU (n : Nat) (ρ : Env) (o : Oper) : Option (Sem Unit) :=
  match o.op with
  | .store t a x => some (Instr.storeAt t (rd n ρ a) (rd n ρ x))
  | .ready g => some (Instr.ready g)
  | .mapUpdate t m k x => some (Instr.mapUpdate t (rd n ρ m) (rd n ρ k) (rd n ρ x))
  | .insert t m k x => some (Instr.mapUpdate t (rd n ρ m) (rd n ρ k) (rd n ρ x))
  | .entryStore t m s x => some (Instr.entryStore t (rd n ρ m) (rd n ρ s) (rd n ρ x))
  | _ => none

abbrev OpPost := Env → List Deferred → World → Prop

def opVc (P : Program) (n : Nat) (o : Oper) (ρ : Env) (ds : List Deferred) (w : World) (K : OpPost) (X : XPost) : Prop :=
  match o.op with
  | .move x => K (upd ρ o.dst (rd n ρ x)) ds w
  | .assign x => K (upd ρ o.dst (rd n ρ x)) ds w
  | .pick c a b => Pick (rd n ρ c) (rd n ρ a) (rd n ρ b) fun v => K (upd ρ o.dst v) ds w
  | .call { callee := .value f, args, .. } => CallX P (rd n ρ f) (args.toList.map (rd n ρ)) w (fun v w' => K (upd ρ o.dst v) ds w') X
  | .nilCheck x => RunV P (nilc (rd n ρ x)) w (fun v w' => K (upd ρ o.dst v) ds w') X
  | .makeFunc fn first captured => K (upd ρ o.dst (.func fn (first.toList.map (rd n ρ)).toArray (captured.toList.map (rd n ρ)).toArray)) ds w
  | .defer { callee := .value f, args, .. } => match rd n ρ f with
    | .func fn first cap => K (upd ρ o.dst undef) ({ target := .fn fn cap, args := (first.toList ++ args.toList.map (rd n ρ)).toArray } :: ds) w
    | _ => False
  | _ => match semU n ρ o with
    | some s => RunU P s w (fun w' => K (upd ρ o.dst undef) ds w') X
    | none => match semOf n ρ o with
      | some s => RunV P s w (fun v w' => K (upd ρ o.dst v) ds w') X
      | none => False

theorem map_toList_toArray {α β : Type} (a : Array α) (f : α → β) : (a.toList.map f).toArray = a.map f := by
  rw [← Array.toList_map]

theorem semOf_eq {n : Nat} {ρ : Env} {o : Oper} {s : Sem Value} (h : semOf n ρ o = some s) : execOp (rd n ρ) o = (do pure (.value (← s)) : Sem Next) := by
  obtain ⟨dst, op, type, pos, after, guard⟩ := o
  cases op <;> simp only [semOf, Option.some.injEq, reduceCtorEq] at h
  case call c =>
    obtain ⟨callee, args, argTypes⟩ := c
    cases callee with
    | value f => simp at h
    | invoke r m => simp at h
    | builtin b =>
      cases b <;> simp only [Option.some.injEq, reduceCtorEq] at h <;> subst h <;>
        simp only [execOp, resolve, invoke, builtin, map_toList_toArray] <;> try rfl
  case makeMap t r => subst h; cases r <;> rfl
  case slice t x lo hi mx => subst h; cases lo <;> cases hi <;> cases mx <;> rfl
  all_goals (subst h; simp only [execOp, map_toList_toArray, eqg_eq, bin])

theorem semU_eq {n : Nat} {ρ : Env} {o : Oper} {s : Sem Unit} (h : semU n ρ o = some s) : execOp (rd n ρ) o = (do s; pure .skip : Sem Next) := by
  obtain ⟨dst, op, type, pos, after, guard⟩ := o
  cases op <;> simp only [semU, Option.some.injEq, reduceCtorEq] at h
  all_goals (subst h; rfl)

theorem RunV_sound {P : Program} {s : Sem Value} {w : World} {K : Value → World → Prop} {X : XPost} {e : Sem Next} (he : e = (do pure (.value (← s)) : Sem Next)) (h : RunV P s w K X) :
    (∃ v w', e.run P w = .ok (.value v) w' ∧ K v w') ∨ (∃ v w', e.run P w = .halt (.panic v) w' ∧ X [{ v, recovered := false }] w') := by
  subst he
  replace h := h.out
  unfold runV at h
  simp only [Sem.run_bind]
  cases hr : s.run P w with
  | ok v w' => rw [hr] at h; exact .inl ⟨v, w', by simp [Result.andThen], h⟩
  | halt x w' =>
    rw [hr] at h
    cases x with
    | panic v => exact .inr ⟨v, w', by simp [Result.andThen], h⟩
    | _ => exact h.elim

theorem RunU_sound {P : Program} {s : Sem Unit} {w : World} {K : World → Prop} {X : XPost} {e : Sem Next} (he : e = (do s; pure .skip : Sem Next)) (h : RunU P s w K X) :
    (∃ w', e.run P w = .ok .skip w' ∧ K w') ∨ (∃ v w', e.run P w = .halt (.panic v) w' ∧ X [{ v, recovered := false }] w') := by
  subst he
  replace h := h.out
  unfold runU at h
  simp only [Sem.run_bind]
  cases hr : s.run P w with
  | ok v w' => rw [hr] at h; exact .inl ⟨w', by simp [Result.andThen], h⟩
  | halt x w' =>
    rw [hr] at h
    cases x with
    | panic v => exact .inr ⟨v, w', by simp [Result.andThen], h⟩
    | _ => exact h.elim


/-! ### Slots that are kept and slots that are not -/
theorem nbeq_ne {i j : Nat} (h : i ≠ j) : Nat.beq i j = false := by
  rw [Bool.eq_false_iff]; intro hb; exact h (Nat.eq_of_beq_eq_true hb)
def notIn (d : Nat) : List Nat → Bool
  | [] => true
  | x :: r => cond (Nat.beq x d) false (notIn d r)
theorem notIn_iff {d : Nat} : ∀ {l : List Nat}, notIn d l = true ↔ d ∉ l
  | [] => by simp [notIn]
  | x :: r => by
    unfold notIn
    by_cases h : x = d
    · subst h; simp
    · simp only [nbeq_ne h, cond_false, List.mem_cons, not_or]
      rw [notIn_iff]
      exact ⟨fun hh => ⟨fun e => h e.symm, hh⟩, fun hh => hh.2⟩
theorem notIn_spec {d : Nat} {l : List Nat} (h : notIn d l = true) : d ∉ l := notIn_iff.1 h
def lookL (i : Nat) : List Nat → Nat → List Value → Value → Value
  | [], _, _, d => d
  | t :: r, k, vs, d => cond (Nat.beq i t) (vs.getD k undef) (lookL i r (k + 1) vs d)
def mix (L A : List Nat) (vs : List Value) (σ ρ : Env) : Env := fun i => lookL i L 0 vs (cond (notIn i A) (ρ i) (σ i))

def subL (L A : List Nat) : Bool := L.all fun i => !(notIn i A)
def okOp (A : List Nat) (o : Oper) : Bool :=
  (match o.dst with | some d => !(notIn d A) | none => true) && (match o.op with | .defer _ => false | .select .. => false | _ => true)
def agree (A : List Nat) (ρ ρ' : Env) : Prop := ∀ i, i ∉ A → ρ' i = ρ i
theorem agree.refl (A : List Nat) (ρ : Env) : agree A ρ ρ := fun _ _ => rfl
theorem agree.upd {A : List Nat} {ρ ρ' : Env} (h : agree A ρ ρ') {d : Option Nat} (hd : ∀ x, d = some x → x ∈ A) (v : Value) : agree A ρ (upd ρ' d v) := by
  intro i hi
  cases d with
  | none => exact h i hi
  | some d =>
    have : i ≠ d := fun e => hi (e ▸ hd d rfl)
    simp only [Vc.upd, nbeq_ne this, cond_false]
    exact h i hi
theorem lookL_notIn {i : Nat} {d : Value} : ∀ {L : List Nat} {k : Nat} {vs : List Value}, i ∉ L → lookL i L k vs d = d
  | [], _, _, _ => rfl
  | t :: r, k, vs, h => by
    simp only [List.mem_cons, not_or] at h
    simp only [lookL, nbeq_ne h.1, cond_false]
    exact lookL_notIn h.2
theorem lookL_map {i : Nat} {d : Value} {ρ : Env} : ∀ {L : List Nat} {k : Nat} {pre : List Value}, pre.length = k → i ∈ L → lookL i L k (pre ++ L.map ρ) d = ρ i
  | [], _, _, _, h => by simp at h
  | t :: r, k, pre, hk, h => by
    by_cases e : i = t
    · subst e
      simp [lookL, ← hk]
    · simp only [lookL, nbeq_ne e, cond_false]
      have := lookL_map (i := i) (d := d) (ρ := ρ) (L := r) (k := k + 1) (pre := pre ++ [ρ t]) (by simp [hk]) (by simpa [e] using h)
      simpa using this
theorem mix_self {L A : List Nat} {ρ ρ' : Env} (_hL : ∀ i ∈ L, i ∈ A) (h : agree A ρ ρ') : mix L A (L.map ρ') ρ' ρ = ρ' := by
  funext i
  unfold mix
  by_cases hi : i ∈ L
  · exact lookL_map (pre := []) rfl hi
  · rw [lookL_notIn hi]
    by_cases ha : i ∈ A
    · have : notIn i A = false := by rw [Bool.eq_false_iff]; intro hn; exact notIn_iff.1 hn ha
      simp [this]
    · simp [notIn_iff.2 ha, h i ha]
theorem mix_agree {L A A' : List Nat} {vs : List Value} {σ ρ ρ0 : Env} (_hL : ∀ i ∈ L, i ∈ A') (hA : ∀ i ∈ A', i ∈ A) (h : agree A ρ0 ρ) : agree A ρ0 (mix L A' vs σ ρ) := by
  intro i hi
  have h1 : i ∉ A' := fun hh => hi (hA i hh)
  have h2 : i ∉ L := fun hh => h1 (_hL i hh)
  unfold mix
  rw [lookL_notIn h2]
  simp [notIn_iff.2 h1, h i hi]
theorem subL_spec {L A : List Nat} (h : subL L A = true) : ∀ i ∈ L, i ∈ A := by
  intro i hi
  have := List.all_eq_true.1 h i hi
  refine Classical.byContradiction fun hn => ?_
  rw [notIn_iff.2 hn] at this
  cases this

/-! ### A list of operations in the text's order -/
abbrev Kn := List (Nat × Bool × Bool)

def Kn.look : Kn → Nat → Bool → Option Bool
  | [], _, _ => none
  | (t, want, st) :: r, t', want' => cond (Nat.beq t t' && (want == want')) (some st) (look r t' want')
def Kn.drop : Kn → Option Nat → Kn
  | [], _ => []
  | e :: r, none => e :: drop r none
  | e :: r, some d => cond (Nat.beq e.1 d) (drop r (some d)) (e :: drop r (some d))

def Kn.true (n : Nat) (ρ : Env) (kn : Kn) : Prop := ∀ e ∈ kn, (asB (rd n ρ (.tmp e.1)) = some e.2.1) = (e.2.2 = Bool.true)

theorem Kn.look_true {n : Nat} {ρ : Env} {t : Nat} {want st : Bool} : ∀ {kn : Kn}, kn.true n ρ → kn.look t want = some st → (asB (rd n ρ (.tmp t)) = some want) = (st = Bool.true)
  | [], _, h => by simp [Kn.look] at h
  | (t0, w0, s0) :: r, hk, h => by
    unfold Kn.look at h
    cases hb : (Nat.beq t0 t && (w0 == want)) with
    | true =>
      simp only [hb, cond_true, Option.some.injEq] at h
      simp only [Bool.and_eq_true, beq_iff_eq] at hb
      have h0 := Nat.eq_of_beq_eq_true hb.1
      have := hk (t0, w0, s0) (by simp)
      simp only at this
      rw [← h0, ← hb.2, ← h]; exact this
    | false =>
      simp only [hb, cond_false] at h
      exact look_true (fun e he => hk e (by simp [he])) h

theorem rd_upd_ne {n : Nat} {ρ : Env} {d : Option Nat} {t : Nat} {v : Value} (h : ∀ x, d = some x → x ≠ t) : rd n (upd ρ d v) (.tmp t) = rd n ρ (.tmp t) := by
  cases d with
  | none => rfl
  | some d =>
    simp only [rd, upd]
    have : Nat.beq t d = false := by
      rw [Bool.eq_false_iff]; intro hb; exact h d rfl (Nat.eq_of_beq_eq_true hb).symm
    simp [this]

theorem Kn.drop_true {n : Nat} {ρ : Env} {d : Option Nat} {v : Value} : ∀ {kn : Kn}, kn.true n ρ → (kn.drop d).true n (upd ρ d v)
  | [], _ => by intro e he; simp [Kn.drop] at he
  | e0 :: r, hk => by
    have ih := drop_true (d := d) (v := v) (kn := r) (fun e he => hk e (by simp [he]))
    have h0 := hk e0 (by simp)
    cases d with
    | none =>
      intro e he
      simp only [Kn.drop, List.mem_cons] at he
      rcases he with rfl | he
      · exact h0
      · exact ih e he
    | some d =>
      intro e he
      simp only [Kn.drop] at he
      cases hb : Nat.beq e0.1 d with
      | true => simp only [hb, cond_true] at he; exact ih e he
      | false =>
        simp only [hb, cond_false, List.mem_cons] at he
        rcases he with rfl | he
        · rw [rd_upd_ne (fun x hx => by
            rintro rfl
            simp only [Option.some.injEq] at hx
            subst hx
            simp at hb)]
          exact h0
        · exact ih e he

def dstOf (ops : List Oper) (j : Nat) : Option Nat :=
  match ops[j]? with
  | some o => o.dst
  | none => none

/-- What is done under a guard: 'yes' where it is met, 'no' where it isn't. -/
def guarded (n : Nat) (ops : List Oper) (g : Option (Nat × Bool)) (kn : Kn) (ρ : Env) (yes no : Kn → Prop) : Prop :=
  match g with
  | none => yes []
  | some (j, want) =>
    match dstOf ops j with
    | none => False
    | some t =>
      match kn.look t want with
      | some true => yes kn
      | some false => no kn
      | none => Guard (rd n ρ (.tmp t)) want (yes [(t, want, true)]) (no [(t, want, false)])

theorem dstOf_eq (ops : Array Oper) (j : Nat) : dstOf ops.toList j = (ops[j]?).bind (·.dst) := by
  unfold dstOf
  rw [Array.getElem?_toList]
  cases ops[j]? <;> rfl

theorem guarded_sound {n : Nat} {ops : Array Oper} {o : Oper} {kn : Kn} {ρ : Env} {ds : List Deferred} {yes no : Kn → Prop} (hk : kn.true n ρ) (h : guarded n ops.toList o.guard kn ρ yes no) :
    (Region.wanted o (yielded ops (act n ρ ds).tmps) = true ∧ ∃ kn', kn'.true n ρ ∧ yes kn') ∨ (Region.wanted o (yielded ops (act n ρ ds).tmps) = false ∧ ∃ kn', kn'.true n ρ ∧ no kn') := by
  unfold guarded at h
  unfold Region.wanted
  cases hg : o.guard with
  | none => rw [hg] at h; exact .inl ⟨rfl, [], (by intro e he; cases he), h⟩
  | some g =>
    obtain ⟨j, want⟩ := g
    rw [hg] at h
    simp only [dstOf_eq] at h
    simp only [act_yielded]
    cases ht : (ops[j]?).bind (·.dst) with
    | none => rw [ht] at h; exact h.elim
    | some t =>
      rw [ht] at h
      simp only at h ⊢
      cases hl : kn.look t want with
      | some st =>
        have := Kn.look_true hk hl
        rw [hl] at h
        cases st with
        | true => simp only [eq_iff_iff, iff_true] at this; exact .inl ⟨by simp [this], kn, hk, h⟩
        | false => simp only [eq_iff_iff, Bool.false_eq_true, iff_false] at this; exact .inr ⟨by simpa using this, kn, hk, h⟩
      | none =>
        rw [hl] at h
        by_cases hw : asB (rd n ρ (.tmp t)) = some want
        · refine .inl ⟨by simp [hw], _, ?_, h.yes hw⟩
          intro e he
          obtain rfl := List.mem_singleton.1 he
          simp [hw]
        · refine .inr ⟨by simpa using hw, _, ?_, h.no hw⟩
          intro e he
          obtain rfl := List.mem_singleton.1 he
          simp [hw]

def vcOps (P : Program) (n : Nat) (ops : List Oper) : List Oper → Kn → Env → List Deferred → World → OpPost → (Env → List Deferred → XPost) → Prop
  | [], _, ρ, ds, w, K, _ => K ρ ds w
  | o :: rest, kn, ρ, ds, w, K, X =>
    guarded n ops o.guard kn ρ
      (fun kn => opVc P n o ρ ds w (fun ρ ds w => vcOps P n ops rest (kn.drop o.dst) ρ ds w K X) (X ρ ds))
      (fun kn => vcOps P n ops rest (kn.drop o.dst) (upd ρ o.dst undef) ds w K X)

abbrev Seg := List (Nat × Option (List Nat × List Nat))

/-- The same, part by part; what follows a part may be said once. -/
def vcSegs (P : Program) (n : Nat) (ops : List Oper) : Seg → List Oper → Env → List Deferred → World → OpPost → (Env → List Deferred → XPost) → Prop
  | [], l, ρ, ds, w, K, X => vcOps P n ops l [] ρ ds w K X
  | (len, none) :: sg, l, ρ, ds, w, K, X => vcOps P n ops (l.take len) [] ρ ds w (fun ρ ds w => vcSegs P n ops sg (l.drop len) ρ ds w K X) X
  | (len, some (L, A)) :: sg, l, ρ, ds, w, K, X =>
    cond ((l.take len).all (okOp A) && subL L A)
      (Share (fun vs w => ∀ σ : Env, vcSegs P n ops sg (l.drop len) (mix L A vs σ ρ) ds w K X) (fun J => vcOps P n ops (l.take len) [] ρ ds w (fun ρ' _ w' => J (L.map ρ') w') X)) False

abbrev Post := Exit → Env → List Deferred → World → Prop

def lift (n : Nat) (Q : Post) (X : Env → List Deferred → XPost) (e : Exit) (a : Act) (w : World) : Prop :=
  match e with
  | .outgrown => False
  | .panic c => ∃ ρ, a = act n ρ a.defers ∧ X ρ a.defers c w
  | e => ∃ ρ, a = act n ρ a.defers ∧ Q e ρ a.defers w

theorem nilc_run {P : Program} {n : Nat} {ρ : Env} {x : Operand} {w : World} {o : Oper} (ho : o.op = .nilCheck x) {K : Value → World → Prop} {X : XPost} (h : RunV P (nilc (rd n ρ x)) w K X) :
    (∃ v w', (execOp (rd n ρ) o).run P w = .ok (.value v) w' ∧ K v w') ∨ (∃ v w', (execOp (rd n ρ) o).run P w = .halt (.panic v) w' ∧ X [{ v, recovered := false }] w') := by
  unfold execOp
  rw [ho]
  unfold nilc at h
  simp only
  generalize rd n ρ x = v at h ⊢
  have key : ∀ K X, RunV P (runtimePanic .nilDeref : Sem Value) w K X → (∃ v w', (runtimePanic .nilDeref : Sem Next).run P w = .ok (.value v) w' ∧ K v w') ∨ (∃ v w', (runtimePanic .nilDeref : Sem Next).run P w = .halt (.panic v) w' ∧ X [{ v, recovered := false }] w') := by
    intro K X h
    replace h := h.out
    unfold runV at h
    simp only [runtimePanic, Sem.run_bind, run_program, Result.andThen_ok, goPanic, Sem.run] at h ⊢
    exact .inr ⟨_, _, rfl, h⟩
  cases v with
  | pointer a => cases a with
    | none => exact key _ _ h
    | some a => exact .inl ⟨_, _, rfl, h.out⟩
  | nilIface => exact key _ _ h
  | nilFunc => exact key _ _ h
  | func fn first cap =>
    cases fn with
    | method nm => have := h.out; simp [runV, stuck] at this
    | _ => exact .inl ⟨_, _, rfl, h.out⟩
  | _ => exact .inl ⟨_, _, rfl, h.out⟩

theorem opVc_sound {P : Program} {n : Nat} {o : Oper} {ρ : Env} {ds : List Deferred} {w : World} {K : OpPost} {X : XPost} {next : Act → World → Prop} {Q : Exit → Act → World → Prop}
    (hK : ∀ v ds w, K (upd ρ o.dst v) ds w → next (act n (upd ρ o.dst v) ds) w) (hX : ∀ c w, X c w → Q (.panic c) (act n ρ ds) w)
    (h : opVc P n o ρ ds w K X) : o.wp P (act n ρ ds) w next Q := by
  unfold Oper.wp
  rw [act_eval]
  have hput : ∀ v ds, (act n ρ ds).put o.dst v = act n (upd ρ o.dst v) ds := fun v ds => act_put n ρ ds o.dst v
  have hv : ∀ {e : Sem Next} {w : World}, ((∃ v w', e.run P w = .ok (.value v) w' ∧ K (upd ρ o.dst v) ds w') ∨ (∃ v w', e.run P w = .halt (.panic v) w' ∧ X [{ v, recovered := false }] w')) →
      o.upon P (act n ρ ds) next Q (e.run P w) := by
    intro e w hh
    rcases hh with ⟨v, w', hr, hk⟩ | ⟨v, w', hr, hx⟩
    · rw [hr, Oper.upon_value, hput]; exact hK _ _ _ hk
    · rw [hr, Oper.upon_panic]; exact hX _ _ hx
  have hs : ∀ {s : Sem Value}, semOf n ρ o = some s → RunV P s w (fun v w' => K (upd ρ o.dst v) ds w') X → o.upon P (act n ρ ds) next Q ((execOp (rd n ρ) o).run P w) := by
    intro s hsem hrun
    rw [semOf_eq hsem]
    exact hv (RunV_sound rfl hrun)
  have hu : ∀ {s : Sem Unit}, semU n ρ o = some s → RunU P s w (fun w' => K (upd ρ o.dst undef) ds w') X → o.upon P (act n ρ ds) next Q ((execOp (rd n ρ) o).run P w) := by
    intro s hsem hrun
    rw [semU_eq hsem]
    rcases RunU_sound (e := do s; pure .skip) rfl hrun with ⟨w', hr, hk⟩ | ⟨v, w', hr, hx⟩
    · rw [hr, Oper.upon_skip, hput]; exact hK _ _ _ hk
    · rw [hr, Oper.upon_panic]; exact hX _ _ hx
  have hrest : (match semU n ρ o with
    | some s => RunU P s w (fun w' => K (upd ρ o.dst undef) ds w') X
    | none => match semOf n ρ o with
      | some s => RunV P s w (fun v w' => K (upd ρ o.dst v) ds w') X
      | none => False) → o.upon P (act n ρ ds) next Q ((execOp (rd n ρ) o).run P w) := by
    intro hh
    split at hh
    · rename_i s hsem; exact hu hsem hh
    · split at hh
      · rename_i s hsem; exact hs hsem hh
      · exact hh.elim
  unfold opVc at h
  split at h
  · rename_i x hop
    have : (execOp (rd n ρ) o).run P w = .ok (.value (rd n ρ x)) w := by unfold execOp; rw [hop]; rfl
    rw [this, Oper.upon_value, hput]; exact hK _ _ _ h
  · rename_i x hop
    have : (execOp (rd n ρ) o).run P w = .ok (.value (rd n ρ x)) w := by unfold execOp; rw [hop]; rfl
    rw [this, Oper.upon_value, hput]; exact hK _ _ _ h
  · rename_i c a b hop
    obtain ⟨⟨t, ht, hk⟩⟩ := h
    have : (execOp (rd n ρ) o).run P w = .ok (.value (cond t (rd n ρ a) (rd n ρ b))) w := by
      unfold execOp; rw [hop]; simp only [ht]; cases t <;> rfl
    rw [this, Oper.upon_value, hput]; exact hK _ _ _ hk
  · rename_i f args aT hop
    unfold CallX at h
    split at h
    · rename_i g first cap hf
      obtain ⟨h1, h2⟩ := h
      have : (execOp (rd n ρ) o).run P w = .ok (.enter g (first.toList ++ (args.toList.map (rd n ρ)) ++ cap.toList).toArray) w := by
        unfold execOp; rw [hop]
        simp only [resolve, hf, Deferred.ofValue, invoke]
        have e : first ++ args.map (rd n ρ) ++ cap = (first.toList ++ (args.toList.map (rd n ρ)) ++ cap.toList).toArray := by
          apply Array.ext'; simp
        rw [← e] at h1 ⊢
        exact h1
      rw [this, Oper.upon_enter]
      refine h2.mono fun e w' he => ?_
      cases e with
      | returned v => simp only at he ⊢; rw [hput]; exact hK _ _ _ he
      | panicked c => exact hX _ _ he
      | outgrown => exact he.elim
    · exact h.elim
  · rename_i x hop
    exact hv (nilc_run hop h)
  · rename_i fn first captured hop
    have : (execOp (rd n ρ) o).run P w = .ok (.value (.func fn (first.toList.map (rd n ρ)).toArray (captured.toList.map (rd n ρ)).toArray)) w := by
      unfold execOp; rw [hop]
      simp only [Instr.makeFunc, map_toList_toArray]
      rfl
    rw [this, Oper.upon_value, hput]; exact hK _ _ _ h
  · rename_i f args aT hop
    split at h
    · rename_i fn first cap hf
      have : (execOp (rd n ρ) o).run P w = .ok (.defer { target := .fn fn cap, args := (first.toList ++ args.toList.map (rd n ρ)).toArray }) w := by
        unfold execOp; rw [hop]
        have e : first ++ args.map (rd n ρ) = (first.toList ++ (args.toList.map (rd n ρ))).toArray := by
          apply Array.ext'; simp
        simp only [resolve, hf, Deferred.ofValue, e]
        rfl
      rw [this, Oper.upon_defer]
      have e2 : ({ act n ρ ds with defers := { target := .fn fn cap, args := (first.toList ++ args.toList.map (rd n ρ)).toArray } :: (act n ρ ds).defers } : Act).put o.dst undef = act n (upd ρ o.dst undef) ({ target := .fn fn cap, args := (first.toList ++ args.toList.map (rd n ρ)).toArray } :: ds) := act_put n ρ _ o.dst undef
      rw [e2]
      exact hK _ _ _ h
    · exact h.elim
  · exact hrest h

section frame
variable {P : Program} {n : Nat} {A : List Nat} {ρ0 : Env} {ds0 : List Deferred}

theorem RunV.mono {s : Sem Value} {w : World} {K K' : Value → World → Prop} {X X' : XPost} (h : RunV P s w K X) (hK : ∀ v w, K v w → K' v w) (hX : ∀ c w, X c w → X' c w) : RunV P s w K' X' := by
  refine ⟨?_⟩
  replace h := h.out
  unfold runV at *
  split at h <;> first | exact hK _ _ h | exact hX _ _ h | exact h.elim
theorem RunU.mono {s : Sem Unit} {w : World} {K K' : World → Prop} {X X' : XPost} (h : RunU P s w K X) (hK : ∀ w, K w → K' w) (hX : ∀ c w, X c w → X' c w) : RunU P s w K' X' := by
  refine ⟨?_⟩
  replace h := h.out
  unfold runU at *
  split at h <;> first | exact hK _ h | exact hX _ _ h | exact h.elim
theorem FCall.mono {f : FuncId} {args : Array Value} {w : World} {K K' : Value → World → Prop} {X X' : XPost} (h : FCall P f args w K X) (hK : ∀ v w, K v w → K' v w) (hX : ∀ c w, X c w → X' c w) : FCall P f args w K' X' :=
  ⟨h.enters, h.comes.mono fun e w' he => by
    cases e with
    | returned v => exact hK _ _ he
    | panicked c => exact hX _ _ he
    | outgrown => exact he⟩
theorem CallX.mono {fv : Value} {args : List Value} {w : World} {K K' : Value → World → Prop} {X X' : XPost} (h : CallX P fv args w K X) (hK : ∀ v w, K v w → K' v w) (hX : ∀ c w, X c w → X' c w) : CallX P fv args w K' X' := by
  unfold CallX at *
  split at h
  · exact h.mono hK hX
  · exact h.elim

theorem opVc_frame {o : Oper} (ho : okOp A o = true) {ρ : Env} {w : World} {K K' : OpPost} {X X' : XPost} (hag : agree A ρ0 ρ)
    (hK : ∀ ρ' w', agree A ρ0 ρ' → K ρ' ds0 w' → K' ρ' ds0 w') (hX : ∀ c w, X c w → X' c w) (h : opVc P n o ρ ds0 w K X) : opVc P n o ρ ds0 w K' X' := by
  simp only [okOp, Bool.and_eq_true] at ho
  have hd : ∀ x, o.dst = some x → x ∈ A := by
    intro x hx
    have := ho.1
    rw [hx] at this
    refine Classical.byContradiction fun hn => ?_
    simp only [notIn_iff.2 hn] at this
    cases this
  have hu : ∀ v, agree A ρ0 (upd ρ o.dst v) := fun v => hag.upd hd v
  unfold opVc at *
  split at h
  · exact hK _ _ (hu _) h
  · exact hK _ _ (hu _) h
  · obtain ⟨⟨t, ht, hk⟩⟩ := h; refine ⟨t, ht, ?_⟩; exact ( hK _ _ (hu _) hk)
  · exact CallX.mono h (fun v w hh => hK _ _ (hu _) hh) hX
  · exact RunV.mono h (fun v w hh => hK _ _ (hu _) hh) hX
  · exact hK _ _ (hu _) h
  · rename_i hop; simp [hop] at ho
  · split at h
    · exact RunU.mono h (fun w hh => hK _ _ (hu _) hh) hX
    · split at h
      · exact RunV.mono h (fun v w hh => hK _ _ (hu _) hh) hX
      · exact h

theorem guarded_mono {ops : List Oper} {g : Option (Nat × Bool)} {kn : Kn} {ρ : Env} {yes yes' no no' : Kn → Prop} (hy : ∀ kn, yes kn → yes' kn) (hn : ∀ kn, no kn → no' kn) (h : guarded n ops g kn ρ yes no) : guarded n ops g kn ρ yes' no' := by
  unfold guarded at *
  split at h
  · exact hy _ h
  · split at h
    · exact h
    · split at h
      · exact hy _ h
      · exact hn _ h
      · exact ⟨fun hh => hy _ (h.yes hh), fun hh => hn _ (h.no hh)⟩

theorem okOp_dst {o : Oper} (ho : okOp A o = true) : ∀ x, o.dst = some x → x ∈ A := by
  intro x hx
  simp only [okOp, Bool.and_eq_true] at ho
  have := ho.1
  rw [hx] at this
  refine Classical.byContradiction fun hn => ?_
  simp only [notIn_iff.2 hn] at this
  cases this

theorem vcOps_frame {ops : List Oper} {K K' : OpPost} {X X' : Env → List Deferred → XPost} (hK : ∀ ρ' w', agree A ρ0 ρ' → K ρ' ds0 w' → K' ρ' ds0 w') (hX : ∀ ρ c w, agree A ρ0 ρ → X ρ ds0 c w → X' ρ ds0 c w) :
    ∀ (l : List Oper) (kn : Kn) (ρ : Env) (w : World), l.all (okOp A) = true → agree A ρ0 ρ → vcOps P n ops l kn ρ ds0 w K X → vcOps P n ops l kn ρ ds0 w K' X'
  | [], _, ρ, w, _, hag, h => hK ρ w hag h
  | o :: r, kn, ρ, w, hl, hag, h => by
    simp only [List.all_cons, Bool.and_eq_true] at hl
    unfold vcOps at *
    refine guarded_mono (fun kn hh => ?_) (fun kn hh => ?_) h
    · exact opVc_frame hl.1 hag (fun ρ' w' hag' hh => vcOps_frame hK hX r _ ρ' w' hl.2 hag' hh) (fun c w hh => hX _ _ _ hag hh) hh
    · exact vcOps_frame hK hX r _ _ w hl.2 (hag.upd (okOp_dst hl.1) _) hh


def okSeg (A : List Nat) (sg : Seg) : Bool := sg.all fun e => match e.2 with | none => true | some (L, A') => subL L A' && subL A' A

theorem vcSegs_frame {ops : List Oper} {K K' : OpPost} {X X' : Env → List Deferred → XPost} (hK : ∀ ρ' w', agree A ρ0 ρ' → K ρ' ds0 w' → K' ρ' ds0 w') (hX : ∀ ρ c w, agree A ρ0 ρ → X ρ ds0 c w → X' ρ ds0 c w) :
    ∀ (sg : Seg) (l : List Oper) (ρ : Env) (w : World), l.all (okOp A) = true → okSeg A sg = true → agree A ρ0 ρ → vcSegs P n ops sg l ρ ds0 w K X → vcSegs P n ops sg l ρ ds0 w K' X'
  | [], l, ρ, w, hl, _, hag, h => vcOps_frame hK hX l [] ρ w hl hag h
  | (len, none) :: sg, l, ρ, w, hl, hs, hag, h => by
    simp only [okSeg, List.all_cons, Bool.and_eq_true] at hs
    have h1 : (l.take len).all (okOp A) = true := List.all_eq_true.2 fun x hx => List.all_eq_true.1 hl x (List.mem_of_mem_take hx)
    have h2 : (l.drop len).all (okOp A) = true := List.all_eq_true.2 fun x hx => List.all_eq_true.1 hl x (List.mem_of_mem_drop hx)
    unfold vcSegs at *
    exact vcOps_frame (fun ρ' w' hag' hh => vcSegs_frame hK hX sg _ ρ' w' h2 hs.2 hag' hh) hX _ [] ρ w h1 hag h
  | (len, some (L, A')) :: sg, l, ρ, w, hl, hs, hag, h => by
    simp only [okSeg, List.all_cons, Bool.and_eq_true] at hs
    have h1 : (l.take len).all (okOp A) = true := List.all_eq_true.2 fun x hx => List.all_eq_true.1 hl x (List.mem_of_mem_take hx)
    have h2 : (l.drop len).all (okOp A) = true := List.all_eq_true.2 fun x hx => List.all_eq_true.1 hl x (List.mem_of_mem_drop hx)
    unfold vcSegs at *
    cases hb : ((l.take len).all (okOp A') && subL L A') with
    | false => rw [hb] at h; exact h.elim
    | true =>
      rw [hb] at h
      simp only [cond_true] at h ⊢
      refine ⟨?_⟩
      replace h := h.out
      exact vcOps_frame (fun ρ' w' hag' hh σ => vcSegs_frame hK hX sg _ _ w' h2 hs.2 (mix_agree (subL_spec hs.1.1) (subL_spec hs.1.2) hag) (hh σ)) hX _ [] ρ w h1 hag h
end frame

theorem vcOps_sound {P : Program} {n : Nat} {ops : Array Oper} {K : OpPost} {X : Env → List Deferred → XPost} {Q : Exit → Act → World → Prop} {l2 : List Oper}
    (hK : ∀ ρ ds w, K ρ ds w → wpList P ops Q l2 (act n ρ ds) w) (hX : ∀ ρ ds c w, X ρ ds c w → Q (.panic c) (act n ρ ds) w) :
    ∀ (l : List Oper) (kn : Kn) (ρ : Env) (ds : List Deferred) (w : World), kn.true n ρ → vcOps P n ops.toList l kn ρ ds w K X → wpList P ops Q (l ++ l2) (act n ρ ds) w
  | [], _, ρ, ds, w, _, h => hK ρ ds w h
  | o :: rest, kn, ρ, ds, w, hk, h => by
    simp only [List.cons_append]
    unfold wpList
    unfold vcOps at h
    rcases guarded_sound (ds := ds) hk h with ⟨hw, kn', hk', hy⟩ | ⟨hw, kn', hk', hy⟩
    · rw [if_pos hw]
      refine .inl (opVc_sound (fun v ds w hh => ?_) (fun c w hh => hX _ _ _ _ hh) hy)
      exact vcOps_sound hK hX rest _ _ ds w (Kn.drop_true hk') hh
    · rw [if_neg (by simp [hw]), act_put]
      exact vcOps_sound hK hX rest _ _ ds w (Kn.drop_true hk') hy

theorem vcSegs_sound {P : Program} {n : Nat} {ops : Array Oper} {K : OpPost} {X : Env → List Deferred → XPost} {Q : Exit → Act → World → Prop}
    (hK : ∀ ρ ds w, K ρ ds w → Q .normal (act n ρ ds) w) (hX : ∀ ρ ds c w, X ρ ds c w → Q (.panic c) (act n ρ ds) w) :
    ∀ (sg : Seg) (l : List Oper) (ρ : Env) (ds : List Deferred) (w : World), vcSegs P n ops.toList sg l ρ ds w K X → wpList P ops Q l (act n ρ ds) w
  | [], l, ρ, ds, w, h => by
    have := vcOps_sound (P := P) (ops := ops) (l2 := []) (fun ρ ds w hh => wpList_nil (hK ρ ds w hh)) hX l [] ρ ds w (by intro e he; cases he) h
    simpa using this
  | (len, none) :: sg, l, ρ, ds, w, h => by
    unfold vcSegs at h
    have := vcOps_sound (P := P) (ops := ops) (l2 := l.drop len) (fun ρ ds w hh => vcSegs_sound hK hX sg _ ρ ds w hh) hX (l.take len) [] ρ ds w (by intro e he; cases he) h
    simpa using this
  | (len, some (L, A)) :: sg, l, ρ, ds, w, h => by
    unfold vcSegs at h
    cases hb : ((l.take len).all (okOp A) && subL L A) with
    | false => rw [hb] at h; exact h.elim
    | true =>
      rw [hb] at h
      simp only [cond_true] at h
      replace h := h.out
      simp only [Bool.and_eq_true] at hb
      have h' := vcOps_frame (A := A) (ρ0 := ρ) (ds0 := ds) (X' := X) (K' := fun ρ' ds' w' => ds' = ds ∧ vcSegs P n ops.toList sg (l.drop len) ρ' ds w' K X) (fun ρ' w' hag hh => ⟨rfl, by
        have := hh ρ'
        rw [mix_self (subL_spec hb.2) hag] at this
        exact this⟩) (fun _ _ _ _ hh => hh) _ [] ρ w hb.1 (agree.refl _ _) h
      have := vcOps_sound (P := P) (ops := ops) (l2 := l.drop len) (fun ρ' ds' w' hh => by
        obtain ⟨rfl, hh⟩ := hh
        exact vcSegs_sound hK hX sg _ ρ' _ w' hh) hX (l.take len) [] ρ ds w (by intro e he; cases he) h'
      simpa using this

/-! ### A region that draws its order -/
def opsL (o : Oper) : List Operand :=
  match o.op with
  | .alloc _ | .ready _ | .waits _ => []
  | .move x | .assign x | .box _ x | .load _ x | .nilCheck x | .unOp _ _ x | .convert _ _ x | .sliceToArrayPointer _ x | .makeInterface _ x
  | .makeChan _ x | .fieldAddr _ x _ | .field _ x _ | .range _ x | .next x _ | .entry x | .typeAssert x _ _ _ | .extract x _ | .panic x | .recv _ x _ => [x]
  | .pick c a b => [c, a, b]
  | .build _ ps | .buildSlice _ _ ps => ps.toList.map (·.2)
  | .store _ a v | .binOp _ _ a v _ | .makeSlice _ a v | .indexAddr _ a v | .index _ a v | .lookup _ a v _ | .mapEntry _ a v | .send a v => [a, v]
  | .makeFunc _ first captured => first.toList ++ captured.toList
  | .makeMap _ r => (match r with | some x => [x] | none => [])
  | .slice _ x l h m => x :: ((match l with | some x => [x] | none => []) ++ (match h with | some x => [x] | none => []) ++ (match m with | some x => [x] | none => []))
  | .mapUpdate _ m k v | .entryStore _ m k v | .insert _ m k v => [m, k, v]
  | .call c | .go c | .defer c => (match c.callee with | .value f => [f] | .invoke r _ => [r] | .builtin _ => []) ++ c.args.toList
  | .select _ _ => []

theorem opsL_eq (o : Oper) (hs : ∀ cs b, o.op ≠ .select cs b) : opsL o = o.op.operands.toList := by
  obtain ⟨dst, op, type, pos, after, guard⟩ := o
  cases op with
  | select cs b => exact absurd rfl (hs cs b)
  | call c => obtain ⟨callee, args, at_⟩ := c; cases callee <;> simp [opsL, Op.operands, Call.operands]
  | go c => obtain ⟨callee, args, at_⟩ := c; cases callee <;> simp [opsL, Op.operands, Call.operands]
  | defer c => obtain ⟨callee, args, at_⟩ := c; cases callee <;> simp [opsL, Op.operands, Call.operands]
  | slice t x l h m => cases l <;> cases h <;> cases m <;> simp [opsL, Op.operands]
  | makeMap t r => cases r <;> simp [opsL, Op.operands]
  | _ => simp [opsL, Op.operands]

def looksL (ops : List Oper) (o : Oper) : List Nat :=
  ((opsL o).filterMap fun | .tmp t => some t | _ => none) ++
  (match o.guard with
   | some (g, _) => (match dstOf ops g with | some t => [t] | none => [])
   | none => [])

theorem looksL_eq (ops : Array Oper) (o : Oper) (hs : ∀ cs b, o.op ≠ .select cs b) : looksL ops.toList o = o.looksAt ops := by
  unfold looksL Oper.looksAt
  rw [opsL_eq o hs]
  congr 1
  cases o.guard with
  | none => rfl
  | some g =>
    obtain ⟨g, b⟩ := g
    simp only [dstOf_eq]
    cases (ops[g]?).bind (·.dst) <;> rfl

def dne : Option Nat → Option Nat → Bool
  | some a, some b => !(Nat.beq a b)
  | _, _ => true

def apartL (ops : List Oper) (x y : Oper) : Bool :=
  (match x.dst with | some d => notIn d (looksL ops y) && dne (some d) y.dst | none => true) &&
  (match y.dst with | some d => notIn d (looksL ops x) | none => true)

theorem apartL_spec {ops : Array Oper} {x y : Oper} (hx : ∀ cs b, x.op ≠ .select cs b) (hy : ∀ cs b, y.op ≠ .select cs b) (h : apartL ops.toList x y = true) : x.apart ops y = true := by
  unfold apartL at h
  unfold Oper.apart
  rw [looksL_eq ops x hx, looksL_eq ops y hy] at h
  simp only [Bool.and_eq_true] at h ⊢
  refine ⟨?_, ?_⟩
  · cases hd : x.dst with
    | none => rfl
    | some d =>
      rw [hd] at h
      simp only [Bool.and_eq_true] at h ⊢
      refine ⟨by simpa using notIn_spec h.1.1, ?_⟩
      cases hdy : y.dst with
      | none => rfl
      | some e =>
        have := h.1.2
        rw [hdy] at this
        simp only [dne, Bool.not_eq_true'] at this
        have hne : e ≠ d := fun e' => by subst e'; simp at this
        simpa using hne
  · cases hd : y.dst with
    | none => rfl
    | some d =>
      rw [hd] at h
      simpa using notIn_spec h.2

def noSel (o : Oper) : Bool := match o.op with | .select .. => false | _ => true
def needsL (o : Oper) : List Nat := (o.after.toList.filter fun e => Region.binds .any e).map (·.on)
def readyL (ops : List Oper) (done : List Nat) (i : Nat) : Bool :=
  notIn i done && (match ops[i]? with | some o => (needsL o).all fun j => !(notIn j done) | none => false)
def freeL (ops : List Oper) (done : List Nat) (i : Nat) (oi : Oper) : Nat → List Oper → Bool
  | _, [] => true
  | j, oj :: r => (Nat.beq j i || !(notIn j done) || !(notIn i (needsL oj)) || apartL ops oi oj) && freeL ops done i oi (j + 1) r
def onlyL (ops : List Oper) (done : List Nat) (i : Nat) : Nat → List Oper → Bool
  | _, [] => true
  | j, _ :: r => (Nat.beq j i || !(readyL ops done j)) && onlyL ops done i (j + 1) r

def marks (m : Nat) (done : List Nat) : Array Bool := Array.ofFn (n := m) fun i => !(notIn i.val done)

theorem marks_nil (m : Nat) : Array.replicate m false = marks m [] := by
  apply Array.ext <;> simp [marks, notIn]
theorem marks_set (m : Nat) (done : List Nat) (i : Nat) : (marks m done).setIfInBounds i true = marks m (i :: done) := by
  apply Array.ext
  · simp [marks]
  · intro j h1 h2
    rw [Array.getElem_setIfInBounds (by simpa [marks] using h2)]
    simp only [marks, Array.getElem_ofFn, notIn]
    by_cases h : i = j
    · subst h; simp
    · simp [h, nbeq_ne h]
theorem marks_getD (m : Nat) (done : List Nat) (j : Nat) (d : Bool) : (marks m done).getD j d = if j < m then !(notIn j done) else d := by
  unfold marks
  by_cases h : j < m <;> simp [Array.getD, h]

theorem readyL_iff {ops : Array Oper} {done : List Nat} (hd : ∀ j ∈ done, j < ops.size) (i : Nat) : readyL ops.toList done i = true ↔ i ∈ Region.ready .any ops (marks ops.size done) := by
  rw [mem_ready]
  unfold readyL
  rw [Array.getElem?_toList, marks_getD]
  cases ho : ops[i]? with
  | none => simp
  | some o =>
    have hlt : i < ops.size := (Array.getElem?_eq_some_iff.1 ho).1
    simp only [hlt, if_true, Bool.and_eq_true, Bool.not_eq_false', Option.some.injEq, exists_eq_left', List.all_eq_true, needsL, List.mem_map, List.mem_filter]
    refine and_congr_right fun _ => ?_
    constructor
    · intro h e he hb
      have := h e.on ⟨e, ⟨by simpa using he, hb⟩, rfl⟩
      rw [marks_getD]
      by_cases hl : e.on < ops.size
      · simp [hl]; simpa using this
      · exfalso
        simp only [Bool.not_eq_true'] at this
        have hnot : e.on ∉ done := fun hm => hl (hd _ hm)
        rw [notIn_iff.2 hnot] at this
        cases this
    · intro h j hj
      obtain ⟨e, ⟨he, hb⟩, rfl⟩ := hj
      have := h e (by simpa using he) hb
      rw [marks_getD] at this
      split at this
      · simpa using this
      · cases this

theorem freeL_spec {ops : Array Oper} {done : List Nat} {i : Nat} {oi : Oper} (hsel : ∀ (j : Nat) (o : Oper), ops[j]? = some o → noSel o = true) (hoi : noSel oi = true) :
    ∀ (l : List Oper) (k : Nat), (∀ j, l[j]? = ops[k + j]?) → freeL ops.toList done i oi k l = true →
      ∀ j oj, k ≤ j → ops[j]? = some oj → j ≠ i → notIn j done = true → (∀ e ∈ oj.after, Region.binds .any e = true → e.on ≠ i) → oi.apart ops oj = true
  | [], k, hl, _, j, oj, hkj, hj, _, _, _ => by
    have := hl (j - k)
    rw [show k + (j - k) = j from by omega, hj] at this
    simp at this
  | o :: r, k, hl, h, j, oj, hkj, hj, hne, hnd, hno => by
    simp only [freeL, Bool.and_eq_true] at h
    by_cases e : j = k
    · subst e
      have h0 := hl 0
      simp only [List.getElem?_cons_zero, Nat.add_zero, hj, Option.some.injEq] at h0
      subst h0
      have h1 := h.1
      simp only [Bool.or_eq_true, Nat.beq_eq, hne, false_or, Bool.not_eq_true', hnd, Bool.true_eq_false] at h1
      rcases h1 with h1 | h1
      · exfalso
        have hmem : ∃ e ∈ o.after, Region.binds .any e = true ∧ e.on = i := by
          refine Classical.byContradiction fun hcon => ?_
          have : i ∉ needsL o := by
            simp only [needsL, List.mem_map, List.mem_filter, not_exists, not_and]
            rintro e he1 he3
            exact hcon ⟨e, by simpa using he1.1, he1.2, he3⟩
          rw [notIn_iff.2 this] at h1
          cases h1
        obtain ⟨e, he, hb, hei⟩ := hmem
        exact hno e he hb hei
      · refine apartL_spec (fun cs b he => ?_) (fun cs b he => ?_) h1
        · simp [noSel, he] at hoi
        · have := hsel _ _ hj; simp [noSel, he] at this
    · exact freeL_spec hsel hoi r (k + 1) (fun j => by have := hl (j + 1); simpa [Nat.add_assoc, Nat.add_comm 1 j] using this) h.2 j oj (by omega) hj hne hnd hno

theorem onlyL_spec {ops : List Oper} {done : List Nat} {i : Nat} : ∀ (l : List Oper) (k : Nat), onlyL ops done i k l = true → ∀ j, k ≤ j → j < k + l.length → readyL ops done j = true → j = i
  | [], k, _, j, h1, h2, _ => by simp at h2; omega
  | o :: r, k, h, j, h1, h2, hr => by
    simp only [onlyL, Bool.and_eq_true, Bool.or_eq_true, Nat.beq_eq, Bool.not_eq_true'] at h
    by_cases e : j = k
    · subst e
      rcases h.1 with h | h
      · exact h
      · rw [hr] at h; cases h
    · exact onlyL_spec r (k + 1) h.2 j (by omega) (by simp at h2; omega) hr


/-! ### An order that is drawn, where the last operations write what was read (turned from the print's own words, part 'Last') -/
section
variable {P : Program} {ops : Array Oper} {Q : Exit → Act → World → Prop} {md : Region.Mode} {S : World → Prop} {ds : List Nat}

/-- Operation d waits for operation i, by a chain of at most 'fuel' edges. -/
def reachB (md : Region.Mode) (ops : Array Oper) (i : Nat) : Nat → Nat → Bool
  | 0, _ => false
  | fuel + 1, d => match ops[d]? with
    | some o => o.after.any fun e => Region.binds md e && (e.on == i || reachB md ops i fuel e.on)
    | none => false

/-- What is listed is closed under the edges. -/
def closedB (md : Region.Mode) (ops : Array Oper) (listed : Array Bool) : Bool :=
  (List.range ops.size).all fun j => !listed.getD j false || match ops[j]? with
    | some o => o.after.all fun e => !Region.binds md e || listed.getD e.on false
    | none => true

/-- Each of ds that has not come up yet waits for number i. -/
def lastB (md : Region.Mode) (ops : Array Oper) (listed : Array Bool) (ds : List Nat) (i : Nat) : Bool :=
  ds.all fun d => listed.getD d true || reachB md ops i ops.size d

def ListedClosed (md : Region.Mode) (ops : Array Oper) (listed : Array Bool) : Prop :=
  ∀ j oj, ops[j]? = some oj → listed.getD j false = true → ∀ e ∈ oj.after, Region.binds md e = true → listed.getD e.on false = true

theorem closedB_spec {listed : Array Bool} (h : closedB md ops listed = true) : ListedClosed md ops listed := by
  intro j oj hj hl e he hb
  have hlt : j < ops.size := (Array.getElem?_eq_some_iff.1 hj).1
  have h1 := List.all_eq_true.1 h j (List.mem_range.2 hlt)
  simp only [hl, hj, Bool.not_true, Bool.false_or] at h1
  have h2 := Array.all_eq_true_iff_forall_mem.1 h1 e he
  simpa [hb] using h2

theorem ListedClosed.set {listed : Array Bool} {i : Nat} (h : ListedClosed md ops listed) (hi : i ∈ Region.ready md ops listed) : ListedClosed md ops (listed.setIfInBounds i true) := by
  obtain ⟨_, oi, hoi, hall⟩ := mem_ready.1 hi
  intro j oj hj hl e he hb
  by_cases hij : i = j
  · subst hij
    have : oj = oi := Option.some.inj (hj.symm.trans hoi)
    subst this
    exact getD_set_true (hall e he hb)
  · rw [getD_set_ne false hij] at hl
    exact getD_set_true (h j oj hj hl e he hb)

theorem reach_listed {listed : Array Bool} {i : Nat} (hc : ListedClosed md ops listed) : ∀ (fuel d : Nat), reachB md ops i fuel d = true → listed.getD d false = true → listed.getD i false = true
  | 0, _, h, _ => by simp [reachB] at h
  | fuel + 1, d, h, hl => by
    unfold reachB at h
    cases ho : ops[d]? with
    | none => rw [ho] at h; simp at h
    | some o =>
      rw [ho] at h
      obtain ⟨e, he, h1⟩ := Array.any_eq_true'.1 h
      simp only [Bool.and_eq_true, Bool.or_eq_true, beq_iff_eq] at h1
      have hle := hc d o ho hl e he h1.1
      rcases h1.2 with h2 | h2
      · rw [← h2]; exact hle
      · exact reach_listed hc fuel e.on h2 hle

/-- What waits for i cannot come up before i is listed. -/
theorem reach_not_ready {listed : Array Bool} {i d fuel : Nat} (hc : ListedClosed md ops listed) (hr : reachB md ops i fuel d = true) (hun : listed.getD i true = false) : d ∉ Region.ready md ops listed := by
  intro hd
  obtain ⟨_, o, ho, hall⟩ := mem_ready.1 hd
  have hi : listed.getD i false = true := by
    cases fuel with
    | zero => simp [reachB] at hr
    | succ n =>
      unfold reachB at hr
      rw [ho] at hr
      obtain ⟨e, he, h1⟩ := Array.any_eq_true'.1 hr
      simp only [Bool.and_eq_true, Bool.or_eq_true, beq_iff_eq] at h1
      have hle := hall e he h1.1
      rcases h1.2 with h2 | h2
      · rw [← h2]; exact hle
      · exact reach_listed hc n e.on h2 hle
  rcases Nat.lt_or_ge i listed.size with h' | h'
  · simp [h'] at hun hi
    rw [hun] at hi
    cases hi
  · simp [Array.getElem?_eq_none h'] at hun

/-- Whatever order is picked from here on, AND 'S' HOLDS BEHIND EVERY OPERATION THAT IS CARRIED OUT, those of ds apart. -/
def wpAnyLast (P : Program) (md : Region.Mode) (ops : Array Oper) (Q : Exit → Act → World → Prop) (S : World → Prop) (ds : List Nat) : Nat → Bool → Array Bool → Act → World → Prop
  | 0, _, listed, a, w => Region.ready md ops listed = [] ∧ Q .normal a w
  | fuel + 1, live, listed, a, w =>
    (Region.ready md ops listed = [] → Q .normal a w) ∧
    ∀ i ∈ Region.ready md ops listed, wpOp P ops Q i (fun a' w' => ((live && notIn i ds) = true → S w') ∧ wpAnyLast P md ops Q S ds fuel (live && notIn i ds) (listed.setIfInBounds i true) a' w') a w

theorem wpAnyLast_weaken {S' : World → Prop} (hS : ∀ w, S' w → S w) : ∀ (fuel : Nat) (live : Bool) (listed : Array Bool) (a : Act) (w : World), wpAnyLast P md ops Q S' ds fuel live listed a w → wpAnyLast P md ops Q S ds fuel live listed a w
  | 0, _, _, _, _, h => h
  | fuel + 1, _, _, _, _, h => ⟨h.1, fun i hi => wpOp_mono (fun a' w' h' => ⟨fun e => hS _ (h'.1 e), wpAnyLast_weaken hS fuel _ _ a' w' h'.2⟩) (h.2 i hi)⟩

theorem wpAny_of_last : ∀ (fuel : Nat) (live : Bool) (listed : Array Bool) (a : Act) (w : World), wpAnyLast P md ops Q S ds fuel live listed a w → wpAny P md ops Q fuel listed a w
  | 0, _, _, _, _, h => h
  | fuel + 1, _, _, _, _, h => ⟨h.1, fun i hi => wpOp_mono (fun a' w' h' => wpAny_of_last fuel _ _ a' w' h'.2) (h.2 i hi)⟩

theorem wpAnyLast_first {i : Nat} {oi : Oper} {v : Value} (hi : ops[i]? = some oi) (hsel : ∀ (j : Nat) (o : Oper) cs b, ops[j]? = some o → o.op ≠ .select cs b)
    (hQ : ∀ c a w, Q (.panic c) (a.put oi.dst v) w → Q (.panic c) a w) (n : Nat) :
    ∀ (fuel : Nat) (listed : Array Bool) (a : Act) (w : World),
      (∀ j oj, ops[j]? = some oj → j ≠ i → listed.getD j true = false → (∀ e ∈ oj.after, Region.binds md e = true → e.on ≠ i) → oi.apart ops oj = true) →
      ListedClosed md ops listed → (∀ d ∈ ds, listed.getD d true = false → reachB md ops i n d = true) →
      i ∈ Region.ready md ops listed → YieldsIf P ops S oi v a → S w → notIn i ds = true →
      wpAnyLast P md ops Q S ds fuel true (listed.setIfInBounds i true) (a.put oi.dst v) w → wpAnyLast P md ops Q S ds (fuel + 1) true listed a w := by
  intro fuel
  induction fuel with
  | zero =>
    intro listed a w _ _ _ hr hy hS hid H
    refine ⟨fun h => (by rw [h] at hr; cases hr), fun j hj => ?_⟩
    by_cases hji : j = i
    · subst hji; exact hy.wpOp hi hS ⟨fun _ => hS, by rw [hid]; exact H⟩
    · have := ready_mono hj hji
      rw [H.1] at this
      cases this
  | succ fuel ih =>
    intro listed a w hfree hc hd hr hy hS hid H
    refine ⟨fun h => (by rw [h] at hr; cases hr), fun j hj => ?_⟩
    by_cases hji : j = i
    · subst hji; exact hy.wpOp hi hS ⟨fun _ => hS, by rw [hid]; exact H⟩
    · have h1 := H.2 j (ready_mono hj hji)
      obtain ⟨hjun, oj, hoj, hall⟩ := mem_ready.1 hj
      have hiun := (mem_ready.1 hr).1
      have hnot : ∀ e ∈ oj.after, Region.binds md e = true → e.on ≠ i := fun e he hb heq => by
        have h1 := hall e he hb
        rw [heq] at h1
        rcases Nat.lt_or_ge i listed.size with h' | h'
        · simp [h'] at hiun h1; rw [hiun] at h1; cases h1
        · simp [Array.getElem?_eq_none h'] at h1
      have hjd : j ∉ ds := fun hm => reach_not_ready hc (hd j hm hjun) hiun hj
      have h2 := wpOp_putIf hoj (hfree j oj hoj hji hjun hnot) (fun cs b => hsel i oi cs b hi) (fun cs b => hsel j oj cs b hoj) hQ hy h1
      have hfree' : ∀ k ok, ops[k]? = some ok → k ≠ i → (listed.setIfInBounds j true).getD k true = false →
          (∀ e ∈ ok.after, Region.binds md e = true → e.on ≠ i) → oi.apart ops ok = true := fun k ok hk hki hun hno => by
        refine hfree k ok hk hki ?_ hno
        by_cases hjk : j = k
        · subst hjk; exact hjun
        · rw [getD_set_ne true hjk] at hun; exact hun
      have hd' : ∀ d ∈ ds, (listed.setIfInBounds j true).getD d true = false → reachB md ops i n d = true := fun d hm hun => by
        refine hd d hm ?_
        by_cases hjk : j = d
        · subst hjk; exact hjun
        · rw [getD_set_ne true hjk] at hun; exact hun
      have hjn : notIn j ds = true := notIn_iff.2 hjd
      simp only [hjn, Bool.and_true] at h2
      simp only [hjn, Bool.and_true]
      refine wpOp_mono (fun a' w' h3 => ⟨h3.2.1, ih (listed.setIfInBounds j true) a' w' hfree' (hc.set hj) hd' (ready_mono hr (Ne.symm hji)) h3.1 (h3.2.1 trivial) hid ?_⟩) h2
      rw [Array.setIfInBounds_comm _ _ hji]
      exact h3.2.2

/-- Take number 'i' first, which yields whatever the world: no S is asked for, nor that anything waits for it. -/
theorem wpAnyLast_any {i : Nat} {oi : Oper} {v : Value} (hi : ops[i]? = some oi) (hsel : ∀ (j : Nat) (o : Oper) cs b, ops[j]? = some o → o.op ≠ .select cs b)
    (hQ : ∀ c a w, Q (.panic c) (a.put oi.dst v) w → Q (.panic c) a w) :
    ∀ (fuel : Nat) (live : Bool) (listed : Array Bool) (a : Act) (w : World),
      (∀ j oj, ops[j]? = some oj → j ≠ i → listed.getD j true = false → (∀ e ∈ oj.after, Region.binds md e = true → e.on ≠ i) → oi.apart ops oj = true) →
      i ∈ Region.ready md ops listed → Yields P ops oi v a → (live = true → S w) → notIn i ds = true →
      wpAnyLast P md ops Q S ds fuel live (listed.setIfInBounds i true) (a.put oi.dst v) w → wpAnyLast P md ops Q S ds (fuel + 1) live listed a w := by
  intro fuel
  induction fuel with
  | zero =>
    intro live listed a w _ hr hy hS hid H
    refine ⟨fun h => (by rw [h] at hr; cases hr), fun j hj => ?_⟩
    by_cases hji : j = i
    · subst hji; exact (hy.yieldsIf (S := fun _ => True)).wpOp hi trivial ⟨fun e => hS (by simpa [hid] using e), by rw [hid, Bool.and_true]; exact H⟩
    · have := ready_mono hj hji
      rw [H.1] at this
      cases this
  | succ fuel ih =>
    intro live listed a w hfree hr hy hS hid H
    refine ⟨fun h => (by rw [h] at hr; cases hr), fun j hj => ?_⟩
    by_cases hji : j = i
    · subst hji; exact (hy.yieldsIf (S := fun _ => True)).wpOp hi trivial ⟨fun e => hS (by simpa [hid] using e), by rw [hid, Bool.and_true]; exact H⟩
    · have h1 := H.2 j (ready_mono hj hji)
      obtain ⟨hjun, oj, hoj, hall⟩ := mem_ready.1 hj
      have hiun := (mem_ready.1 hr).1
      have hnot : ∀ e ∈ oj.after, Region.binds md e = true → e.on ≠ i := fun e he hb heq => by
        have h1 := hall e he hb
        rw [heq] at h1
        rcases Nat.lt_or_ge i listed.size with h' | h'
        · simp [h'] at hiun h1; rw [hiun] at h1; cases h1
        · simp [Array.getElem?_eq_none h'] at h1
      have h2 := wpOp_put hoj (hfree j oj hoj hji hjun hnot) (fun cs b => hsel i oi cs b hi) (fun cs b => hsel j oj cs b hoj) hQ hy h1
      have hfree' : ∀ k ok, ops[k]? = some ok → k ≠ i → (listed.setIfInBounds j true).getD k true = false →
          (∀ e ∈ ok.after, Region.binds md e = true → e.on ≠ i) → oi.apart ops ok = true := fun k ok hk hki hun hno => by
        refine hfree k ok hk hki ?_ hno
        by_cases hjk : j = k
        · subst hjk; exact hjun
        · rw [getD_set_ne true hjk] at hun; exact hun
      refine wpOp_mono (fun a' w' h3 => ⟨h3.2.1, ih _ (listed.setIfInBounds j true) a' w' hfree' (ready_mono hr (Ne.symm hji)) h3.1 h3.2.1 hid ?_⟩) h2
      rw [Array.setIfInBounds_comm _ _ hji]
      exact h3.2.2

theorem wpAnyLast_all {rs : List Nat} {fuel : Nat} {live : Bool} {listed : Array Bool} {a : Act} {w : World} (hr : Region.ready md ops listed = rs) (hne : rs ≠ [])
    (h : ∀ i ∈ rs, wpOp P ops Q i (fun a' w' => ((live && notIn i ds) = true → S w') ∧ wpAnyLast P md ops Q S ds fuel (live && notIn i ds) (listed.setIfInBounds i true) a' w') a w) : wpAnyLast P md ops Q S ds (fuel + 1) live listed a w :=
  ⟨fun h0 => absurd (hr ▸ h0) hne, hr ▸ h⟩

theorem wpAnyLast_done {live : Bool} {listed : Array Bool} {a : Act} {w : World} (hr : Region.ready md ops listed = []) (h : Q .normal a w) :
    ∀ fuel, wpAnyLast P md ops Q S ds fuel live listed a w
  | 0 => ⟨hr, h⟩
  | _ + 1 => ⟨fun _ => h, by rw [hr]; simp⟩

theorem wp_region_last {id : Nat} {live : Bool} {a : Act} {w : World} (hm : P.follows .mixedOrders = true)
    (h : wpAnyLast P .any ops Q S ds ops.size live (Array.replicate ops.size false) a { w with drawn := w.drawn + 1 }) : (Code.region id ops true).wp P Q a w :=
  wp_region_any hm (wpAny_of_last _ _ _ _ _ h)

end

def waitsL (ops : List Oper) (i : Nat) : Nat → Nat → Bool
  | 0, _ => false
  | fuel + 1, d => match ops[d]? with
    | some o => (needsL o).any fun e => Nat.beq e i || waitsL ops i fuel e
    | none => false
theorem waitsL_spec {ops : Array Oper} {i : Nat} : ∀ (fuel d : Nat), waitsL ops.toList i fuel d = true → reachB .any ops i fuel d = true
  | 0, d, h => by simp [waitsL] at h
  | fuel + 1, d, h => by
    unfold waitsL at h
    unfold reachB
    rw [Array.getElem?_toList] at h
    cases ho : ops[d]? with
    | none => rw [ho] at h; simp at h
    | some o =>
      rw [ho] at h
      simp only [List.any_eq_true, needsL, List.mem_map, List.mem_filter, Bool.or_eq_true] at h
      obtain ⟨x, ⟨e, ⟨he, hb⟩, rfl⟩, hx⟩ := h
      simp only [Array.any_eq_true']
      refine ⟨e, by simpa using he, ?_⟩
      simp only [hb, Bool.true_and, Bool.or_eq_true, beq_iff_eq]
      rcases hx with hx | hx
      · exact .inl (Nat.eq_of_beq_eq_true hx)
      · exact .inr (waitsL_spec fuel e.on hx)

/-- An order, or a tree of orders: 'alt': one of those that may come up, and what follows it; then the others. -/
inductive Tr where
  | nil
  | step (k i : Nat) (t : Tr)
  | alt (i : Nat) (t r : Tr)
  | no
def Tr.lasts : Tr → List Nat
  | .nil => []
  | .no => []
  | .step k i t => cond (Nat.beq k 3) (i :: t.lasts) t.lasts
  | .alt _ t r => t.lasts ++ r.lasts
def Tr.ops : Tr → List Nat
  | .nil => []
  | .no => []
  | .step _ i t => i :: t.ops
  | .alt i t r => i :: (t.ops ++ r.ops)
def Tr.reads : Tr → Bool
  | .nil => false
  | .no => false
  | .step k _ t => Nat.beq k 1 || t.reads
  | .alt _ t r => t.reads || r.reads
def Tr.depth : Tr → Nat
  | .nil => 0
  | .no => 0
  | .step _ _ t => t.depth + 1
  | .alt _ t r => Nat.max (t.depth + 1) r.depth
def noLast : Tr → Bool
  | .nil => true
  | .no => true
  | .step k _ t => !(Nat.beq k 3) && noLast t
  | .alt _ t r => noLast t && noLast r
abbrev Tau := List (Tr × Option (List Nat × List Nat))
def lastsOf (τ : Tau) : List Nat := τ.flatMap fun e => e.1.lasts
def stepOk (ops : List Oper) (lasts done : List Nat) (k i : Nat) : Bool :=
  readyL ops done i && (match ops[i]? with
    | some o => match k with
      | 0 => freeL ops done i o 0 ops && notIn i lasts
      | 1 => (freeL ops done i o 0 ops && notIn i lasts) && lasts.all fun d => !(notIn d done) || waitsL ops i ops.length d
      | 2 => onlyL ops done i 0 ops && notIn i lasts
      | 3 => onlyL ops done i 0 ops
      | _ => false
    | none => false)
def coverL (ops : List Oper) (done ids : List Nat) : Nat → List Oper → Bool
  | _, [] => true
  | j, _ :: r => (!(notIn j ids) || !(readyL ops done j)) && coverL ops done ids (j + 1) r
theorem coverL_spec {ops : List Oper} {done ids : List Nat} : ∀ (l : List Oper) (k : Nat), coverL ops done ids k l = true → ∀ j, k ≤ j → j < k + l.length → readyL ops done j = true → j ∈ ids
  | [], k, _, j, h1, h2, _ => by simp at h2; omega
  | o :: r, k, h, j, h1, h2, hr => by
    simp only [coverL, Bool.and_eq_true, Bool.or_eq_true, Bool.not_eq_true'] at h
    by_cases e : j = k
    · subst e
      rcases h.1 with h | h
      · refine Classical.byContradiction fun hn => ?_
        rw [notIn_iff.2 hn] at h
        cases h
      · rw [hr] at h; cases h
    · exact coverL_spec r (k + 1) h.2 j (by omega) (by simp at h2; omega) hr
def plainL (ops : List Oper) (i : Nat) : Bool := match ops[i]? with
  | some o => (match o.guard with | none => true | some _ => false)
  | none => false
def okT (ops : List Oper) (lasts : List Nat) (c : List Nat → Bool) : List Nat → Option (List Nat) → Tr → Bool
  | done, none, .nil => c done
  | done, some ids, .no => coverL ops done ids 0 ops
  | done, none, .step k i t => stepOk ops lasts done k i && okT ops lasts c (i :: done) none t
  | done, none, .alt i t r => (readyL ops done i && notIn i lasts && noLast t && noLast r && plainL ops i) && (okT ops lasts c (i :: done) none t && okT ops lasts c done (some [i]) r)
  | done, some ids, .alt i t r => (readyL ops done i && notIn i lasts && noLast t && noLast r && plainL ops i) && (okT ops lasts c (i :: done) none t && okT ops lasts c done (some (i :: ids)) r)
  | _, _, _ => false
def tauOk (ops : List Oper) (lasts : List Nat) : Tau → List Nat → Bool
  | [], done => onlyL ops done ops.length 0 ops
  | (t, _) :: r, done => okT ops lasts (tauOk ops lasts r) done none t
def Tau.depth : Tau → Nat
  | [] => 0
  | (t, _) :: r => t.depth + Tau.depth r

def semTake (n : Nat) (ρ : Env) (o : Oper) : Option (Sem Value) :=
  match o.op with
  | .nilCheck x => some (nilc (rd n ρ x))
  | _ => semOf n ρ o

/-- fix: S stays as it is. -/
def vcHeld (P : Program) (n : Nat) (ops : List Oper) (fix : Bool) (X : Env → List Deferred → XPost) (K : (World → Prop) → OpPost) : Tr → (World → Prop) → Bool → Kn → Env → List Deferred → World → Prop
  | .nil, S, _, _, ρ, ds, w => K S ρ ds w
  | .no, _, _, _, _, _, _ => True
  | .alt i t r, S, live, kn, ρ, ds, w =>
    (match ops[i]? with
    | none => False
    | some o => opVc P n o ρ ds w (fun ρ ds w => cond live (S w ∧ vcHeld P n ops fix X K t S live (kn.drop o.dst) ρ ds w) (vcHeld P n ops fix X K t S live (kn.drop o.dst) ρ ds w)) (X ρ ds)) ∧ vcHeld P n ops fix X K r S live kn ρ ds w
  | .step k i τ, S, live, kn, ρ, ds, w =>
    match ops[i]? with
    | none => False
    | some o =>
      guarded n ops o.guard kn ρ
        (fun kn => match k with
          | 0 => match o.op with
            | .move x => vcHeld P n ops fix X K τ S live (kn.drop o.dst) (upd ρ o.dst (rd n ρ x)) ds w
            | .assign x => vcHeld P n ops fix X K τ S live (kn.drop o.dst) (upd ρ o.dst (rd n ρ x)) ds w
            | .pick c a b => Pick (rd n ρ c) (rd n ρ a) (rd n ρ b) fun v => vcHeld P n ops fix X K τ S live (kn.drop o.dst) (upd ρ o.dst v) ds w
            | _ => match semTake n ρ o with
              | some s => TakeP P s fun v => vcHeld P n ops fix X K τ S live (kn.drop o.dst) (upd ρ o.dst v) ds w
              | none => False
          | 1 => match semTake n ρ o with
            | some s => cond live (Take P s S fun v => vcHeld P n ops fix X K τ S live (kn.drop o.dst) (upd ρ o.dst v) ds w) False
            | none => False
          | 2 => cond live (opVc P n o ρ ds w (fun ρ ds w => cond fix (S w ∧ vcHeld P n ops fix X K τ S live (kn.drop o.dst) ρ ds w) (Keep S w fun S2 => vcHeld P n ops fix X K τ S2 live (kn.drop o.dst) ρ ds w)) (X ρ ds)) False
          | _ => opVc P n o ρ ds w (fun ρ ds w => vcHeld P n ops fix X K τ S false (kn.drop o.dst) ρ ds w) (X ρ ds))
        (fun kn => vcHeld P n ops fix X K τ S (live && !(Nat.beq k 3)) (kn.drop o.dst) (upd ρ o.dst undef) ds w)

def vcHeldSegs (P : Program) (n : Nat) (ops : List Oper) (X : Env → List Deferred → XPost) (K : OpPost) : Tau → (World → Prop) → Bool → Env → List Deferred → World → Prop
  | [], _, _, ρ, ds, w => K ρ ds w
  | (t, none) :: τ, S, live, ρ, ds, w => vcHeld P n ops false X (fun S ρ ds w => vcHeldSegs P n ops X K τ S (live && noLast t) ρ ds w) t S live [] ρ ds w
  | (t, some (L, A)) :: τ, S, live, ρ, ds, w =>
    cond ((t.ops.all fun i => match ops[i]? with | some o => okOp A o | none => false) && subL L A)
      (Share (fun vs w => ∀ σ : Env, vcHeldSegs P n ops X K τ S (live && noLast t) (mix L A vs σ ρ) ds w) (fun J => vcHeld P n ops true X (fun _ ρ' _ w' => J (L.map ρ') w') t S live [] ρ ds w)) False

theorem take_run {P : Program} {n : Nat} {ρ : Env} {o : Oper} {s : Sem Value} {v : Value} {w : World} (h : semTake n ρ o = some s) (hr : s.run P w = .ok v w) : (execOp (rd n ρ) o).run P w = .ok (.value v) w := by
  unfold semTake at h
  split at h
  · rename_i x hop
    simp only [Option.some.injEq] at h
    subst h
    have hk : RunV P (nilc (rd n ρ x)) w (fun v' w' => v' = v ∧ w' = w) (fun _ _ => False) := by
      refine ⟨?_⟩; unfold runV; rw [hr]; exact ⟨rfl, rfl⟩
    rcases nilc_run hop hk with ⟨v', w', h1, rfl, rfl⟩ | ⟨v', w', _, hf⟩
    · exact h1
    · exact hf.elim
  · rw [semOf_eq h]
    simp [hr]

theorem marks_closed {ops : Array Oper} {done : List Nat} (h : ∀ i ∈ done, ∀ o, ops[i]? = some o → ∀ e ∈ o.after, Region.binds .any e = true → e.on ∈ done) (hd : ∀ i ∈ done, i < ops.size) : ListedClosed .any ops (marks ops.size done) := by
  intro j oj hj hl e he hb
  rw [marks_getD] at hl ⊢
  split at hl
  · have hm : j ∈ done := by
      refine Classical.byContradiction fun hn => ?_
      rw [notIn_iff.2 hn] at hl
      cases hl
    have := h j hm oj hj e he hb
    have hn : notIn e.on done = false := by rw [Bool.eq_false_iff]; intro hh; exact notIn_iff.1 hh this
    simp [hd _ this, hn]
  · cases hl

def heldGoal (P : Program) (ops : Array Oper) (Q : Exit → Act → World → Prop) (S : World → Prop) (lasts : List Nat) (fuel : Nat) (live : Bool) (done : List Nat) (a : Act) (w : World) : Option (List Nat) → Prop
  | none => wpAnyLast P .any ops Q S lasts fuel live (marks ops.size done) a w
  | some ids => ∀ j ∈ Region.ready .any ops (marks ops.size done), j ∉ ids → wpOp P ops Q j (fun a' w' => ((live && notIn j lasts) = true → S w') ∧ wpAnyLast P .any ops Q S lasts (fuel - 1) (live && notIn j lasts) ((marks ops.size done).setIfInBounds j true) a' w') a w
theorem vcHeld_all {P : Program} {n : Nat} {ops : Array Oper} {Q : Exit → Act → World → Prop} {lasts : List Nat} {c : List Nat → Bool} {fix : Bool} {X : Env → List Deferred → XPost} (hsel : ∀ (j : Nat) (o : Oper), ops[j]? = some o → noSel o = true)
    (hQ : ∀ o ∈ ops, ∀ v c a w, Q (.panic c) (a.put o.dst v) w → Q (.panic c) a w) (hX : ∀ ρ ds c w, X ρ ds c w → Q (.panic c) (act n ρ ds) w) :
    ∀ (τ : Tr) (m : Option (List Nat)) (S : World → Prop) (K : (World → Prop) → OpPost) (done : List Nat) (fuel : Nat) (live : Bool) (kn : Kn) (ρ : Env) (ds : List Deferred) (w : World), (∀ j ∈ done, j < ops.size) → ListedClosed .any ops (marks ops.size done) → (∀ i ∈ τ.lasts, i ∈ lasts) → τ.depth ≤ fuel → kn.true n ρ → (live = true → S w) → okT ops.toList lasts c done m τ = true →
      (∀ S' ρ' ds' w' done' fuel', (fix = true → S' = S) → (∀ j ∈ done', j < ops.size) → ListedClosed .any ops (marks ops.size done') → ((live && noLast τ) = true → S' w') → c done' = true → fuel ≤ fuel' + τ.depth → K S' ρ' ds' w' → wpAnyLast P .any ops Q S' lasts fuel' (live && noLast τ) (marks ops.size done') (act n ρ' ds') w') →
      vcHeld P n ops.toList fix X K τ S live kn ρ ds w → heldGoal P ops Q S lasts fuel live done (act n ρ ds) w m
  | .nil, some _, S, K, done, fuel, live, kn, ρ, ds, w, hd, hcl, hla, _, hk, hS, ht, hK, h => by simp [okT] at ht
  | .nil, none, S, K, done, fuel, live, kn, ρ, ds, w, hd, hcl, hla, _, hk, hS, ht, hK, h => by
    have := hK S ρ ds w done fuel (fun _ => rfl) hd hcl (fun e => hS (by simpa [noLast] using e)) (by simpa [okT] using ht) (by omega) h
    show wpAnyLast P .any ops Q S lasts fuel live (marks ops.size done) (act n ρ ds) w
    simpa [noLast] using this
  | .no, none, S, K, done, fuel, live, kn, ρ, ds, w, hd, hcl, hla, _, hk, hS, ht, hK, h => by simp [okT] at ht
  | .no, some ids, S, K, done, fuel, live, kn, ρ, ds, w, hd, hcl, hla, _, hk, hS, ht, hK, h => by
    intro j hj hn
    have hlt : j < ops.size := by
      obtain ⟨_, o, ho, _⟩ := mem_ready.1 hj
      exact (Array.getElem?_eq_some_iff.1 ho).1
    simp only [okT] at ht
    exact absurd (coverL_spec ops.toList 0 ht j (Nat.zero_le _) (by simpa using hlt) ((readyL_iff hd j).2 hj)) hn
  | .alt i t r, m, S, K, done, fuel, live, kn, ρ, ds, w, hd, hcl, hla, hf, hk, hS, ht, hK, h => by
    have hdep : t.depth + 1 ≤ (Tr.alt i t r).depth ∧ r.depth ≤ (Tr.alt i t r).depth := ⟨Nat.le_max_left _ _, Nat.le_max_right _ _⟩
    obtain ⟨fuel, rfl⟩ : ∃ f, fuel = f + 1 := ⟨fuel - 1, by omega⟩
    have hts : (readyL ops.toList done i && notIn i lasts && noLast t && noLast r && plainL ops.toList i) = true ∧ okT ops.toList lasts c (i :: done) none t = true ∧ okT ops.toList lasts c done (some (i :: m.getD [])) r = true := by
      cases m with
      | none => simpa only [okT, Bool.and_eq_true, Option.getD_none] using ht
      | some ids => simpa only [okT, Bool.and_eq_true, Option.getD_some] using ht
    obtain ⟨hcs, ht1, ht2⟩ := hts
    simp only [Bool.and_eq_true] at hcs
    obtain ⟨⟨⟨⟨hrd, hnl⟩, hlt⟩, hlr⟩, hpl⟩ := hcs
    have hnla : noLast (.alt i t r) = true := by simp [noLast, hlt, hlr]
    have hready := (readyL_iff hd i).1 hrd
    obtain ⟨h1, h2⟩ := h
    rw [Array.getElem?_toList] at h1
    unfold plainL at hpl
    rw [Array.getElem?_toList] at hpl
    cases ho : ops[i]? with
    | none => rw [ho] at h1; exact h1.elim
    | some o =>
      rw [ho] at h1 hpl
      simp only at h1 hpl
      have hlt' : i < ops.size := (Array.getElem?_eq_some_iff.1 ho).1
      have hd' : ∀ j ∈ i :: done, j < ops.size := by
        intro j hj
        rcases List.mem_cons.1 hj with rfl | hj
        · exact hlt'
        · exact hd j hj
      have hcl' : ListedClosed .any ops (marks ops.size (i :: done)) := by rw [← marks_set]; exact hcl.set hready
      have hone : wpOp P ops Q i (fun a' w' => ((live && notIn i lasts) = true → S w') ∧ wpAnyLast P .any ops Q S lasts (fuel + 1 - 1) (live && notIn i lasts) ((marks ops.size done).setIfInBounds i true) a' w') (act n ρ ds) w := by
        unfold wpOp
        simp only [ho]
        have hw : Region.wanted o (yielded ops (act n ρ ds).tmps) = true := by
          unfold Region.wanted
          cases hg : o.guard with
          | none => rfl
          | some g => rw [hg] at hpl; cases hpl
        rw [if_pos hw]
        refine .inl (opVc_sound (fun v ds w hh => ?_) (fun c w hh => hX _ _ _ _ hh) h1)
        rw [marks_set, hnl, Bool.and_true, Nat.add_sub_cancel]
        have ih := vcHeld_all (P := P) (fix := fix) (lasts := lasts) (c := c) hsel hQ hX t none S K (i :: done) fuel live (kn.drop o.dst) (upd ρ o.dst v) ds w hd' hcl' (fun j hj => hla j (by simp [Tr.lasts, hj])) (by omega) (Kn.drop_true hk)
        cases live with
        | true =>
          simp only [cond_true] at hh
          exact ⟨fun _ => hh.1, ih (fun _ => hh.1) ht1 (fun S' ρ' ds' w' done' fuel' h0 h1 h2 h3 h4 h5 h6 => by
            have := hK S' ρ' ds' w' done' fuel' h0 h1 h2 (fun e => h3 (by simp [hlt])) h4 (by omega) h6
            simpa [hnla, hlt] using this) hh.2⟩
        | false =>
          simp only [cond_false] at hh
          exact ⟨fun e => (by cases e), ih (fun e => (by cases e)) ht1 (fun S' ρ' ds' w' done' fuel' h0 h1 h2 h3 h4 h5 h6 => by
            have := hK S' ρ' ds' w' done' fuel' h0 h1 h2 (fun e => (by cases e)) h4 (by omega) h6
            simpa using this) hh⟩
      have hrest := vcHeld_all (P := P) (fix := fix) (lasts := lasts) (c := c) hsel hQ hX r (some (i :: m.getD [])) S K done (fuel + 1) live kn ρ ds w hd hcl (fun j hj => hla j (by simp [Tr.lasts, hj])) (by omega) hk hS ht2 (fun S' ρ' ds' w' done' fuel' h0 h1 h2 h3 h4 h5 h6 => by
        have := hK S' ρ' ds' w' done' fuel' h0 h1 h2 (fun e => h3 (by simpa [hnla, hlr] using e)) h4 (by omega) h6
        simpa [hnla, hlr] using this) h2
      have hall : ∀ j ∈ Region.ready .any ops (marks ops.size done), j ∉ m.getD [] → wpOp P ops Q j (fun a' w' => ((live && notIn j lasts) = true → S w') ∧ wpAnyLast P .any ops Q S lasts (fuel + 1 - 1) (live && notIn j lasts) ((marks ops.size done).setIfInBounds j true) a' w') (act n ρ ds) w := by
        intro j hj hjm
        by_cases hji : j = i
        · subst hji; exact hone
        · exact hrest j hj (by simp [hji, hjm])
      cases m with
      | none => exact wpAnyLast_all rfl (fun hnil => by rw [hnil] at hready; cases hready) (fun j hj => hall j hj (by simp))
      | some ids => exact fun j hj hn => hall j hj (by simpa using hn)
  | .step k i τ, some _, S, K, done, fuel, live, kn, ρ, ds, w, hd, hcl, hla, hf, hk, hS, ht, hK, h => by simp [okT] at ht
  | .step k i τ, none, S, K, done, fuel, live, kn, ρ, ds, w, hd, hcl, hla, hf, hk, hS, ht, hK, h => by
    obtain ⟨fuel, rfl⟩ : ∃ f, fuel = f + 1 := ⟨fuel - 1, by simp only [Tr.depth] at hf; omega⟩
    simp only [okT, Bool.and_eq_true] at ht
    obtain ⟨ht1, ht2⟩ := ht
    have hK' : ∀ live', (live && noLast (.step k i τ)) = (live' && noLast τ) → ∀ S1, (fix = true → S1 = S) → ∀ S' ρ' ds' w' done' fuel', (fix = true → S' = S1) → (∀ j ∈ done', j < ops.size) → ListedClosed .any ops (marks ops.size done') → ((live' && noLast τ) = true → S' w') → c done' = true → fuel ≤ fuel' + τ.depth → K S' ρ' ds' w' → wpAnyLast P .any ops Q S' lasts fuel' (live' && noLast τ) (marks ops.size done') (act n ρ' ds') w' := by
      intro live' hl S1 hS1 S' ρ' ds' w' done' fuel' h0 h1 h2 h3 h4 h5 h6
      have := hK S' ρ' ds' w' done' fuel' (fun e => (h0 e).trans (hS1 e)) h1 h2 (fun e => h3 (hl ▸ e)) h4 (by simp only [Tr.depth]; omega) h6
      rw [hl] at this
      exact this
    have hlive : Nat.beq k 3 = false → (live && noLast (.step k i τ)) = (live && noLast τ) := by
      intro e; simp [noLast, e]
    simp only [stepOk, Bool.and_eq_true] at ht1
    obtain ⟨hr, ht1⟩ := ht1
    unfold vcHeld at h
    rw [Array.getElem?_toList] at h ht1
    cases ho : ops[i]? with
    | none => rw [ho] at h; exact h.elim
    | some o =>
      rw [ho] at h ht1
      simp only at h ht1
      have hlt : i < ops.size := (Array.getElem?_eq_some_iff.1 ho).1
      have hd' : ∀ j ∈ i :: done, j < ops.size := by
        intro j hj
        rcases List.mem_cons.1 hj with rfl | hj
        · exact hlt
        · exact hd j hj
      have hready := (readyL_iff hd i).1 hr
      have hcl' : ListedClosed .any ops (marks ops.size (i :: done)) := by rw [← marks_set]; exact hcl.set hready
      have hla' : ∀ j ∈ τ.lasts, j ∈ lasts := fun j hj => hla j (by simp only [Tr.lasts]; cases Nat.beq k 3 <;> simp [hj])
      have ih := fun hk3 kn ρ w hk hS hh => vcHeld_all (P := P) (fix := fix) (lasts := lasts) (c := c) hsel hQ hX τ none S K (i :: done) fuel live kn ρ ds w hd' hcl' hla' (by simp only [Tr.depth] at hf; omega) hk hS ht2 (hK' live (hlive hk3) S (fun _ => rfl)) hh
      have ih2 := fun live' hl S1 hS1 kn ρ ds w hk hS hh => vcHeld_all (P := P) (fix := fix) (lasts := lasts) (c := c) hsel hQ hX τ none S1 K (i :: done) fuel live' kn ρ ds w hd' hcl' hla' (by simp only [Tr.depth] at hf; omega) hk hS ht2 (hK' live' hl S1 hS1) hh
      have hselA : Region.noSelect ops = true := by
        unfold Region.noSelect
        refine Array.all_eq_true_iff_forall_mem.2 fun x hx => ?_
        obtain ⟨j, hj⟩ := Array.getElem?_of_mem hx
        exact hsel j x hj
      have hfree : freeL ops.toList done i o 0 ops.toList = true → ∀ (j : Nat) (oj : Oper), ops[j]? = some oj → j ≠ i → (marks ops.size done).getD j true = false → (∀ e ∈ oj.after, Region.binds .any e = true → e.on ≠ i) → o.apart ops oj = true := by
        intro hfr j oj hj hne hun hno
        rw [marks_getD, if_pos (Array.getElem?_eq_some_iff.1 hj).1] at hun
        exact freeL_spec hsel (hsel i o ho) ops.toList 0 (by simp) hfr j oj (Nat.zero_le _) hj hne (by simpa using hun) hno
      have firstP : freeL ops.toList done i o 0 ops.toList = true → notIn i lasts = true → ∀ v, Yields P ops o v (act n ρ ds) → wpAnyLast P .any ops Q S lasts fuel live (marks ops.size (i :: done)) (act n (upd ρ o.dst v) ds) w → wpAnyLast P .any ops Q S lasts (fuel + 1) live (marks ops.size done) (act n ρ ds) w := by
        intro hfr hid v hy hh
        refine wpAnyLast_any ho (Region.noSelect_spec hselA) (fun c a w hp => hQ o (Array.mem_of_getElem? ho) _ c a w hp) fuel _ _ _ w (hfree hfr) hready hy hS hid ?_
        rw [marks_set, act_put]; exact hh
      have hdo : ∀ kn' : Kn, kn'.true n ρ → ∀ R : OpPost, (∀ v ds w', R (upd ρ o.dst v) ds w' → ((live && notIn i lasts) = true → S w') ∧ wpAnyLast P .any ops Q S lasts fuel (live && notIn i lasts) (marks ops.size (i :: done)) (act n (upd ρ o.dst v) ds) w') → opVc P n o ρ ds w R (X ρ ds) → o.wp P (act n ρ ds) w (fun a' w' => ((live && notIn i lasts) = true → S w') ∧ wpAnyLast P .any ops Q S lasts fuel (live && notIn i lasts) ((marks ops.size done).setIfInBounds i true) a' w') Q := by
        intro kn' hk' R hR hop
        refine opVc_sound (fun v ds w hh => ?_) (fun c w hh => hX _ _ _ _ hh) hop
        rw [marks_set]
        exact hR v ds w hh
      have all : onlyL ops.toList done i 0 ops.toList = true → wpOp P ops Q i (fun a' w' => ((live && notIn i lasts) = true → S w') ∧ wpAnyLast P .any ops Q S lasts fuel (live && notIn i lasts) ((marks ops.size done).setIfInBounds i true) a' w') (act n ρ ds) w → wpAnyLast P .any ops Q S lasts (fuel + 1) live (marks ops.size done) (act n ρ ds) w := by
        intro hon hh
        refine wpAnyLast_all rfl (fun hnil => by rw [hnil] at hready; cases hready) ?_
        intro j hj
        have hlt : j < ops.size := by
          obtain ⟨_, o, ho, _⟩ := mem_ready.1 hj
          exact (Array.getElem?_eq_some_iff.1 ho).1
        obtain rfl := onlyL_spec ops.toList 0 hon j (Nat.zero_le _) (by simpa using hlt) ((readyL_iff hd j).2 hj)
        exact hh
      have skipped : Nat.beq k 3 = false → ∀ kn' : Kn, kn'.true n ρ → Region.wanted o (yielded ops (act n ρ ds).tmps) = false → vcHeld P n ops.toList fix X K τ S (live && !(Nat.beq k 3)) (kn'.drop o.dst) (upd ρ o.dst undef) ds w → wpAnyLast P .any ops Q S lasts fuel live (marks ops.size (i :: done)) (act n (upd ρ o.dst undef) ds) w :=
        fun hk3 kn' hk' _ hy => ih hk3 _ _ _ (Kn.drop_true hk') hS (by rw [hk3] at hy; simpa using hy)
      rcases guarded_sound (ds := ds) hk h with ⟨hw, kn', hk', hy⟩ | ⟨hw, kn', hk', hy⟩
      · match k, ht1, hy, hla with
        | 0, ht1, hy, _ =>
          simp only [Bool.and_eq_true] at ht1 hy
          have mv : ∀ v, (∀ w, (execOp (rd n ρ) o).run P w = .ok (.value v) w) → vcHeld P n ops.toList fix X K τ S live (kn'.drop o.dst) (upd ρ o.dst v) ds w → wpAnyLast P .any ops Q S lasts (fuel + 1) live (marks ops.size done) (act n ρ ds) w := by
            intro v hrun hh
            refine firstP ht1.1 ht1.2 v (.inl ⟨hw, fun w => by rw [act_eval]; exact hrun w⟩) ?_
            exact ih rfl _ _ _ (Kn.drop_true hk') hS hh
          split at hy
          · rename_i x hop
            exact mv _ (fun w => by unfold execOp; rw [hop]; rfl) hy
          · rename_i x hop
            exact mv _ (fun w => by unfold execOp; rw [hop]; rfl) hy
          · rename_i c a b hop
            obtain ⟨⟨t, ht, hk⟩⟩ := hy
            exact mv _ (fun w => by unfold execOp; rw [hop]; simp only [ht]; cases t <;> rfl) hk
          · split at hy
            · rename_i s hs
              obtain ⟨⟨v, hrun, hh⟩⟩ := hy
              exact mv v (fun w' => take_run hs (hrun w')) hh
            · exact hy.elim
        | 1, ht1, hy, _ =>
          simp only [Bool.and_eq_true] at ht1 hy
          split at hy
          · rename_i s hs
            cases live with
            | false => exact hy.elim
            | true =>
              simp only [cond_true] at hy
              obtain ⟨⟨v, hrun, hh⟩⟩ := hy
              refine wpAnyLast_first ho (Region.noSelect_spec hselA) (fun c a w hp => hQ o (Array.mem_of_getElem? ho) _ c a w hp) ops.size fuel _ _ w (hfree ht1.1.1) hcl ?_ hready (.inl ⟨hw, fun w' hw' => by rw [act_eval]; exact take_run hs (hrun w' hw')⟩) (hS rfl) ht1.1.2 ?_
              · intro d hdm hun
                have := List.all_eq_true.1 ht1.2 d hdm
                simp only [Bool.or_eq_true, Bool.not_eq_true'] at this
                rcases this with this | this
                · rw [marks_getD] at hun
                  split at hun
                  · rw [this] at hun; cases hun
                  · cases hun
                · have h2 := waitsL_spec _ _ this
                  simpa using h2
              · rw [marks_set, act_put]
                exact ih rfl _ _ _ (Kn.drop_true hk') hS hh
          · exact hy.elim
        | 2, ht1, hy, _ =>
          simp only [Bool.and_eq_true] at ht1 hy
          refine all ht1.1 ?_
          unfold wpOp
          simp only [ho]
          rw [if_pos hw]
          cases live with
          | true =>
            simp only [cond_true] at hy
            refine .inl (hdo kn' hk' _ (fun v ds' w' hh => ?_) hy)
            rw [ht1.2, Bool.and_true]
            cases hfx : fix with
            | true =>
              simp only [hfx, cond_true] at hh
              exact ⟨fun _ => hh.1, ih2 true (hlive rfl) S (fun _ => rfl) _ _ _ _ (Kn.drop_true hk') (fun _ => hh.1) (by rw [hfx]; exact hh.2)⟩
            | false =>
              simp only [hfx, cond_false] at hh
              obtain ⟨⟨S2, h1, h2, h3⟩⟩ := hh
              exact ⟨fun _ => h2 _ h1, wpAnyLast_weaken h2 _ _ _ _ _ (ih2 true (hlive rfl) S2 (fun e => by rw [hfx] at e; cases e) _ _ _ _ (Kn.drop_true hk') (fun _ => h1) (by rw [hfx]; exact h3))⟩
          | false => exact hy.elim
        | 3, ht1, hy, hla =>
          simp only at ht1 hy
          refine all ht1 ?_
          unfold wpOp
          simp only [ho]
          rw [if_pos hw]
          have hin : notIn i lasts = false := by rw [Bool.eq_false_iff]; exact fun e => notIn_iff.1 e (hla i (by simp [Tr.lasts]))
          rw [hin, Bool.and_false] at hdo ⊢
          exact .inl (hdo kn' hk' _ (fun v ds' w' hh => ⟨fun e => (by cases e), ih2 false (by simp [noLast]) S (fun _ => rfl) _ _ _ _ (Kn.drop_true hk') (fun e => by cases e) hh⟩) hy)
        | k + 4, ht1, _, _ => simp at ht1
      · match k, ht1 with
        | 0, ht1 =>
          simp only [Bool.and_eq_true] at ht1
          exact firstP ht1.1 ht1.2 undef (.inr ⟨hw, rfl⟩) (skipped rfl kn' hk' hw hy)
        | 1, ht1 =>
          simp only [Bool.and_eq_true] at ht1
          exact firstP ht1.1.1 ht1.1.2 undef (.inr ⟨hw, rfl⟩) (skipped rfl kn' hk' hw hy)
        | 2, ht1 =>
          simp only [Bool.and_eq_true] at ht1
          refine all ht1.1 ?_
          unfold wpOp
          simp only [ho]
          rw [if_neg (by simp [hw]), act_put, marks_set, ht1.2, Bool.and_true]
          exact ⟨hS, skipped rfl kn' hk' hw hy⟩
        | 3, ht1 =>
          refine all ht1 ?_
          unfold wpOp
          simp only [ho]
          have hin : notIn i lasts = false := by rw [Bool.eq_false_iff]; exact fun e => notIn_iff.1 e (hla i (by simp [Tr.lasts]))
          rw [if_neg (by simp [hw]), act_put, marks_set, hin, Bool.and_false]
          exact ⟨fun e => (by cases e), ih2 false (by simp [noLast]) S (fun _ => rfl) _ _ _ _ (Kn.drop_true hk') (fun e => by cases e) (by simpa using hy)⟩
        | k + 4, ht1 => simp at ht1

theorem vcHeld_frame {P : Program} {n : Nat} {A : List Nat} {ρ0 : Env} {ds0 : List Deferred} {ops : List Oper} {fix : Bool} {X X' : Env → List Deferred → XPost} {K K' : (World → Prop) → OpPost} (hX : ∀ ρ c w, agree A ρ0 ρ → X ρ ds0 c w → X' ρ ds0 c w) (hK : ∀ S ρ' w', agree A ρ0 ρ' → K S ρ' ds0 w' → K' S ρ' ds0 w') :
    ∀ (τ : Tr) (S : World → Prop) (live : Bool) (kn : Kn) (ρ : Env) (w : World), (∀ i ∈ τ.ops, ∀ o, ops[i]? = some o → okOp A o = true) → agree A ρ0 ρ → vcHeld P n ops fix X K τ S live kn ρ ds0 w → vcHeld P n ops fix X' K' τ S live kn ρ ds0 w
  | .nil, S, _, _, ρ, w, _, hag, h => hK S ρ w hag h
  | .no, S, _, _, ρ, w, _, hag, h => trivial
  | .alt i t r, S, live, kn, ρ, w, hops, hag, h => by
    unfold vcHeld at *
    refine ⟨?_, vcHeld_frame (P := P) (n := n) (fix := fix) hX hK r S live kn ρ w (fun e he => hops e (by simp [Tr.ops, he])) hag h.2⟩
    have h1 := h.1
    cases ho : ops[i]? with
    | none => rw [ho] at h1; exact h1.elim
    | some o =>
      rw [ho] at h1
      simp only at h1 ⊢
      have hok := hops i (by simp [Tr.ops]) o ho
      refine opVc_frame hok hag (fun ρ' w' hag' hh => ?_) (fun _ _ hh => hX _ _ _ hag hh) h1
      have ih := vcHeld_frame (P := P) (n := n) (fix := fix) hX hK t S live (kn.drop o.dst) ρ' w' (fun e he => hops e (by simp [Tr.ops, he])) hag'
      cases live with
      | true => exact ⟨hh.1, ih hh.2⟩
      | false => exact ih hh
  | .step k i τ, S, live, kn, ρ, w, hops, hag, h => by
    unfold vcHeld at *
    cases ho : ops[i]? with
    | none => rw [ho] at h; exact h.elim
    | some o =>
      rw [ho] at h
      simp only at h ⊢
      have hok := hops i (by simp [Tr.ops]) o ho
      have hu : ∀ v, agree A ρ0 (upd ρ o.dst v) := fun v => hag.upd (okOp_dst hok) v
      have ih := fun S live kn ρ w => vcHeld_frame (P := P) (n := n) (fix := fix) hX hK τ S live kn ρ w (fun e he => hops e (by simp [Tr.ops, he]))
      refine guarded_mono (fun kn hh => ?_) (fun kn hh => ih _ _ _ _ _ (hu _) hh) h
      match k, hh with
      | 0, hh =>
        simp only at hh ⊢
        split at hh
        · exact ih _ _ _ _ _ (hu _) hh
        · exact ih _ _ _ _ _ (hu _) hh
        · obtain ⟨⟨t, ht, hk⟩⟩ := hh; exact ⟨⟨t, ht, ih _ _ _ _ _ (hu _) hk⟩⟩
        · split at hh
          · obtain ⟨⟨v, hv, hk⟩⟩ := hh; exact ⟨⟨v, hv, ih _ _ _ _ _ (hu _) hk⟩⟩
          · exact hh
      | 1, hh =>
        simp only at hh ⊢
        split at hh
        · cases live with
          | false => exact hh
          | true => obtain ⟨⟨v, hv, hk⟩⟩ := hh; exact ⟨⟨v, hv, ih _ _ _ _ _ (hu _) hk⟩⟩
        · exact hh
      | 2, hh =>
        simp only at hh ⊢
        cases live with
        | false => exact hh
        | true =>
          simp only [cond_true] at hh ⊢
          refine opVc_frame hok hag (fun ρ' w' hag' hh => ?_) (fun _ _ hh => hX _ _ _ hag hh) hh
          cases fix with
          | true => exact ⟨hh.1, ih _ _ _ _ _ hag' hh.2⟩
          | false => obtain ⟨⟨S2, h1, h2, h3⟩⟩ := hh; exact ⟨⟨S2, h1, h2, ih _ _ _ _ _ hag' h3⟩⟩
      | k + 3, hh =>
        exact opVc_frame hok hag (fun ρ' w' hag' hh => ih _ _ _ _ _ hag' hh) (fun _ _ hh => hX _ _ _ hag hh) hh

def okTau (A : List Nat) (τ : Tau) : Bool := τ.all fun e => match e.2 with | none => true | some (L, A') => subL L A' && subL A' A
theorem vcHeldSegs_frame {P : Program} {n : Nat} {A : List Nat} {ρ0 : Env} {ds0 : List Deferred} {ops : List Oper} {X X' : Env → List Deferred → XPost} {K K' : OpPost} (hX : ∀ ρ c w, agree A ρ0 ρ → X ρ ds0 c w → X' ρ ds0 c w) (hops : ∀ (i : Nat) (o : Oper), ops[i]? = some o → okOp A o = true) (hK : ∀ ρ' w', agree A ρ0 ρ' → K ρ' ds0 w' → K' ρ' ds0 w') :
    ∀ (τ : Tau) (S : World → Prop) (live : Bool) (ρ : Env) (w : World), okTau A τ = true → agree A ρ0 ρ → vcHeldSegs P n ops X K τ S live ρ ds0 w → vcHeldSegs P n ops X' K' τ S live ρ ds0 w
  | [], S, live, ρ, w, _, hag, h => hK _ _ hag h
  | (t, none) :: τ, S, live, ρ, w, hs, hag, h => by
    simp only [okTau, List.all_cons, Bool.and_eq_true] at hs
    unfold vcHeldSegs at *
    exact vcHeld_frame hX (fun S ρ' w' hag' hh => vcHeldSegs_frame hX hops hK τ S _ ρ' w' hs.2 hag' hh) _ S _ [] ρ w (fun e _ o ho => hops _ o ho) hag h
  | (t, some (L, A')) :: τ, S, live, ρ, w, hs, hag, h => by
    simp only [okTau, List.all_cons, Bool.and_eq_true] at hs
    unfold vcHeldSegs at *
    cases hb : ((t.ops.all fun i => match ops[i]? with | some o => okOp A' o | none => false) && subL L A') with
    | false => rw [hb] at h; exact h.elim
    | true =>
      rw [hb] at h
      simp only [cond_true] at h ⊢
      refine ⟨?_⟩
      replace h := h.out
      exact vcHeld_frame hX (fun _ ρ' w' hag' hh σ => vcHeldSegs_frame hX hops hK τ S _ _ w' hs.2 (mix_agree (subL_spec hs.1.1) (subL_spec hs.1.2) hag) (hh σ)) _ S _ [] ρ w (fun e _ o ho => hops _ o ho) hag h

theorem vcHeldSegs_sound {P : Program} {n : Nat} {ops : Array Oper} {X : Env → List Deferred → XPost} {K : OpPost} {Q : Exit → Act → World → Prop} {lasts : List Nat} (hsel : ∀ (j : Nat) (o : Oper), ops[j]? = some o → noSel o = true)
    (hK : ∀ ρ ds w, K ρ ds w → Q .normal (act n ρ ds) w) (hQ : ∀ o ∈ ops, ∀ v c a w, Q (.panic c) (a.put o.dst v) w → Q (.panic c) a w) (hX : ∀ ρ ds c w, X ρ ds c w → Q (.panic c) (act n ρ ds) w) :
    ∀ (τ : Tau) (S : World → Prop) (done : List Nat) (fuel : Nat) (live : Bool) (ρ : Env) (ds : List Deferred) (w : World), (∀ j ∈ done, j < ops.size) → ListedClosed .any ops (marks ops.size done) → (∀ e ∈ τ, ∀ i ∈ e.1.lasts, i ∈ lasts) → τ.depth ≤ fuel → (live = true → S w) → tauOk ops.toList lasts τ done = true →
      vcHeldSegs P n ops.toList X K τ S live ρ ds w → wpAnyLast P .any ops Q S lasts fuel live (marks ops.size done) (act n ρ ds) w
  | [], S, done, fuel, live, ρ, ds, w, hd, hcl, hla, hf, hS, ht, h => by
    refine wpAnyLast_done ?_ (hK _ _ _ h) _
    rw [List.eq_nil_iff_forall_not_mem]
    intro i hi
    have hlt : i < ops.size := by
      obtain ⟨_, o, ho, _⟩ := mem_ready.1 hi
      exact (Array.getElem?_eq_some_iff.1 ho).1
    have := onlyL_spec ops.toList 0 ht i (Nat.zero_le _) (by simpa using hlt) ((readyL_iff hd i).2 hi)
    simp at this
    omega
  | (t, none) :: τ, S, done, fuel, live, ρ, ds, w, hd, hcl, hla, hf, hS, ht, h => by
    unfold vcHeldSegs at h
    simp only [Tau.depth] at hf
    refine vcHeld_all (c := tauOk ops.toList lasts τ) hsel hQ hX t none S _ done fuel live [] ρ ds w hd hcl (fun i hi => hla _ List.mem_cons_self i hi) (by omega) (by intro e he; cases he) hS ht ?_ h
    intro S' ρ' ds' w' done' fuel' _ hd' hcl' hS' ht' hfu hk
    exact vcHeldSegs_sound hsel hK hQ hX τ S' done' _ _ ρ' ds' w' hd' hcl' (fun e he => hla e (by simp [he])) (by omega) hS' ht' hk
  | (t, some (L, A)) :: τ, S, done, fuel, live, ρ, ds, w, hd, hcl, hla, hf, hS, ht, h => by
    unfold vcHeldSegs at h
    simp only [Tau.depth] at hf
    cases hb : ((t.ops.all fun i => match ops.toList[i]? with | some o => okOp A o | none => false) && subL L A) with
    | false => rw [hb] at h; exact h.elim
    | true =>
      rw [hb] at h
      simp only [cond_true] at h
      replace h := h.out
      simp only [Bool.and_eq_true] at hb
      have h' := vcHeld_frame (P := P) (n := n) (A := A) (ρ0 := ρ) (ds0 := ds) (ops := ops.toList) (X := X) (X' := X) (fun _ _ _ _ hh => hh) (K' := fun _ ρ' ds' w' => ds' = ds ∧ vcHeldSegs P n ops.toList X K τ S (live && noLast t) ρ' ds w') (fun _ ρ' w' hag hh => ⟨rfl, by
        have := hh ρ'
        rw [mix_self (subL_spec hb.2) hag] at this
        exact this⟩) t S live [] ρ w (fun e he o ho => by
          have := List.all_eq_true.1 hb.1 e he
          simp only [ho] at this
          exact this) (agree.refl _ _) h
      refine vcHeld_all (c := tauOk ops.toList lasts τ) hsel hQ hX t none S _ done fuel live [] ρ ds w hd hcl (fun i hi => hla _ List.mem_cons_self i hi) (by omega) (by intro e he; cases he) hS ht ?_ h'
      intro S' ρ' ds' w' done' fuel' hSS hd' hcl' hS' ht' hfu hk
      obtain rfl := hSS rfl
      obtain ⟨rfl, hk⟩ := hk
      exact vcHeldSegs_sound hsel hK hQ hX τ _ done' _ _ ρ' _ w' hd' hcl' (fun e he => hla e (by simp [he])) (by omega) hS' ht' hk

/-! ### Code -/
inductive Ann where
  | nil
  | seq (a b : Ann)
  | join (L A : List Nat) (a b : Ann)
  | one (a : Ann)
  | loop (L A : List Nat) (a : Ann)
  | ops (sg : Seg)
  | draw (τ : Tau)

def Ann.l : Ann → Ann
  | .seq a _ => a
  | .join _ _ a _ => a
  | .one a => a
  | .loop _ _ a => a
  | _ => .nil
def Ann.r : Ann → Ann
  | .seq _ b => b
  | .join _ _ _ b => b
  | _ => .nil
def Ann.J : Ann → Option (List Nat × List Nat)
  | .join L A _ _ => some (L, A)
  | _ => none
def Ann.lp : Ann → Option (List Nat × List Nat)
  | .loop L A _ => some (L, A)
  | _ => none
def Ann.segs : Ann → Seg
  | .ops sg => sg
  | _ => []
def Ann.tau : Ann → Option Tau
  | .draw τ => some τ
  | _ => none

def okIn (n : Nat) (A : List Nat) : Code → Ann → Bool
  | .region _ ops false, an => ops.toList.all (okOp A) && okSeg A an.segs
  | .region _ ops true, an => ops.toList.all (okOp A) && (match an.tau with | some τ => okTau A τ | none => false)
  | .seq a b, an => okIn n A a an.l && okIn n A b an.r && (match an.J with | some (L, A') => subL L A' && subL A' A | none => true)
  | .cond _ a b, an => okIn n A a an.l && okIn n A b an.r
  | .block _ c, an => okIn n A c an.l
  | .scope c, an => okIn n A c an.l
  | .loop c, an => okIn n A c an.l && (match an.lp with | some (L, A') => subL L A' && subL A' A | none => false)
  | .rangeFunc .., _ => false
  | _, _ => true

def regOk (ops : List Oper) (τ : Tau) : Bool := ops.all noSel && tauOk ops (lastsOf τ) τ [] && Nat.ble τ.depth ops.length

def vc (P : Program) (n : Nat) : Code → Ann → Post → (Env → List Deferred → XPost) → Env → List Deferred → World → Prop
  | .skip, _, Q, _, ρ, ds, w => Q .normal ρ ds w
  | .label _, _, Q, _, ρ, ds, w => Q .normal ρ ds w
  | .exit id, _, Q, _, ρ, ds, w => Q (.exit id) ρ ds w
  | .ret, _, Q, _, ρ, ds, w => Q .ret ρ ds w
  | .region _ ops false, an, Q, X, ρ, ds, w => vcSegs P n ops.toList an.segs ops.toList ρ ds w (Q .normal) X
  | .region _ ops true, an, Q, X, ρ, ds, w => match an.tau with
    | some τ => cond (regOk ops.toList τ)
      (cond (τ.any fun e => e.1.reads) (∃ S : World → Prop, S w.drew ∧ vcHeldSegs P n ops.toList X (Q .normal) τ S true ρ ds w.drew) (vcHeldSegs P n ops.toList X (Q .normal) τ (fun _ => True) false ρ ds w.drew)) False
    | none => False
  | .seq a b, an, Q, X, ρ, ds, w => match an.J with
    | none => vc P n a an.l (fun e ρ ds w => match e with
        | .normal => vc P n b an.r Q X ρ ds w
        | e => Q e ρ ds w) X ρ ds w
    | some (L, A) => cond (okIn n A a an.l && subL L A)
        (Share (fun vs w => ∀ σ : Env, vc P n b an.r Q X (mix L A vs σ ρ) ds w) (fun J => vc P n a an.l (fun e ρ' ds' w' => match e with
          | .normal => J (L.map ρ') w'
          | e => Q e ρ' ds' w') X ρ ds w)) False
  | .cond c a b, an, Q, X, ρ, ds, w => Cond (rd n ρ c) (vc P n a an.l Q X ρ ds w) (vc P n b an.r Q X ρ ds w)
  | .block id c, an, Q, X, ρ, ds, w => vc P n c an.l (fun e ρ ds w => match e with
      | .exit id' => cond (Nat.beq id' id) (Q .normal ρ ds w) (Q (.exit id') ρ ds w)
      | e => Q e ρ ds w) X ρ ds w
  | .scope c, an, Q, X, ρ, ds, w => vc P n c an.l (fun e ρ ds w => match e with
      | .goto _ => False
      | e => Q e ρ ds w) X ρ ds w
  | .loop c, an, Q, X, ρ, ds, w => match an.lp with
    | some (L, A) => cond (okIn n A c an.l && subL L A && L.all (fun i => Nat.blt i n))
      (FLoop (fun vs w k => ∀ σ : Env, vc P n c an.l (fun e ρ' ds' w' => match e with
        | .normal => k (L.map ρ') w'
        | e => Q e ρ' ds' w') X (mix L A vs σ ρ) ds w) (L.map ρ) w) False
    | none => False
  | _, _, _, _, _, _, _ => False

section frame2
variable {P : Program} {n : Nat} {A : List Nat} {ρ0 : Env} {ds0 : List Deferred}
theorem vc_frame {X X' : Env → List Deferred → XPost} (hX : ∀ ρ c w, agree A ρ0 ρ → X ρ ds0 c w → X' ρ ds0 c w) :
    ∀ (c : Code) (an : Ann) (Q Q' : Post) (ρ : Env) (w : World), okIn n A c an = true → agree A ρ0 ρ → (∀ e ρ' w', agree A ρ0 ρ' → Q e ρ' ds0 w' → Q' e ρ' ds0 w') → vc P n c an Q X ρ ds0 w → vc P n c an Q' X' ρ ds0 w := by
  intro c
  induction c with
  | skip => intro an Q Q' ρ w _ hag hQ h; simp only [vc] at *; exact hQ _ _ _ hag h
  | label l => intro an Q Q' ρ w _ hag hQ h; simp only [vc] at *; exact hQ _ _ _ hag h
  | exit id => intro an Q Q' ρ w _ hag hQ h; simp only [vc] at *; exact hQ _ _ _ hag h
  | ret => intro an Q Q' ρ w _ hag hQ h; simp only [vc] at *; exact hQ _ _ _ hag h
  | goto l => intro an Q Q' ρ w _ hag hQ h; simp only [vc] at h
  | refuse y => intro an Q Q' ρ w _ hag hQ h; simp only [vc] at h
  | rangeFunc f p a b iha ihb => intro an Q Q' ρ w _ hag hQ h; simp only [vc] at h
  | region id ops d =>
    intro an Q Q' ρ w hok hag hQ h
    cases d with
    | false =>
      simp only [okIn, Bool.and_eq_true] at hok
      simp only [vc] at *
      exact vcSegs_frame (fun ρ' w' hag' hh => hQ _ _ _ hag' hh) hX _ _ _ _ hok.1 hok.2 hag h
    | true =>
      simp only [okIn, Bool.and_eq_true] at hok
      simp only [vc] at *
      cases ht : an.tau with
      | none => rw [ht] at h; exact h.elim
      | some τ =>
        rw [ht] at h hok
        simp only at h hok ⊢
        cases hb : regOk ops.toList τ with
        | false => rw [hb] at h; exact h.elim
        | true =>
          rw [hb] at h
          simp only [cond_true] at h ⊢
          have fr := fun S live h => vcHeldSegs_frame (P := P) (n := n) (A := A) (ρ0 := ρ0) (ds0 := ds0) (K' := Q' .normal) hX (fun i o ho => List.all_eq_true.1 hok.1 o (List.mem_of_getElem? ho)) (fun ρ' w' hag' hh => hQ _ _ _ hag' hh) τ S live ρ w.drew hok.2 hag h
          cases hl : (τ.any fun e => e.1.reads) with
          | true =>
            simp only [hl, cond_true] at h ⊢
            obtain ⟨S, hS, h⟩ := h
            exact ⟨S, hS, fr _ _ h⟩
          | false =>
            simp only [hl, cond_false] at h ⊢
            exact fr _ _ h
  | seq a b iha ihb =>
    intro an Q Q' ρ w hok hag hQ h
    simp only [okIn, Bool.and_eq_true] at hok
    simp only [vc] at *
    cases hj : an.J with
    | none =>
      rw [hj] at h
      simp only at h ⊢
      refine iha _ _ _ _ _ hok.1.1 hag (fun e ρ' w' hag' hh => ?_) h
      cases e with
      | normal => exact ihb _ _ _ _ _ hok.1.2 hag' hQ hh
      | _ => exact hQ _ _ _ hag' hh
    | some p =>
      obtain ⟨L, A'⟩ := p
      rw [hj] at h hok
      simp only at h ⊢
      simp only [Bool.and_eq_true] at hok
      cases hb : (okIn n A' a an.l && subL L A') with
      | false => rw [hb] at h; exact h.elim
      | true =>
        rw [hb] at h
        simp only [cond_true] at h ⊢
        refine ⟨?_⟩
        replace h := h.out
        refine iha _ _ _ _ _ hok.1.1 hag (fun e ρ' w' hag' hh => ?_) h
        cases e with
        | normal => exact fun σ => ihb _ _ _ _ _ hok.1.2 (mix_agree (subL_spec hok.2.1) (subL_spec hok.2.2) hag) hQ (hh σ)
        | _ => exact hQ _ _ _ hag' hh
  | cond c a b iha ihb =>
    intro an Q Q' ρ w hok hag hQ h
    simp only [okIn, Bool.and_eq_true] at hok
    simp only [vc] at *
    obtain ⟨⟨t, ht, h1, h2⟩⟩ := h
    refine ⟨⟨t, ht, fun e => iha _ _ _ _ _ hok.1 hag hQ (h1 e), fun e => ihb _ _ _ _ _ hok.2 hag hQ (h2 e)⟩⟩
  | block id c ih =>
    intro an Q Q' ρ w hok hag hQ h
    simp only [okIn] at hok
    simp only [vc] at *
    refine ih _ _ _ _ _ hok hag (fun e ρ' w' hag' hh => ?_) h
    cases e with
    | exit id' =>
      simp only at hh ⊢
      cases hb : Nat.beq id' id with
      | true => rw [hb] at hh; exact hQ _ _ _ hag' hh
      | false => rw [hb] at hh; exact hQ _ _ _ hag' hh
    | _ => exact hQ _ _ _ hag' hh
  | scope c ih =>
    intro an Q Q' ρ w hok hag hQ h
    simp only [okIn] at hok
    simp only [vc] at *
    refine ih _ _ _ _ _ hok hag (fun e ρ' w' hag' hh => ?_) h
    cases e with
    | goto l => exact hh
    | _ => exact hQ _ _ _ hag' hh
  | loop c ih =>
    intro an Q Q' ρ w hok hag hQ h
    simp only [vc] at *
    cases hj : an.lp with
    | none => rw [hj] at h; exact h.elim
    | some p =>
      obtain ⟨L, A'⟩ := p
      simp only [okIn, hj, Bool.and_eq_true] at hok
      rw [hj] at h
      simp only at h ⊢
      cases hb : (okIn n A' c an.l && subL L A' && L.all (fun i => Nat.blt i n)) with
      | false => rw [hb] at h; exact h.elim
      | true =>
        rw [hb] at h
        simp only [cond_true] at h ⊢
        obtain ⟨⟨I, μ, h0, hr⟩⟩ := h
        refine ⟨⟨I, μ, h0, fun vs w hI σ => ih _ _ _ _ _ hok.1 (mix_agree (subL_spec hok.2.1) (subL_spec hok.2.2) hag) (fun e ρ' w' hag' hh => ?_) (hr vs w hI σ)⟩⟩
        cases e with
        | normal => exact hh
        | _ => exact hQ _ _ _ hag' hh
end frame2

/-- What is told of a panic hangs on no slot but these. -/
def XOk (n : Nat) (T : List Nat) (X : Env → List Deferred → XPost) : Prop := ∀ ρ ρ' ds c w, (∀ t ∈ T, rd n ρ (.tmp t) = rd n ρ' (.tmp t)) → X ρ ds c w → X ρ' ds c w
/-- No region that draws its order writes one of these slots. -/
def okDraw (T : List Nat) : Code → Bool
  | .region _ ops true => ops.toList.all fun o => match o.dst with | some d => notIn d T | none => true
  | .seq a b => okDraw T a && okDraw T b
  | .cond _ a b => okDraw T a && okDraw T b
  | .block _ c => okDraw T c
  | .scope c => okDraw T c
  | .loop c => okDraw T c
  | _ => true
theorem act_of_size {n : Nat} {a : Act} (h : a.tmps.size = n) : a = act n (fun i => a.tmps.getD i undef) a.defers := by
  obtain ⟨tm, ds⟩ := a
  simp only [act, Act.mk.injEq, and_true]
  simp only at h
  apply Array.ext
  · simp [h]
  · intro i h1 h2
    simp [Array.getD, h1]
theorem put_back {n : Nat} {T : List Nat} {X : Env → List Deferred → XPost} (hX : XOk n T X) {o : Oper} (ho : (match o.dst with | some d => notIn d T | none => true) = true) {v : Value} {c : List PanicEntry} {a : Act} {w : World}
    (h : ∃ ρ, a.put o.dst v = act n ρ (a.put o.dst v).defers ∧ X ρ (a.put o.dst v).defers c w) : ∃ ρ, a = act n ρ a.defers ∧ X ρ a.defers c w := by
  obtain ⟨ρ, ha, hx⟩ := h
  have hd : (a.put o.dst v).defers = a.defers := by cases o.dst <;> rfl
  have hsz : a.tmps.size = n := by
    have h1 : (a.put o.dst v).tmps.size = a.tmps.size := by cases o.dst <;> simp [Act.put]
    have h2 : (act n ρ (a.put o.dst v).defers).tmps.size = n := by simp [act]
    rw [← ha] at h2
    omega
  refine ⟨_, act_of_size hsz, ?_⟩
  rw [hd] at hx ha
  refine hX _ _ _ _ _ (fun t ht => ?_) hx
  have h3 : rd n ρ (.tmp t) = (a.put o.dst v).tmps.getD t undef := by rw [ha, act_getD]
  have h4 : rd n (fun i => a.tmps.getD i undef) (.tmp t) = a.tmps.getD t undef := by
    have h5 := act_getD n (fun i => a.tmps.getD i undef) a.defers t
    rw [← act_of_size hsz] at h5
    exact h5.symm
  rw [h3, h4]
  cases hdst : o.dst with
  | none => rfl
  | some d =>
    rw [hdst] at ho
    have hne : d ≠ t := by rintro rfl; exact notIn_spec ho ht
    have : (a.tmps.setIfInBounds d v)[t]? = a.tmps[t]? := Array.getElem?_setIfInBounds_ne hne
    simp only [Act.put, Array.getD_eq_getD_getElem?, this]

theorem vc_sound {P : Program} (hm : P.follows .mixedOrders = true) {n : Nat} {T : List Nat} {X : Env → List Deferred → XPost} (hXo : XOk n T X) :
    ∀ (c : Code) (an : Ann) (Q : Post) (ρ : Env) (ds : List Deferred) (w : World), okDraw T c = true → vc P n c an Q X ρ ds w → c.wp P (lift n Q X) (act n ρ ds) w := by
  intro c
  induction c with
  | skip => intro an Q ρ ds w hT h; simp only [vc] at h; exact wp_skip ⟨ρ, rfl, h⟩
  | label l => intro an Q ρ ds w hT h; simp only [vc] at h; exact wp_label ⟨ρ, rfl, h⟩
  | exit id => intro an Q ρ ds w hT h; simp only [vc] at h; exact wp_exit ⟨ρ, rfl, h⟩
  | ret => intro an Q ρ ds w hT h; simp only [vc] at h; exact wp_ret ⟨ρ, rfl, h⟩
  | goto l => intro an Q ρ ds w hT h; simp only [vc] at h
  | refuse y => intro an Q ρ ds w hT h; simp only [vc] at h
  | rangeFunc f p a b iha ihb => intro an Q ρ ds w hT h; simp only [vc] at h
  | region id ops d =>
    intro an Q ρ ds w hT h
    cases d with
    | false =>
      simp only [vc] at h
      exact wp_region_list (vcSegs_sound (K := Q .normal) (X := X) (fun ρ ds w hh => ⟨ρ, rfl, hh⟩) (fun ρ ds c w hh => ⟨ρ, rfl, hh⟩) _ _ _ _ _ h)
    | true =>
      simp only [vc] at h
      cases ht : an.tau with
      | none => rw [ht] at h; exact h.elim
      | some τ =>
        rw [ht] at h
        simp only at h
        cases hb : regOk ops.toList τ with
        | false => rw [hb] at h; exact h.elim
        | true =>
          rw [hb] at h
          simp only [cond_true] at h
          simp only [regOk, Bool.and_eq_true] at hb
          have hw : ∀ S live, (live = true → S w.drew) → vcHeldSegs P n ops.toList X (Q .normal) τ S live ρ ds w.drew → (Code.region id ops true).wp P (fun e a w => match e with | .normal => ∃ ρ, a = act n ρ a.defers ∧ Q .normal ρ a.defers w | .panic c => ∃ ρ, a = act n ρ a.defers ∧ X ρ a.defers c w | _ => False) (act n ρ ds) w := by
            intro S live hS h
            refine wp_region_last (S := S) (ds := lastsOf τ) (live := live) hm ?_
            rw [marks_nil]
            refine vcHeldSegs_sound (K := Q .normal) (fun j o ho => List.all_eq_true.1 hb.1.1 o (by rw [← Array.getElem?_toList] at ho; exact List.mem_of_getElem? ho)) (fun ρ ds w hh => ⟨ρ, rfl, hh⟩) (fun o ho v c a w hh => put_back hXo (List.all_eq_true.1 hT o (by simpa using ho)) hh) (fun ρ ds c w hh => ⟨ρ, rfl, hh⟩) τ S [] ops.size live ρ ds w.drew (by simp) (marks_closed (by simp) (by simp)) ?_ (by simpa using hb.2) hS hb.1.2 h
            intro e he i hi
            unfold lastsOf
            exact List.mem_flatMap.2 ⟨e, he, hi⟩
          have hw' : (Code.region id ops true).wp P (fun e a w => match e with | .normal => ∃ ρ, a = act n ρ a.defers ∧ Q .normal ρ a.defers w | .panic c => ∃ ρ, a = act n ρ a.defers ∧ X ρ a.defers c w | _ => False) (act n ρ ds) w := by
            cases hl : (τ.any fun e => e.1.reads) with
            | true =>
              simp only [hl, cond_true] at h
              obtain ⟨S, hS, h⟩ := h
              exact hw S true (fun _ => hS) h
            | false =>
              simp only [hl, cond_false] at h
              exact hw _ false (fun e => by cases e) h
          refine wp_mono hw' fun e a w hh => ?_
          cases e with
          | normal => exact hh
          | panic c => exact hh
          | _ => exact hh.elim
  | seq a b iha ihb =>
    intro an Q ρ ds w hT h
    simp only [okDraw, Bool.and_eq_true] at hT
    simp only [vc] at h
    cases hj : an.J with
    | none =>
      rw [hj] at h
      simp only at h
      refine wp_seq (wp_mono (iha _ _ _ _ _ hT.1 h) fun e a w hh => ?_)
      cases e with
      | normal =>
        obtain ⟨ρ', ha, hh⟩ := hh
        simp only [Exit.then]
        rw [ha]
        exact ihb _ _ _ _ _ hT.2 hh
      | _ => exact hh
    | some p =>
      obtain ⟨L, A⟩ := p
      rw [hj] at h
      simp only at h
      cases hb : (okIn n A a an.l && subL L A) with
      | false => rw [hb] at h; exact h.elim
      | true =>
        rw [hb] at h
        simp only [cond_true] at h
        replace h := h.out
        simp only [Bool.and_eq_true] at hb
        have hfr := vc_frame (A := A) (ρ0 := ρ) (ds0 := ds) (X' := X) (fun _ _ _ _ hh => hh) a an.l _ (fun e ρ' ds' w' => match e with
          | .normal => ds' = ds ∧ vc P n b an.r Q X ρ' ds w'
          | e => Q e ρ' ds' w') ρ w hb.1 (agree.refl _ _) (fun e ρ' w' hag hh => by
            cases e with
            | normal =>
              refine ⟨rfl, ?_⟩
              have := hh ρ'
              rw [mix_self (subL_spec hb.2) hag] at this
              exact this
            | _ => exact hh) h
        refine wp_seq (wp_mono (iha _ _ _ _ _ hT.1 hfr) fun e a w hh => ?_)
        cases e with
        | normal =>
          obtain ⟨ρ', ha, hd, hh⟩ := hh
          simp only [Exit.then]
          rw [ha, hd]
          exact ihb _ _ _ _ _ hT.2 hh
        | _ => exact hh
  | cond c a b iha ihb =>
    intro an Q ρ ds w hT h
    simp only [okDraw, Bool.and_eq_true] at hT
    simp only [vc] at h
    obtain ⟨⟨t, ht, h1, h2⟩⟩ := h
    refine wp_cond_split (t := t) (by rw [act_eval]; exact ht) (fun e => iha _ _ _ _ _ hT.1 (h1 e)) (fun e => ihb _ _ _ _ _ hT.2 (h2 e))
  | block id c ih =>
    intro an Q ρ ds w hT h
    simp only [vc] at h
    refine wp_block (wp_mono (ih _ _ _ _ _ hT h) fun e a w hh => ?_)
    cases e with
    | exit id' =>
      obtain ⟨ρ', ha, hh⟩ := hh
      simp only [Exit.inBlock]
      by_cases e : id' = id
      · subst e
        simp at hh
        rw [if_pos rfl]
        exact ⟨ρ', ha, hh⟩
      · rw [if_neg e]
        simp only [nbeq_ne e, cond_false] at hh
        exact ⟨ρ', ha, hh⟩
    | _ => exact hh
  | scope c ih =>
    intro an Q ρ ds w hT h
    simp only [vc] at h
    refine wp_scope_straight (wp_mono (ih _ _ _ _ _ hT h) fun e a w hh => ?_)
    cases e with
    | goto l => obtain ⟨_, _, hh⟩ := hh; exact hh.elim
    | _ => exact hh
  | loop c ih =>
    intro an Q ρ ds w hT h
    simp only [vc] at h
    cases hj : an.lp with
    | none => rw [hj] at h; exact h.elim
    | some p =>
      obtain ⟨L, A⟩ := p
      rw [hj] at h
      simp only at h
      cases hb : (okIn n A c an.l && subL L A && L.all (fun i => Nat.blt i n)) with
      | false => rw [hb] at h; exact h.elim
      | true =>
        rw [hb] at h
        simp only [cond_true] at h
        simp only [Bool.and_eq_true] at hb
        obtain ⟨⟨hok, hL⟩, hn⟩ := hb
        obtain ⟨⟨I, μ, h0, hr⟩⟩ := h
        have hget : ∀ ρ' ds', L.map (fun i => (act n ρ' ds').tmps.getD i undef) = L.map ρ' := by
          intro ρ' ds'
          refine List.map_congr_left fun i hi => ?_
          rw [act_getD]
          have := List.all_eq_true.1 hn i hi
          simp [rd, this]
        refine wp_loop (fun a w => ∃ ρ', a = act n ρ' ds ∧ agree A ρ ρ' ∧ I (L.map ρ') w) (fun a w => μ (L.map fun i => a.tmps.getD i undef) w) ⟨ρ, rfl, agree.refl _ _, h0⟩ ?_
        rintro a w ⟨ρ', rfl, hag, hI⟩
        have hstep := hr _ _ hI ρ'
        rw [mix_self (subL_spec hL) hag] at hstep
        have hfr := vc_frame (A := A) (ρ0 := ρ) (ds0 := ds) (X' := X) (fun _ _ _ _ hh => hh) c an.l _ (fun e ρ'' ds'' w'' => ds'' = ds ∧ agree A ρ ρ'' ∧ (match e with
          | .normal => I (L.map ρ'') w'' ∧ μ (L.map ρ'') w'' < μ (L.map ρ') w
          | e => Q e ρ'' ds'' w'')) ρ' w hok hag (fun e ρ'' w'' hag'' hh => ⟨rfl, hag'', by cases e <;> exact hh⟩) hstep
        refine wp_mono (ih _ _ _ _ _ hT hfr) fun e a w hh => ?_
        cases e with
        | normal =>
          obtain ⟨ρ'', ha, hd, hag'', hI', hlt⟩ := hh
          simp only [Exit.then]
          rw [ha, hd]
          refine ⟨⟨ρ'', rfl, hag'', hI'⟩, ?_⟩
          rw [hget, hget]
          exact hlt
        | outgrown => exact hh
        | panic c => exact hh
        | exit id => obtain ⟨ρ'', ha, hd, hag'', hh⟩ := hh; exact ⟨ρ'', ha, hh⟩
        | goto id => obtain ⟨ρ'', ha, hd, hag'', hh⟩ := hh; exact ⟨ρ'', ha, hh⟩
        | ret => obtain ⟨ρ'', ha, hd, hag'', hh⟩ := hh; exact ⟨ρ'', ha, hh⟩

theorem okDraw_nil : ∀ c : Code, okDraw [] c = true := by
  intro c
  induction c with
  | region id ops d =>
    cases d with
    | false => rfl
    | true => simp only [okDraw, List.all_eq_true]; intro o _; cases o.dst <;> simp [notIn]
  | seq a b iha ihb => simp [okDraw, iha, ihb]
  | cond c a b iha ihb => simp [okDraw, iha, ihb]
  | block id c ih => simpa [okDraw] using ih
  | scope c ih => simpa [okDraw] using ih
  | loop c ih => simpa [okDraw] using ih
  | _ => rfl
/-! ### A function -/
def envOf (args : List Value) : Env := fun i => args.getD i undef


def tup : List Value → Value
  | [v] => v
  | vs => .tuple vs.toArray
def resOf (n : Nat) (ρ : Env) (ts : List Nat) : Value := tup (ts.map fun t => rd n ρ (.tmp t))

def ResOk (P : Program) (fn : Func) (n : Nat) (ts : List Nat) : Prop := ∀ ρ ds w, (results fn (act n ρ ds).tmps).run P w = .ok (resOf n ρ ts) w

theorem res0 {P : Program} {fn : Func} {n : Nat} (h : fn.results = #[]) : ResOk P fn n [] := by
  intro ρ ds w; rw [results_none h]; rfl
theorem res1 {P : Program} {fn : Func} {n t : Nat} (h : fn.results = #[.tmp t]) : ResOk P fn n [t] := by
  intro ρ ds w; rw [results_tmp h, act_getD]; rfl
theorem res2 {P : Program} {fn : Func} {n t u : Nat} (h : fn.results = #[.tmp t, .tmp u]) : ResOk P fn n [t, u] := by
  intro ρ ds w; rw [results_tmp2 h, act_getD, act_getD]; rfl
theorem res3 {P : Program} {fn : Func} {n t u v : Nat} (h : fn.results = #[.tmp t, .tmp u, .tmp v]) : ResOk P fn n [t, u, v] := by
  intro ρ ds w
  have : (results fn (act n ρ ds).tmps).run P w = .ok (.tuple #[(act n ρ ds).tmps.getD t undef, (act n ρ ds).tmps.getD u undef, (act n ρ ds).tmps.getD v undef]) w := by
    simp [results, h]
  rw [this, act_getD, act_getD, act_getD]; rfl

def bodyQ (n : Nat) (ts : List Nat) (K : Value → World → Prop) : Post := fun e ρ _ w =>
  match e with
  | .normal => K (resOf n ρ ts) w
  | .ret => K (resOf n ρ ts) w
  | _ => False

theorem envOf_act {args : List Value} {n : Nat} (ha : args.length ≤ n) : ({ tmps := args.toArray ++ Array.replicate (n - args.length) undef, defers := [] } : Act) = act n (envOf args) [] := by
  simp only [act, Act.mk.injEq, and_true]
  apply Array.ext
  · simp; omega
  · intro i h1 h2
    simp only [Array.getElem_ofFn, envOf, Array.getElem_append, List.size_toArray]
    by_cases h : i < args.length
    · simp [h, List.getD]
    · simp [h, List.getD]

/-- A call is what its body's shallow form says. -/
theorem call_of_vc {P : Program} {f : FuncId} {fn : Func} {c : Code} {n : Nat} {ts : List Nat} {args : List Value} {w : World} {K : Value → World → Prop} {X : XPost} (an : Ann)
    (hm : P.follows .mixedOrders = true) (hf : P.funcs[f]? = some fn) (hb : fn.body = some c) (hn : fn.ntmps = n) (ha : args.length ≤ n) (hr : ResOk P fn n ts)
    (hc : ∀ w, (callFunc f args.toArray).run P w = .ok (.enter f args.toArray) w) (hok : okIn n (List.range n) c an = true)
    (h : vc P n c an (bodyQ n ts K) (fun _ _ => X) (envOf args) [] w) : FCall P f args.toArray w K X := by
  refine ⟨hc w, calls_of_wp hf hb ?_⟩
  rw [hn, List.size_toArray, envOf_act ha]
  have h' := vc_frame (A := List.range n) (ρ0 := envOf args) (ds0 := []) (X' := fun _ ds c w => ds = [] ∧ X c w) (fun _ _ _ _ hh => ⟨rfl, hh⟩) c an _ (fun e ρ ds w => ds = [] ∧ bodyQ n ts K e ρ ds w) _ w hok (agree.refl _ _) (fun e ρ' w' _ hh => ⟨rfl, hh⟩) h
  refine wp_mono (vc_sound (T := []) hm (fun _ _ _ _ _ _ hh => hh) c an _ _ _ _ (okDraw_nil c) h') fun e a w hh => ?_
  cases e with
  | outgrown => exact hh.elim
  | panic c => obtain ⟨ρ, _, hd, hx⟩ := hh; exact ⟨hd, hx⟩
  | normal => obtain ⟨ρ, ha, hd, hk⟩ := hh; refine ⟨hd, resOf n ρ ts, ?_, hk⟩; rw [ha]; exact hr ρ _ w
  | ret => obtain ⟨ρ, ha, hd, hk⟩ := hh; refine ⟨hd, resOf n ρ ts, ?_, hk⟩; rw [ha]; exact hr ρ _ w
  | exit id => obtain ⟨_, _, _, hh⟩ := hh; exact hh.elim
  | goto l => obtain ⟨_, _, _, hh⟩ := hh; exact hh.elim

theorem call_of_sh {P : Program} {f : FuncId} {fn : Func} {c : Code} {n : Nat} {ts : List Nat} {args : List Value} {w : World} {K : Value → World → Prop} {X : XPost} {S : Prop} (h : S) (an : Ann)
    (hm : P.follows .mixedOrders = true) (hf : P.funcs[f]? = some fn) (hb : fn.body = some c) (hn : fn.ntmps = n) (ha : args.length ≤ n) (hr : ResOk P fn n ts)
    (hc : ∀ w, (callFunc f args.toArray).run P w = .ok (.enter f args.toArray) w) (hok : okIn n (List.range n) c an = true)
    (hS : S = vc P n c an (bodyQ n ts K) (fun _ _ => X) (envOf args) [] w) : FCall P f args.toArray w K X :=
  call_of_vc an hm hf hb hn ha hr hc hok (hS ▸ h)

/-! ### Results in cells; deferred calls -/
inductive RV where
  | val (v : Value)
  | cell (a : Value) (t : TypeId)
/-- A result is read out of its cell. -/
structure Ld (P : Program) (t : TypeId) (a : Value) (w : World) (K : Value → Prop) : Prop where mk ::
  out : ∃ v, (Instr.loadAt t a).run P w = .ok v w ∧ K v
def rdRes (P : Program) (w : World) : List RV → (List Value → Prop) → Prop
  | [], k => k []
  | .val v :: r, k => rdRes P w r fun vs => k (v :: vs)
  | .cell a t :: r, k => Ld P t a w fun v => rdRes P w r fun vs => k (v :: vs)
def rvOf (n : Nat) (ρ : Env) : ResultVar → RV
  | .tmp t => .val (rd n ρ (.tmp t))
  | .cell t ty => .cell (rd n ρ (.tmp t)) ty
def rvT : ResultVar → Nat
  | .tmp t => t
  | .cell t _ => t
theorem rvOf_agree {n : Nat} {ρ ρ' : Env} : ∀ {rs : List ResultVar}, (∀ t ∈ rs.map rvT, rd n ρ (.tmp t) = rd n ρ' (.tmp t)) → rs.map (rvOf n ρ) = rs.map (rvOf n ρ')
  | [], _ => rfl
  | r :: rs, h => by
    have h1 := h (rvT r) (by simp)
    have h2 := rvOf_agree (rs := rs) (fun t ht => h t (by simp at ht ⊢; exact .inr ht))
    cases r <;> simp_all [rvOf, rvT]

def ResR (P : Program) (fn : Func) (n : Nat) (rs : List ResultVar) : Prop := ∀ ρ ds w (k : List Value → Prop), rdRes P w (rs.map (rvOf n ρ)) k → ∃ vs, (results fn (act n ρ ds).tmps).run P w = .ok (tup vs) w ∧ k vs

theorem ld_var {P : Program} {t : TypeId} {a : Value} {w : World} {v : Value} (h : (Instr.loadAt t a).run P w = .ok v w) : ∃ ad, a = .pointer (some ad) ∧ (loadVar t ad).run P w = .ok v w := by
  cases a with
  | pointer p =>
    cases p with
    | none => simp [Instr.loadAt, Instr.sureAddr, stuck, Sem.run_bind, Sem.run, Result.andThen] at h
    | some a =>
      simp only [Instr.loadAt, Instr.sureAddr, Sem.run_bind, Sem.run_pure, Result.andThen_ok] at h
      exact ⟨a, rfl, h⟩
  | _ => simp [Instr.loadAt, Instr.sureAddr, stuck, Sem.run_bind, Sem.run, Result.andThen] at h
theorem act_get (n : Nat) (ρ : Env) (ds : List Deferred) (t : Nat) : (act n ρ ds).tmps[t]?.getD undef = rd n ρ (.tmp t) := by
  rw [← Array.getD_eq_getD_getElem?]; exact act_getD n ρ ds t
theorem resC {P : Program} {fn : Func} {n t ty : Nat} (h : fn.results = #[.cell t ty]) : ResR P fn n [.cell t ty] := by
  intro ρ ds w k hk
  simp only [List.map, rvOf, rdRes] at hk
  obtain ⟨⟨v, hr, hk⟩⟩ := hk
  obtain ⟨ad, ha, hl⟩ := ld_var hr
  refine ⟨_, ?_, hk⟩
  simp [results, h, act_get, ha, asAddr, hl, tup]
theorem resTC {P : Program} {fn : Func} {n t u ty : Nat} (h : fn.results = #[.tmp t, .cell u ty]) : ResR P fn n [.tmp t, .cell u ty] := by
  intro ρ ds w k hk
  simp only [List.map, rvOf, rdRes] at hk
  obtain ⟨⟨v, hr, hk⟩⟩ := hk
  obtain ⟨ad, ha, hl⟩ := ld_var hr
  refine ⟨_, ?_, hk⟩
  simp [results, h, act_get, ha, asAddr, hl, tup]
theorem resCTT {P : Program} {fn : Func} {n t u v ty : Nat} (h : fn.results = #[.cell t ty, .tmp u, .tmp v]) : ResR P fn n [.cell t ty, .tmp u, .tmp v] := by
  intro ρ ds w k hk
  simp only [List.map, rvOf, rdRes] at hk
  obtain ⟨⟨v, hr, hk⟩⟩ := hk
  obtain ⟨ad, ha, hl⟩ := ld_var hr
  refine ⟨_, ?_, hk⟩
  simp [results, h, act_get, ha, asAddr, hl, tup]
theorem resCCC {P : Program} {fn : Func} {n t u v ty uy vy : Nat} (h : fn.results = #[.cell t ty, .cell u uy, .cell v vy]) : ResR P fn n [.cell t ty, .cell u uy, .cell v vy] := by
  intro ρ ds w k hk
  simp only [List.map, rvOf, rdRes] at hk
  obtain ⟨⟨v1, hr1, ⟨v2, hr2, ⟨v3, hr3, hk⟩⟩⟩⟩ := hk
  obtain ⟨a1, ha1, h1⟩ := ld_var hr1
  obtain ⟨a2, ha2, h2⟩ := ld_var hr2
  obtain ⟨a3, ha3, h3⟩ := ld_var hr3
  refine ⟨_, ?_, hk⟩
  simp [results, h, act_get, ha1, ha2, ha3, asAddr, Sem.run_bind, h1, h2, h3, tup]

/-- how a call ends -/
def endR (K : Value → World → Prop) (X : XPost) : Ending → World → Prop
  | .returned v, w => K v w
  | .panicked c, w => X c w
  | .outgrown, _ => False

/-- A deferred call, made in a frame that leaves by u. -/
structure FDef (P : Program) (d : Deferred) (u : FrameMode) (w : World) (K : FrameMode → World → Prop) : Prop where mk ::
  out : ∃ fv cap f args, d.target = .fn fv cap ∧ (invoke d.target d.args).run P w = .ok (.enter f args) w ∧ CallsD P f args u w fun e u' w' => match e with
    | .returned _ => K (settle u') w'
    | .panicked c => K (raised u' c) w'
    | .outgrown => False

/-- What a frame does as it is left. -/
def lv (P : Program) (rs : List RV) (K : Value → World → Prop) (X : XPost) : List Deferred → FrameMode → World → Prop
  | [], .returning, w => rdRes P w rs fun vs => K (tup vs) w
  | [], .panicking c, w => X c w
  | [], .run, _ => False
  | d :: ds, u, w => u ≠ .run ∧ FDef P d u w fun u' w' => lv P rs K X ds u' w'

theorem leaves_of_lv {P : Program} {fn : Func} {n : Nat} {rs : List ResultVar} {ρ : Env} {ds0 : List Deferred} {K : Value → World → Prop} {X : XPost} (hr : ResR P fn n rs) :
    ∀ (ds : List Deferred) (u : FrameMode) (w : World), lv P (rs.map (rvOf n ρ)) K X ds u w → Leaves P fn (act n ρ ds0).tmps (endR K X) ds u w
  | [], u, w, h => by
    cases u with
    | run => exact h.elim
    | returning =>
      obtain ⟨vs, h1, h2⟩ := hr ρ ds0 w _ h
      exact ⟨_, h1, h2⟩
    | panicking c => exact h
  | d :: ds, u, w, h => by
    obtain ⟨hu, ⟨fv, cap, f, args, h1, h2, h3⟩⟩ := h
    refine ⟨hu, fv, cap, f, args, h1, h2, h3.mono fun e u' w' he => ?_⟩
    cases e with
    | returned v => exact leaves_of_lv hr ds _ _ he
    | panicked c => exact leaves_of_lv hr ds _ _ he
    | outgrown => exact he.elim

def bodyL (P : Program) (n : Nat) (rs : List ResultVar) (K : Value → World → Prop) (X : XPost) : Post := fun e ρ ds w =>
  match e with
  | .normal => lv P (rs.map (rvOf n ρ)) K X ds .returning w
  | .ret => lv P (rs.map (rvOf n ρ)) K X ds .returning w
  | _ => False

/-- A call of a function that may defer. -/
theorem call_of_lv {P : Program} {f : FuncId} {fn : Func} {c : Code} {n : Nat} {rs : List ResultVar} {args : List Value} {w : World} {K : Value → World → Prop} {X : XPost} {S : Prop} (h : S) (an : Ann)
    (hm : P.follows .mixedOrders = true) (hf : P.funcs[f]? = some fn) (hb : fn.body = some c) (hn : fn.ntmps = n) (ha : args.length ≤ n) (hr : ResR P fn n rs)
    (hc : ∀ w, (callFunc f args.toArray).run P w = .ok (.enter f args.toArray) w) (hok : okDraw (rs.map rvT) c = true)
    (hS : S = vc P n c an (bodyL P n rs K X) (fun ρ ds c w => lv P (rs.map (rvOf n ρ)) K X ds (.panicking c) w) (envOf args) [] w) : FCall P f args.toArray w K X := by
  subst hS
  refine ⟨hc w, (calls_of_wp_defers (R := endR K X) hf hb ?_).mono fun e w' he => by cases e <;> exact he⟩
  rw [hn, List.size_toArray, envOf_act ha]
  refine wp_mono (vc_sound (T := rs.map rvT) hm (fun ρ ρ' ds c w hag hh => by rw [← rvOf_agree hag]; exact hh) c an _ _ _ _ hok h) fun e a w hh => ?_
  cases e with
  | outgrown => exact hh.elim
  | panic c => obtain ⟨ρ, ha, hx⟩ := hh; unfold bodyPostD; rw [ha]; exact leaves_of_lv hr _ _ _ hx
  | normal => obtain ⟨ρ, ha, hx⟩ := hh; unfold bodyPostD; rw [ha]; exact leaves_of_lv hr _ _ _ hx
  | ret => obtain ⟨ρ, ha, hx⟩ := hh; unfold bodyPostD; rw [ha]; exact leaves_of_lv hr _ _ _ hx
  | exit id => obtain ⟨_, _, hh⟩ := hh; exact hh.elim
  | goto l => obtain ⟨_, _, hh⟩ := hh; exact hh.elim

def bodyC (P : Program) (n : Nat) (rs : List ResultVar) (K : Value → World → Prop) : Post := fun e ρ _ w =>
  match e with
  | .normal => rdRes P w (rs.map (rvOf n ρ)) fun vs => K (tup vs) w
  | .ret => rdRes P w (rs.map (rvOf n ρ)) fun vs => K (tup vs) w
  | _ => False

theorem body_of_vc {P : Program} {fn : Func} {c : Code} {n : Nat} {rs : List ResultVar} {ρ : Env} {w : World} {K : Value → World → Prop} {X : XPost} (an : Ann)
    (hm : P.follows .mixedOrders = true) (hr : ResR P fn n rs) (hok : okIn n (List.range n) c an = true)
    (h : vc P n c an (bodyC P n rs K) (fun _ _ => X) ρ [] w) : c.wp P (bodyPost P fn (endR K X)) (act n ρ []) w := by
  have h' := vc_frame (A := List.range n) (ρ0 := ρ) (ds0 := []) (X' := fun _ ds c w => ds = [] ∧ X c w) (fun _ _ _ _ hh => ⟨rfl, hh⟩) c an _ (fun e ρ ds w => ds = [] ∧ bodyC P n rs K e ρ ds w) _ w hok (agree.refl _ _) (fun e ρ' w' _ hh => ⟨rfl, hh⟩) h
  refine wp_mono (vc_sound (T := []) hm (fun _ _ _ _ _ _ hh => hh) c an _ _ _ _ (okDraw_nil c) h') fun e a w hh => ?_
  cases e with
  | outgrown => exact hh.elim
  | panic c => obtain ⟨ρ, _, hd, hx⟩ := hh; exact ⟨hd, hx⟩
  | normal => obtain ⟨ρ, ha, hd, hk⟩ := hh; obtain ⟨vs, h1, h2⟩ := hr ρ a.defers w _ hk; refine ⟨hd, tup vs, ?_, h2⟩; rw [ha]; exact h1
  | ret => obtain ⟨ρ, ha, hd, hk⟩ := hh; obtain ⟨vs, h1, h2⟩ := hr ρ a.defers w _ hk; refine ⟨hd, tup vs, ?_, h2⟩; rw [ha]; exact h1
  | exit id => obtain ⟨_, _, _, hh⟩ := hh; exact hh.elim
  | goto l => obtain ⟨_, _, _, hh⟩ := hh; exact hh.elim

/-- A call of a function that defers nothing and has a result in a cell. -/
theorem call_of_cells {P : Program} {f : FuncId} {fn : Func} {c : Code} {n : Nat} {rs : List ResultVar} {args : List Value} {w : World} {K : Value → World → Prop} {X : XPost} {S : Prop} (h : S) (an : Ann)
    (hm : P.follows .mixedOrders = true) (hf : P.funcs[f]? = some fn) (hb : fn.body = some c) (hn : fn.ntmps = n) (ha : args.length ≤ n) (hr : ResR P fn n rs)
    (hc : ∀ w, (callFunc f args.toArray).run P w = .ok (.enter f args.toArray) w) (hok : okIn n (List.range n) c an = true)
    (hS : S = vc P n c an (bodyC P n rs K) (fun _ _ => X) (envOf args) [] w) : FCall P f args.toArray w K X := by
  subst hS
  refine ⟨hc w, (calls_of_wp (R := endR K X) hf hb ?_).mono fun e w' he => by cases e <;> exact he⟩
  rw [hn, List.size_toArray, envOf_act ha]
  exact body_of_vc an hm hr hok h

theorem res0R {P : Program} {fn : Func} {n : Nat} (h : fn.results = #[]) : ResR P fn n [] := by
  intro ρ ds w k hk
  exact ⟨[], by rw [results_none h]; rfl, hk⟩

/-- A deferred call of a function that recovers nothing. -/
theorem def_of_cells {P : Program} {f : FuncId} {fn : Func} {c : Code} {n : Nat} {rs : List ResultVar} {args : List Value} {w : World} {K : FrameMode → World → Prop} {u : FrameMode} {cap dargs : Array Value} {S : Prop} (h : S) (an : Ann)
    (hm : P.follows .mixedOrders = true) (hf : P.funcs[f]? = some fn) (hb : fn.body = some c) (hn : fn.ntmps = n) (ha : args.length ≤ n) (hr : ResR P fn n rs)
    (hc : ∀ w, (callFunc f args.toArray).run P w = .ok (.enter f args.toArray) w) (hok : okIn n (List.range n) c an = true) (he : dargs ++ cap = args.toArray)
    (hS : S = vc P n c an (bodyC P n rs fun _ w => K (settle u) w) (fun _ _ c w => K (raised u c) w) (envOf args) [] w) : FDef P { target := .fn (.func f) cap, args := dargs } u w K := by
  subst hS
  refine ⟨⟨_, _, f, args.toArray, rfl, ?_, ?_⟩⟩
  · simp only [invoke, he, hc]
  refine (callsD_of_wp (R := endR (fun _ w => K (settle u) w) (fun c w => K (raised u c) w)) hf hb ?_).mono fun e u' w' hh => ?_
  · rw [hn, List.size_toArray, envOf_act ha]
    exact body_of_vc an hm hr hok h
  · obtain ⟨rfl, hh⟩ := hh
    cases e <;> exact hh

/-- what recover gives and leaves -/
def recM : FrameMode → Value × FrameMode
  | .panicking ({ v, recovered := false, goexit := false } :: older) => (v, .panicking ({ v, recovered := true } :: older))
  | u => (.nilIface, u)
theorem recoverD_M {c₀ : Frame} {cs : List Frame} : recoverD (c₀ :: cs) = some ((recM c₀.mode).1, { c₀ with mode := (recM c₀.mode).2 } :: cs) ∨ (recoverD (c₀ :: cs) = none ∧ recM c₀.mode = (.nilIface, c₀.mode)) := by
  unfold recoverD
  simp only
  unfold recM
  split
  · rename_i h
    rw [h]
    exact .inl rfl
  · rename_i h
    right
    refine ⟨rfl, ?_⟩
    split
    · rename_i h'
      exact absurd h' (h _ _)
    · rfl

/-- A deferred call of a function whose first words are a recover. -/
theorem def_of_rec {P : Program} {f : FuncId} {fn : Func} {c : Code} {n : Nat} {rs : List ResultVar} {args : List Value} {w : World} {K : FrameMode → World → Prop} {u : FrameMode} {cap dargs : Array Value} {S : Prop} {id d ty : Nat} {ps : String} {ats : Array TypeId} (h : S) (an : Ann)
    (hm : P.follows .mixedOrders = true) (hf : P.funcs[f]? = some fn) (hb : fn.body = some (.seq (.region id #[{ dst := some d, op := .call { callee := .builtin .recover, args := #[], argTypes := ats }, type := ty, pos := ps, after := #[], guard := none }] false) c))
    (hn : fn.ntmps = n) (ha : args.length ≤ n) (hr : ResR P fn n rs)
    (hc : ∀ w, (callFunc f args.toArray).run P w = .ok (.enter f args.toArray) w) (hok : okIn n (List.range n) c an = true) (he : dargs ++ cap = args.toArray)
    (hS : S = vc P n c an (bodyC P n rs fun _ w => K (settle (recM u).2) w) (fun _ _ c w => K (raised (recM u).2 c) w) (upd (envOf args) (some d) (recM u).1) [] w) : FDef P { target := .fn (.func f) cap, args := dargs } u w K := by
  subst hS
  refine ⟨⟨_, _, f, args.toArray, rfl, ?_, ?_⟩⟩
  · simp only [invoke, he, hc]
  refine callsD_of_wpS hf hb fun c₀ cs hu => ?_
  rw [hn, List.size_toArray, envOf_act ha]
  refine wpS_seq (wpS_region ?_)
  have hrun : (execOp (act n (envOf args) []).eval { dst := some d, op := .call { callee := .builtin .recover, args := #[], argTypes := ats }, type := ty, pos := ps, after := #[], guard := none }).run P w = .ok .recover w := rfl
  have hfin : ∀ (c₁ : Frame), c₁ = { c₀ with mode := (recM u).2 } → (c.wpS P (bodyPostS P fn c₀ cs fun e u' w' => match e with
      | .returned _ => K (settle u') w'
      | .panicked c => K (raised u' c) w'
      | .outgrown => False) (act n (upd (envOf args) (some d) (recM u).1) []) (c₁ :: cs) w) := by
    rintro c₁ rfl
    refine wpS_of_wp (wp_mono (body_of_vc (fn := fn) an hm hr hok h) fun e a w' hh => ?_)
    cases e with
    | outgrown => exact hh.elim
    | panic c => obtain ⟨hd, hx⟩ := hh; exact ⟨hd, _, rfl, hx⟩
    | normal => obtain ⟨hd, v, h1, h2⟩ := hh; exact ⟨hd, _, rfl, v, h1, h2⟩
    | ret => obtain ⟨hd, v, h1, h2⟩ := hh; exact ⟨hd, _, rfl, v, h1, h2⟩
    | exit id => exact hh.elim
    | goto l => exact hh.elim
  have hw : Region.wanted { dst := some d, op := .call { callee := .builtin .recover, args := #[], argTypes := ats }, type := ty, pos := ps, after := #[], guard := none } (yielded #[{ dst := some d, op := .call { callee := .builtin .recover, args := #[], argTypes := ats }, type := ty, pos := ps, after := #[], guard := none }] (act n (envOf args) []).tmps) = true := rfl
  simp only [List.size_toArray, List.length_cons, List.length_nil, Nat.zero_add, List.range_succ, List.range_zero, List.nil_append, wpOpsS]
  simp only [List.getElem?_toArray, List.getElem?_cons_zero, hw, if_true, hrun]
  rcases recoverD_M (c₀ := c₀) (cs := cs) with hrec | ⟨hrec, hnone⟩
  · rw [hrec, hu]
    simp only [act_put, Exit.thenS]
    exact hfin _ rfl
  · rw [hrec]
    rw [hu] at hnone
    have := hfin c₀ (by rw [hnone, ← hu])
    rw [hnone] at this
    simp only [act_put, Exit.thenS]
    exact this

end Go.Vc
