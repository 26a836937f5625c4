
/-
  Package draft: a node laid.
-/
import Derived.Test.YtdmocobabpmoeaaDraftD
namespace Go.Proofs.Ytdmocobabpmoeaa
open Go.Vc Go.Sep Go.Ops
set_option linter.unusedVariables false
set_option linter.unusedSectionVars false
set_option linter.unusedSimpArgs false

section
variable {W w : World} {L : List HProp} {K : Value → World → Prop} {KU : World → Prop} {X : XPost}
theorem ints1 {x : Nat} {bs : List UInt8} {a : Int} {n : Nat} (ha : a = (n : Int)) (hn : n < 9223372036854775808) (hb : bs.length ≤ 1000000) (H : St W w (Wr x 0 bs :: L))
    (k : ∀ w', St W w' (Wr x 0 (bs ++ fb [n]) :: L) → K (.tuple #[]) w') :
    RunV Try.prog (Instr.buildSlice 80 1 #[(0, .int .i64 a)]) w (fun s w => FCall Try.prog Fn.draft_layer_ints #[.agg #[.pointer (some ⟨x, 0, none⟩)], s] w K X) X := by
  subst ha
  refine rv_build1 H rfl (by simp [Value.cells]) ?_
  intro g w1 H
  exact ints_spec (l := [n]) (by simpa using hn) (by simp) hb H k
theorem ints2 {x : Nat} {bs : List UInt8} {a b : Int} {n m : Nat} (ha : a = (n : Int)) (hn : n < 9223372036854775808) (hbb : b = (m : Int)) (hm : m < 9223372036854775808) (hb : bs.length ≤ 1000000) (H : St W w (Wr x 0 bs :: L))
    (k : ∀ w', St W w' (Wr x 0 (bs ++ fb [n, m]) :: L) → K (.tuple #[]) w') :
    RunV Try.prog (Instr.buildSlice 80 2 #[(0, .int .i64 a), (1, .int .i64 b)]) w (fun s w => FCall Try.prog Fn.draft_layer_ints #[.agg #[.pointer (some ⟨x, 0, none⟩)], s] w K X) X := by
  subst ha hbb
  refine rv_buildSlice (parts := [(0, .int .i64 n), (1, .int .i64 m)]) H [.int .i64 n, .int .i64 m] (by omega) (by kernel_rfl) ?_
  intro g w1 H
  exact ints_spec (l := [n, m]) (by simp; omega) (by simp) hb H k
theorem ints4 {x : Nat} {bs : List UInt8} {a b c d : Int} {n m p q : Nat} (ha : a = (n : Int)) (hn : n < 9223372036854775808) (hbb : b = (m : Int)) (hm : m < 9223372036854775808) (hc : c = (p : Int)) (hp : p < 9223372036854775808) (hd : d = (q : Int)) (hq : q < 9223372036854775808) (hb : bs.length ≤ 1000000) (H : St W w (Wr x 0 bs :: L))
    (k : ∀ w', St W w' (Wr x 0 (bs ++ fb [n, m, p, q]) :: L) → K (.tuple #[]) w') :
    RunV Try.prog (Instr.buildSlice 80 4 #[(0, .int .i64 a), (1, .int .i64 b), (2, .int .i64 c), (3, .int .i64 d)]) w (fun s w => FCall Try.prog Fn.draft_layer_ints #[.agg #[.pointer (some ⟨x, 0, none⟩)], s] w K X) X := by
  subst ha hbb hc hd
  refine rv_buildSlice (parts := [(0, .int .i64 n), (1, .int .i64 m), (2, .int .i64 p), (3, .int .i64 q)]) H [.int .i64 n, .int .i64 m, .int .i64 p, .int .i64 q] (by omega) (by kernel_rfl) ?_
  intro g w1 H
  exact ints_spec (l := [n, m, p, q]) (by simp; omega) (by simp) hb H k

def NodeV.good (n : NodeV) : Prop := n.ok ∧ nodeE n = 0
theorem NodeV.good.facts {n : NodeV} (h : n.good) : (1 ≤ n.kd ∧ n.kd ≤ 8) ∧ 0 ≤ n.ins ∧ 0 ≤ n.outs ∧ n.code.length ≤ 16 ∧ n.conns.length ≤ 16 ∧ (∀ o ∈ n.code, 0 ≤ o.kd) ∧ (∀ o ∈ n.conns, 0 ≤ o.i ∧ 0 ≤ o.o) := by
  have hE := h.2
  unfold nodeE at hE
  split at hE
  · cases hE
  rename_i h1
  split at hE
  · cases hE
  rename_i h2
  split at hE
  · cases hE
  split at hE
  · cases hE
  rename_i h4
  split at hE
  · cases hE
  rename_i h5
  split at hE
  · cases hE
  rename_i h6
  simp only [Classical.not_not] at h1 h4
  refine ⟨h1, ?_, ?_, h4.1, h4.2, ?_, ?_⟩
  · have : portsB n = true := by simpa using h2
    simp [portsB] at this
    omega
  · have : portsB n = true := by simpa using h2
    simp [portsB] at this
    omega
  · intro o ho
    have := h5
    simp only [List.any_eq_true, not_exists, not_and] at this
    have := this o ho
    simp at this
    exact this
  · intro o ho
    have := h6
    simp only [List.any_eq_true, not_exists, not_and] at this
    have := this o ho
    simp at this
    omega
theorem flatMap_take {α β : Type} {f : α → List β} {l : List α} {i : Nat} {x : α} (h : l[i]? = some x) : (l.take (i + 1)).flatMap f = (l.take i).flatMap f ++ f x := by
  rw [List.take_add_one, h]; simp
theorem fb_ops {l : List OpD} (h : ∀ o ∈ l, o.ok ∧ 0 ≤ o.kd) (i : Nat) (hl : l.length ≤ 16) : (fb ((l.take i).flatMap opN)).length ≤ 320 := by
  have hs : small ((l.take i).flatMap opN) := by
    intro y hy
    obtain ⟨o, ho, hy⟩ := List.mem_flatMap.1 hy
    have := h o (List.mem_of_mem_take ho)
    unfold OpD.ok i64r at this
    simp only [opN, List.mem_cons, List.not_mem_nil, or_false] at hy
    rcases hy with rfl | rfl <;> omega
  have h1 := fb_len hs
  have h2 : ((l.take i).flatMap opN).length = (l.take i).length * 2 := by
    clear hs h1
    generalize l.take i = l
    induction l with
    | nil => rfl
    | cons x r ih => simp only [List.flatMap_cons, List.length_append, ih, opN, List.length_cons, List.length_nil]; omega
  have h3 : (l.take i).length ≤ 16 := by simp; omega
  omega
theorem fb_conns {l : List ConnD} (h : ∀ o ∈ l, o.ok ∧ 0 ≤ o.i ∧ 0 ≤ o.o) (i : Nat) (hl : l.length ≤ 16) : (fb ((l.take i).flatMap connN)).length ≤ 800 := by
  have hs : small ((l.take i).flatMap connN) := by
    intro y hy
    obtain ⟨o, ho, hy⟩ := List.mem_flatMap.1 hy
    have := h o (List.mem_of_mem_take ho)
    unfold ConnD.ok i64r at this
    simp only [connN, List.mem_cons, List.not_mem_nil, or_false] at hy
    rcases hy with rfl | rfl | rfl | rfl | rfl <;> omega
  have h1 := fb_len hs
  have h2 : ((l.take i).flatMap connN).length = (l.take i).length * 5 := by
    clear hs h1
    generalize l.take i = l
    induction l with
    | nil => rfl
    | cons x r ih => simp only [List.flatMap_cons, List.length_append, ih, connN, List.length_cons, List.length_nil]; omega
  have h3 : (l.take i).length ≤ 16 := by simp; omega
  omega
theorem fb1_len {n : Nat} (h : n < 18446744073709551616) : (fb [n]).length ≤ 10 := by rw [fb_one]; exact form_length10 h

/-- A node, laid. -/
theorem node_spec {x : Nat} {bs : List UInt8} {n : NodeV} (hg : n.good) (hb : bs.length ≤ 900000) (R : NKn W L n) (H : St W w (Wr x 0 bs :: L))
    (k : ∀ w', St W w' (Wr x 0 (bs ++ fb (nodeN n)) :: L) → K (.tuple #[]) w') : FCall Try.prog Fn.draft_layer_node #[.agg #[.pointer (some ⟨x, 0, none⟩)], .agg n.cs.toArray] w K X := by
  refine draft_layer_node_call ?_
  unfold Sh.draft_layer_node
  obtain ⟨hk, hi, ho, hcl, hnl, hc, hn⟩ := hg.facts
  have hok := hg.1
  unfold NodeV.ok i64r at hok
  have hops : ∀ o ∈ n.code, o.ok ∧ 0 ≤ o.kd := fun o h => ⟨hok.2.2.2.1 o h, hc o h⟩
  have hcos : ∀ o ∈ n.conns, o.ok ∧ 0 ≤ o.i ∧ 0 ≤ o.o := fun o h => ⟨hok.2.2.2.2.2.2.2.2.1 o h, hn o h⟩
  have ekd : n.kd = (n.kd.toNat : Int) := by omega
  have eins : n.ins = (n.ins.toNat : Int) := by omega
  have eouts : n.outs = (n.outs.toNat : Int) := by omega
  refine rv_box (c := [.pointer (some ⟨x, 0, none⟩)]) H rfl ?_
  clear H
  intro b1 w1 H
  refine rv_box (c := n.cs) H rfl ?_
  clear H
  intro b2 w2 H
  unfold NodeV.cs at H
  have Rt : NKn W (cells b1 74 [.pointer (some ⟨x, 0, none⟩)] :: cells b2 59 [.int .i64 n.kd, .int .i64 n.ins, .int .i64 n.outs, n.cv, .int .u64 n.a, .int .u64 n.b, .int .u64 n.c, .int .u64 n.bd, n.kv, .bool n.st] :: L) n := R.tail.tail
  -- the variables stand behind the writer
  replace H : St W w2 (Wr x 0 bs :: cells b1 74 [.pointer (some ⟨x, 0, none⟩)] :: cells b2 59 [.int .i64 n.kd, .int .i64 n.ins, .int .i64 n.outs, n.cv, .int .u64 n.a, .int .u64 n.b, .int .u64 n.c, .int .u64 n.bd, n.kv, .bool n.st] :: L) := H.up1.up2
  refine rv_loada H.up1 rfl rfl ?_
  (repeat with_reducible (first | refine Red.to ?_ | (refine is_rload ?_; (first | refine rv_load H rfl ?_ | refine rv_load H.up1 rfl ?_ | refine rv_load H.up2 rfl ?_ | refine rv_load H.up3 rfl ?_ | refine rv_load H.up4 rfl ?_))))
  refine ints1 ekd (by omega) (by omega) H ?_
  clear H
  intro w3 H
  (repeat with_reducible (first | refine Red.to ?_ | (refine is_rload ?_; (first | refine rv_load H rfl ?_ | refine rv_load H.up1 rfl ?_ | refine rv_load H.up2 rfl ?_ | refine rv_load H.up3 rfl ?_ | refine rv_load H.up4 rfl ?_))))
  have lk := fb1_len (n := n.kd.toNat) (by omega)
  generalize hLL : (cells b1 74 [.pointer (some ⟨x, 0, none⟩)] :: cells b2 59 [.int .i64 n.kd, .int .i64 n.ins, .int .i64 n.outs, n.cv, .int .u64 n.a, .int .u64 n.b, .int .u64 n.c, .int .u64 n.bd, n.kv, .bool n.st] :: L) = LL at Rt
  have fin : ∀ w' bs', bs' = bs ++ fb (nodeN n) → St W w' (Wr x 0 bs' :: cells b1 74 [.pointer (some ⟨x, 0, none⟩)] :: cells b2 59 [.int .i64 n.kd, .int .i64 n.ins, .int .i64 n.outs, n.cv, .int .u64 n.a, .int .u64 n.b, .int .u64 n.c, .int .u64 n.bd, n.kv, .bool n.st] :: L) → K (.tuple #[]) w' := by
    rintro w' bs' rfl H
    exact k _ H.up1.drop.up1.drop
  -- the ins, last
  refine share_of (fun vs w => vs = [] ∧ ∃ bs', bs' ++ fb [n.ins.toNat] = bs ++ fb (nodeN n) ∧ bs'.length ≤ 1000000 ∧ St W w (Wr x 0 bs' :: cells b1 74 [.pointer (some ⟨x, 0, none⟩)] :: cells b2 59 [.int .i64 n.kd, .int .i64 n.ins, .int .i64 n.outs, n.cv, .int .u64 n.a, .int .u64 n.b, .int .u64 n.c, .int .u64 n.bd, n.kv, .bool n.st] :: L)) ?_ ?_
  · clear H
    rintro vs w ⟨rfl, bs', hbs, hbl, H⟩ σ
    refine rv_loada H.up1 rfl rfl ?_
    (repeat with_reducible (first | refine Red.to ?_ | (refine is_rload ?_; (first | refine rv_load H rfl ?_ | refine rv_load H.up1 rfl ?_ | refine rv_load H.up2 rfl ?_ | refine rv_load H.up3 rfl ?_ | refine rv_load H.up4 rfl ?_))))
    refine ints1 eins (by omega) hbl H ?_
    clear H
    intro w4 H
    exact fin _ _ hbs H
  intro J hJ
  -- the code
  refine share_of (fun vs w => vs = [] ∧ (n.kd = 2 ∨ n.kd = 3) ∧ St W w (Wr x 0 (bs ++ fb [n.kd.toNat]) :: cells b1 74 [.pointer (some ⟨x, 0, none⟩)] :: cells b2 59 [.int .i64 n.kd, .int .i64 n.ins, .int .i64 n.outs, n.cv, .int .u64 n.a, .int .u64 n.b, .int .u64 n.c, .int .u64 n.bd, n.kv, .bool n.st] :: L)) ?_ ?_
  · clear H
    rintro vs w ⟨rfl, hkc, H⟩ σ
    refine rv_loada H.up1 rfl rfl ?_
    (repeat with_reducible (first | refine Red.to ?_ | (refine is_rload ?_; (first | refine rv_load H rfl ?_ | refine rv_load H.up1 rfl ?_ | refine rv_load H.up2 rfl ?_ | refine rv_load H.up3 rfl ?_ | refine rv_load H.up4 rfl ?_))))
    have H' := H.drop
    rw [hLL] at H'
    refine rv_len_rd0 (Rt _ H').1 ?_
    refine ints1 rfl (by omega) (by simp; omega) H ?_
    clear H H'
    intro w4 H
    (repeat with_reducible (first | refine Red.to ?_ | (refine is_rload ?_; (first | refine rv_load H rfl ?_ | refine rv_load H.up1 rfl ?_ | refine rv_load H.up2 rfl ?_ | refine rv_load H.up3 rfl ?_ | refine rv_load H.up4 rfl ?_))))
    have H' := H.drop
    rw [hLL] at H'
    refine rv_len_rd0 (Rt _ H').1 ?_
    clear H'
    have lc := fb1_len (n := n.code.length) (by omega)
    refine loop_of (fun vs w => ∃ i : Nat, vs = [.int .i64 i] ∧ i ≤ n.code.length ∧ St W w (Wr x 0 (bs ++ fb [n.kd.toNat] ++ fb [n.code.length] ++ fb ((n.code.take i).flatMap opN)) :: cells b1 74 [.pointer (some ⟨x, 0, none⟩)] :: cells b2 59 [.int .i64 n.kd, .int .i64 n.ins, .int .i64 n.outs, n.cv, .int .u64 n.a, .int .u64 n.b, .int .u64 n.c, .int .u64 n.bd, n.kv, .bool n.st] :: L)) (fun vs _ => match vs with | [.int _ i] => n.code.length - i.toNat | _ => 0) ⟨0, rfl, by omega, by simpa [fb] using H⟩ ?_
    clear H
    rintro vs w kk ⟨i, rfl, hil, H⟩ hkk σ
    simp only [List.getD_cons_zero, List.getD_cons_succ]
    (repeat with_reducible (first | refine Red.to ?_ | (refine is_rload ?_; (first | refine rv_load H rfl ?_ | refine rv_load H.up1 rfl ?_ | refine rv_load H.up2 rfl ?_ | refine rv_load H.up3 rfl ?_ | refine rv_load H.up4 rfl ?_))))
    refine cond_split (fun h => ?_) (fun h => ?_)
    · have h : i < n.code.length := by have := of_decide_eq_true h; omega
      obtain ⟨o, ho1⟩ : ∃ o, n.code[i]? = some o := ⟨_, List.getElem?_eq_getElem h⟩
      have hoo := hops o (List.mem_of_getElem? ho1)
      unfold OpD.ok i64r at hoo
      have lo := fb_ops hops i hcl
      have H' := H.drop
      rw [hLL] at H'
      obtain ⟨g, off, cap, hv, hcell⟩ := Kn0.form (fun w h => (Rt w h).1) H' (by omega)
      refine rv_row (cs := o.cs) H hv h (fun j v hj => hcell w H' _ v (fl_get OpD.len _ i j o v ho1 hj)) (by rfl) (by rfl) o.one ?_
      clear H H'
      intro b3 w5 H
      unfold OpD.cs at H
      refine rv_loada H.up2 rfl rfl ?_
      (repeat with_reducible (first | refine Red.to ?_ | (refine is_rload ?_; (first | refine rv_load H rfl ?_ | refine rv_load H.up1 rfl ?_ | refine rv_load H.up2 rfl ?_ | refine rv_load H.up3 rfl ?_ | refine rv_load H.up4 rfl ?_))))
      refine ints1 (n := o.kd.toNat) (by omega) (by omega) (by simp only [List.length_append]; omega) H.up1 ?_
      clear H
      intro w6 H
      have lk2 := fb1_len (n := o.kd.toNat) (by omega)
      (repeat with_reducible (first | refine Red.to ?_ | (refine is_rload ?_; (first | refine rv_load H rfl ?_ | refine rv_load H.up1 rfl ?_ | refine rv_load H.up2 rfl ?_ | refine rv_load H.up3 rfl ?_ | refine rv_load H.up4 rfl ?_))))
      refine Num_spec H (by omega) (by simp only [List.length_append]; omega) ?_
      clear H
      intro w7 H
      rw [if_pos rfl] at H
      (repeat with_reducible (first | refine Red.to ?_ | (refine is_rload ?_; (first | refine rv_load H rfl ?_ | refine rv_load H.up1 rfl ?_ | refine rv_load H.up2 rfl ?_ | refine rv_load H.up3 rfl ?_ | refine rv_load H.up4 rfl ?_))))
      rw [i64_small (by omega) (by omega)]
      refine hkk _ _ ⟨i + 1, rfl, by omega, ?_⟩ (by simp; omega)
      have e : bs ++ fb [n.kd.toNat] ++ fb [n.code.length] ++ fb ((n.code.take (i + 1)).flatMap opN) = bs ++ fb [n.kd.toNat] ++ fb [n.code.length] ++ fb ((n.code.take i).flatMap opN) ++ fb [o.kd.toNat] ++ form o.arg := by
        rw [flatMap_take ho1, fb_append]
        simp [fb, opN]
      rw [e]
      exact H.up1.drop
    · have h : i = n.code.length := by have := of_decide_eq_false h; omega
      subst h
      rw [List.take_length] at H
      refine fin _ _ ?_ H
      unfold nodeN
      rw [if_pos hkc]
      simp [fb]
  intro J2 hJ2
  refine share_of (fun vs w => vs = [] ∧ ¬ (n.kd = 2 ∨ n.kd = 3) ∧ St W w (Wr x 0 (bs ++ fb [n.kd.toNat]) :: cells b1 74 [.pointer (some ⟨x, 0, none⟩)] :: cells b2 59 [.int .i64 n.kd, .int .i64 n.ins, .int .i64 n.outs, n.cv, .int .u64 n.a, .int .u64 n.b, .int .u64 n.c, .int .u64 n.bd, n.kv, .bool n.st] :: L)) ?_ ?_
  · clear H
    rintro vs w ⟨rfl, hkc, H⟩ σ
    (repeat with_reducible (first | refine Red.to ?_ | (refine is_rload ?_; (first | refine rv_load H rfl ?_ | refine rv_load H.up1 rfl ?_ | refine rv_load H.up2 rfl ?_ | refine rv_load H.up3 rfl ?_ | refine rv_load H.up4 rfl ?_))))
    refine cond_split (fun h => ?_) (fun h => ?_)
    · have h5 : n.kd = 5 := by simpa using h
      (repeat with_reducible (first | refine Red.to ?_ | (refine is_rload ?_; (first | refine rv_load H rfl ?_ | refine rv_load H.up1 rfl ?_ | refine rv_load H.up2 rfl ?_ | refine rv_load H.up3 rfl ?_ | refine rv_load H.up4 rfl ?_))))
      refine Num_spec H (by omega) (by simp only [List.length_append]; omega) ?_
      clear H
      intro w4 H
      rw [if_pos rfl] at H
      have f1 := form_length10 (v := n.bd) (by omega)
      refine rv_loada H.up1 rfl rfl ?_
      (repeat with_reducible (first | refine Red.to ?_ | (refine is_rload ?_; (first | refine rv_load H rfl ?_ | refine rv_load H.up1 rfl ?_ | refine rv_load H.up2 rfl ?_ | refine rv_load H.up3 rfl ?_ | refine rv_load H.up4 rfl ?_))))
      refine rv_loada H.up2 rfl rfl ?_
      refine path_spec (by omega) (by omega) (by omega) (by simp only [List.length_append]; omega) H ?_
      clear H
      intro w5 H
      refine fin _ _ ?_ H
      unfold nodeN
      rw [if_neg hkc, if_pos h5]
      simp [fb]
    have h5 : ¬ n.kd = 5 := by simpa using h
    (repeat with_reducible (first | refine Red.to ?_ | (refine is_rload ?_; (first | refine rv_load H rfl ?_ | refine rv_load H.up1 rfl ?_ | refine rv_load H.up2 rfl ?_ | refine rv_load H.up3 rfl ?_ | refine rv_load H.up4 rfl ?_))))
    refine cond_split (fun h => ?_) (fun h => ?_)
    · have h8 : n.kd = 8 := by simpa using h
      refine rv_loada H.up1 rfl rfl ?_
      (repeat with_reducible (first | refine Red.to ?_ | (refine is_rload ?_; (first | refine rv_load H rfl ?_ | refine rv_load H.up1 rfl ?_ | refine rv_load H.up2 rfl ?_ | refine rv_load H.up3 rfl ?_ | refine rv_load H.up4 rfl ?_))))
      refine truth_spec (by simp only [List.length_append]; omega) H ?_
      clear H
      intro w4 H
      have lt := fb1_len (n := boolN n.st) (by unfold boolN; split <;> omega)
      refine rv_loada H.up1 rfl rfl ?_
      (repeat with_reducible (first | refine Red.to ?_ | (refine is_rload ?_; (first | refine rv_load H rfl ?_ | refine rv_load H.up1 rfl ?_ | refine rv_load H.up2 rfl ?_ | refine rv_load H.up3 rfl ?_ | refine rv_load H.up4 rfl ?_))))
      have H' := H.drop
      rw [hLL] at H'
      refine rv_len_rd0 (Rt _ H').2 ?_
      clear H'
      refine ints1 rfl (by omega) (by simp only [List.length_append]; omega) H ?_
      clear H
      intro w5 H
      have ln := fb1_len (n := n.conns.length) (by omega)
      refine share_of (fun vs w => vs = [] ∧ St W w (Wr x 0 (bs ++ fb [n.kd.toNat] ++ fb [boolN n.st] ++ fb [n.conns.length] ++ fb (n.conns.flatMap connN)) :: cells b1 74 [.pointer (some ⟨x, 0, none⟩)] :: cells b2 59 [.int .i64 n.kd, .int .i64 n.ins, .int .i64 n.outs, n.cv, .int .u64 n.a, .int .u64 n.b, .int .u64 n.c, .int .u64 n.bd, n.kv, .bool n.st] :: L)) ?_ ?_
      · clear H
        rintro vs w ⟨rfl, H⟩ σ
        have lo := fb_conns hcos n.conns.length hnl
        rw [List.take_length] at lo
        refine rv_loada H.up1 rfl rfl ?_
        (repeat with_reducible (first | refine Red.to ?_ | (refine is_rload ?_; (first | refine rv_load H rfl ?_ | refine rv_load H.up1 rfl ?_ | refine rv_load H.up2 rfl ?_ | refine rv_load H.up3 rfl ?_ | refine rv_load H.up4 rfl ?_))))
        refine ints1 eouts (by omega) (by simp only [List.length_append]; omega) H ?_
        clear H
        intro w6 H
        have lo2 := fb1_len (n := n.outs.toNat) (by omega)
        refine hJ _ _ ⟨rfl, _, ?_, ?_, H⟩
        · unfold nodeN
          rw [if_neg hkc, if_neg h5, if_pos h8]
          simp [fb]
        · simp only [List.length_append]; omega
      intro J3 hJ3
      (repeat with_reducible (first | refine Red.to ?_ | (refine is_rload ?_; (first | refine rv_load H rfl ?_ | refine rv_load H.up1 rfl ?_ | refine rv_load H.up2 rfl ?_ | refine rv_load H.up3 rfl ?_ | refine rv_load H.up4 rfl ?_))))
      have H' := H.drop
      rw [hLL] at H'
      refine rv_len_rd0 (Rt _ H').2 ?_
      clear H'
      refine loop_of (fun vs w => ∃ i : Nat, vs = [.int .i64 i] ∧ i ≤ n.conns.length ∧ St W w (Wr x 0 (bs ++ fb [n.kd.toNat] ++ fb [boolN n.st] ++ fb [n.conns.length] ++ fb ((n.conns.take i).flatMap connN)) :: cells b1 74 [.pointer (some ⟨x, 0, none⟩)] :: cells b2 59 [.int .i64 n.kd, .int .i64 n.ins, .int .i64 n.outs, n.cv, .int .u64 n.a, .int .u64 n.b, .int .u64 n.c, .int .u64 n.bd, n.kv, .bool n.st] :: L)) (fun vs _ => match vs with | [.int _ i] => n.conns.length - i.toNat | _ => 0) ⟨0, rfl, by omega, by simpa [fb] using H⟩ ?_
      clear H
      rintro vs w kk ⟨i, rfl, hil, H⟩ hkk σ
      simp only [List.getD_cons_zero, List.getD_cons_succ]
      (repeat with_reducible (first | refine Red.to ?_ | (refine is_rload ?_; (first | refine rv_load H rfl ?_ | refine rv_load H.up1 rfl ?_ | refine rv_load H.up2 rfl ?_ | refine rv_load H.up3 rfl ?_ | refine rv_load H.up4 rfl ?_))))
      refine cond_split (fun h => ?_) (fun h => ?_)
      · have h : i < n.conns.length := by have := of_decide_eq_true h; omega
        obtain ⟨o, ho1⟩ : ∃ o, n.conns[i]? = some o := ⟨_, List.getElem?_eq_getElem h⟩
        have hoo := hcos o (List.mem_of_getElem? ho1)
        unfold ConnD.ok i64r at hoo
        have lo := fb_conns hcos i hnl
        have H' := H.drop
        rw [hLL] at H'
        obtain ⟨g, off, cap, hv, hcell⟩ := Kn0.form (fun w h => (Rt w h).2) H' (by omega)
        refine rv_row (cs := o.cs) H hv h (fun j v hj => hcell w H' _ v (fl_get ConnD.len _ i j o v ho1 hj)) (by rfl) (by rfl) o.one ?_
        clear H H'
        intro b3 w6 H
        unfold ConnD.cs at H
        refine rv_loada H.up2 rfl rfl ?_
        (repeat with_reducible (first | refine Red.to ?_ | (refine is_rload ?_; (first | refine rv_load H rfl ?_ | refine rv_load H.up1 rfl ?_ | refine rv_load H.up2 rfl ?_ | refine rv_load H.up3 rfl ?_ | refine rv_load H.up4 rfl ?_))))
        refine ints2 (n := o.i.toNat) (m := o.o.toNat) (by omega) (by omega) (by omega) (by omega) (by simp only [List.length_append]; omega) H.up1 ?_
        clear H
        intro w7 H
        have lk2 : (fb [o.i.toNat, o.o.toNat]).length ≤ 20 := fb_len (l := [o.i.toNat, o.o.toNat]) (by intro y hy; simp at hy; omega)
        refine rv_loada H.up2 rfl rfl ?_
        (repeat with_reducible (first | refine Red.to ?_ | (refine is_rload ?_; (first | refine rv_load H rfl ?_ | refine rv_load H.up1 rfl ?_ | refine rv_load H.up2 rfl ?_ | refine rv_load H.up3 rfl ?_ | refine rv_load H.up4 rfl ?_))))
        refine rv_loada H.up1 rfl rfl ?_
        refine path_spec (by omega) (by omega) (by omega) (by simp only [List.length_append]; omega) H ?_
        clear H
        intro w8 H
        (repeat with_reducible (first | refine Red.to ?_ | (refine is_rload ?_; (first | refine rv_load H rfl ?_ | refine rv_load H.up1 rfl ?_ | refine rv_load H.up2 rfl ?_ | refine rv_load H.up3 rfl ?_ | refine rv_load H.up4 rfl ?_))))
        rw [i64_small (by omega) (by omega)]
        refine hkk _ _ ⟨i + 1, rfl, by omega, ?_⟩ (by simp; omega)
        have e : bs ++ fb [n.kd.toNat] ++ fb [boolN n.st] ++ fb [n.conns.length] ++ fb ((n.conns.take (i + 1)).flatMap connN) = bs ++ fb [n.kd.toNat] ++ fb [boolN n.st] ++ fb [n.conns.length] ++ fb ((n.conns.take i).flatMap connN) ++ fb [o.i.toNat, o.o.toNat] ++ fb [o.a, o.b, o.c] := by
          rw [flatMap_take ho1, fb_append]
          simp [fb, connN]
        rw [e]
        exact H.up1.drop
      · have h : i = n.conns.length := by have := of_decide_eq_false h; omega
        subst h
        rw [List.take_length] at H
        exact hJ3 _ _ ⟨rfl, H⟩
    have h8 : ¬ n.kd = 8 := by simpa using h
    (repeat with_reducible (first | refine Red.to ?_ | (refine is_rload ?_; (first | refine rv_load H rfl ?_ | refine rv_load H.up1 rfl ?_ | refine rv_load H.up2 rfl ?_ | refine rv_load H.up3 rfl ?_ | refine rv_load H.up4 rfl ?_))))
    refine cond_split (fun h => ?_) (fun h => ?_)
    · have h4 : n.kd = 4 := by simpa using h
      refine hJ _ _ ⟨rfl, _, ?_, ?_, H⟩
      · unfold nodeN
        rw [if_neg hkc, if_neg h5, if_neg h8, if_pos h4]
        simp [fb]
      · simp only [List.length_append]; omega
    · have h4 : ¬ n.kd = 4 := by simpa using h
      refine fin _ _ ?_ H
      unfold nodeN
      rw [if_neg hkc, if_neg h5, if_neg h8, if_neg h4]
  intro J3 hJ3
  (repeat with_reducible (first | refine Red.to ?_ | (refine is_rload ?_; (first | refine rv_load H rfl ?_ | refine rv_load H.up1 rfl ?_ | refine rv_load H.up2 rfl ?_ | refine rv_load H.up3 rfl ?_ | refine rv_load H.up4 rfl ?_))))
  refine cond_split (fun h => ?_) (fun h => ?_)
  · have h2 : n.kd = 2 := by simpa using h
    rw [h]
    refine cond_true' ?_
    exact hJ2 _ _ ⟨rfl, .inl h2, H⟩
  have h2 : ¬ n.kd = 2 := by simpa using h
  (repeat with_reducible (first | refine Red.to ?_ | (refine is_rload ?_; (first | refine rv_load H rfl ?_ | refine rv_load H.up1 rfl ?_ | refine rv_load H.up2 rfl ?_ | refine rv_load H.up3 rfl ?_ | refine rv_load H.up4 rfl ?_))))
  refine cond_split (fun h => ?_) (fun h => ?_)
  · have h3 : n.kd = 3 := by simpa using h
    exact hJ2 _ _ ⟨rfl, .inr h3, H⟩
  · have h3 : ¬ n.kd = 3 := by simpa using h
    exact hJ3 _ _ ⟨rfl, by omega, H⟩
end
end Go.Proofs.Ytdmocobabpmoeaa
