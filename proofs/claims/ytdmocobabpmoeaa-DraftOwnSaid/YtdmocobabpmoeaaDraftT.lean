
/-
  The law's helper apart: lists of bytes, each marked through and put on.
-/
import Derived.Test.YtdmocobabpmoeaaDraftS
namespace Go.Proofs.Ytdmocobabpmoeaa
open Go.Vc Go.Sep Go.Ops
set_option linter.unusedVariables false
set_option linter.unusedSectionVars false
set_option linter.unusedSimpArgs false

def mark (i : Nat) : UInt8 := UInt8.ofNat (201 + i)
def mk : Nat → List (Value × List UInt8) → List (Value × List UInt8)
  | _, [] => []
  | s, q :: r => (q.1, List.replicate q.2.length (mark s)) :: mk (s + 1) r
theorem mk_append : ∀ (a b : List (Value × List UInt8)) (s : Nat), mk s (a ++ b) = mk s a ++ mk (s + a.length) b
  | [], b, s => by simp [mk]
  | q :: r, b, s => by simp [mk, mk_append r b (s + 1)]; congr 1; omega
theorem mk_length : ∀ (a : List (Value × List UInt8)) (s : Nat), (mk s a).length = a.length
  | [], s => rfl
  | q :: r, s => by simp [mk, mk_length r]
def Bl (l : List (Value × List UInt8)) : List HProp := l.map fun q => Bs q.1 q.2
/-- y and what came of it by k bytes more: in one row, or each in its own -/
def Tw (y x : Value) (n k : Nat) (m : UInt8) : HProp := fun h =>
  (∃ g cap, y = .slice (some ⟨g, 0, none⟩) n cap ∧ x = .slice (some ⟨g, 0, none⟩) (n + k) cap ∧ Bs x (List.replicate (n + k) m) h) ∨ Owns h [Bs x (List.replicate (n + k) m), Bs y (List.replicate n m)]
def tws : Nat → List (Value × List UInt8) → List Value → List HProp
  | s, q :: r, x :: xs => Tw q.1 x q.2.length 70 (mark s) :: tws (s + 1) r xs
  | _, _, _ => []
theorem tws_snoc : ∀ (a : List (Value × List UInt8)) (xs : List Value) (s : Nat) (q : Value × List UInt8) (x : Value), xs.length = a.length → tws s (a ++ [q]) (xs ++ [x]) = tws s a xs ++ [Tw q.1 x q.2.length 70 (mark (s + a.length))]
  | [], [], s, q, x, _ => by simp [tws]
  | p :: r, z :: xs, s, q, x, h => by
    simp only [List.cons_append, tws, List.length_cons]
    have e : s + 1 + r.length = s + (r.length + 1) := by omega
    rw [tws_snoc r xs (s + 1) q x (by simpa using h), e]
  | [], _ :: _, _, _, _, h => by simp at h
  | _ :: _, [], _, _, _, h => by simp at h

section
variable {W w : World} {L : List HProp} {K : Value → World → Prop} {KU : World → Prop} {X : XPost}
theorem St.mid {A B : List HProp} {S q : HProp} (H : St W w (S :: (A ++ q :: B))) : St W w (q :: S :: (A ++ B)) := (H.perm (List.perm_middle.cons _)).up1
theorem St.mid' {A B : List HProp} {S q : HProp} (H : St W w (q :: S :: (A ++ B))) : St W w (S :: (A ++ q :: B)) := H.up1.perm (List.perm_middle.symm.cons _)

theorem Bs_shrink {g n m cap : Nat} {b : UInt8} {h : Frag} (hm : m ≤ n) (H : Bs (.slice (some ⟨g, 0, none⟩) n cap) (List.replicate n b) h) : Bs (.slice (some ⟨g, 0, none⟩) m cap) (List.replicate m b) h := by
  obtain ⟨h1, h2⟩ := H
  rcases h2 with ⟨h2, _⟩ | ⟨g', cap', cur, hv, hg, hn, hc, hs, ht⟩
  · cases h2
  · simp only [Value.slice.injEq, Option.some.injEq, Addr.mk.injEq] at hv
    obtain ⟨⟨rfl, _⟩, _, rfl⟩ := hv
    refine ⟨by simp [bv], .inr ⟨g, cap, cur, by simp, hg, by simp; simp at hn; omega, hc, hs, ?_⟩⟩
    simp only [List.length_replicate, Nat.mul_one] at ht ⊢
    have := congrArg (List.take m) ht
    rw [List.take_take, Nat.min_eq_left hm] at this
    rw [this]
    simp [bv, List.map_replicate, List.take_replicate, Nat.min_eq_left hm]
theorem Tw_rd {y x : Value} {n k : Nat} {m : UInt8} (H : St W w (Tw y x n k m :: L)) : Rd w x (n + k) (bv (List.replicate (n + k) m)) ∧ Rd w y n (bv (List.replicate n m)) := by
  obtain ⟨hb, a, d, hd, ha, hdn, hsa, hsd, hA, hL⟩ := St.cons_iff.1 H
  have mk : ∀ A : HProp, A a → St W w (A :: L) := fun A h => St.cons_iff.2 ⟨hb, a, d, hd, ha, hdn, hsa, hsd, h, hL⟩
  rcases hA with ⟨g, cap, rfl, rfl, h⟩ | h
  · have r1 := (mk _ h).rd
    have r2 := (mk _ (Bs_shrink (Nat.le_add_right n k) h)).rd
    simp only [List.length_replicate] at r1 r2
    exact ⟨r1, r2⟩
  · have H := (mk (Sep.all [Bs x (List.replicate (n + k) m), Bs y (List.replicate n m)]) h).all
    have r1 := H.rd
    have r2 := H.up1.rd
    simp only [List.length_replicate] at r1 r2
    exact ⟨r1, r2⟩
theorem tws_rd : ∀ (l : List (Value × List UInt8)) (xs : List Value) (s : Nat), St W w (tws s l xs ++ L) → ∀ (i : Nat) (q : Value × List UInt8) (x : Value), l[i]? = some q → xs[i]? = some x → Rd w x (q.2.length + 70) (bv (List.replicate (q.2.length + 70) (mark (s + i)))) ∧ Rd w q.1 q.2.length (bv (List.replicate q.2.length (mark (s + i))))
  | [], _, _, _, i, q, x, h, _ => by simp at h
  | _ :: _, [], _, _, i, q, x, _, h => by simp at h
  | p :: r, z :: xs, s, H, i, q, x, h1, h2 => by
    simp only [tws, List.cons_append] at H
    cases i with
    | zero =>
      simp only [List.getElem?_cons_zero, Option.some.injEq] at h1 h2
      subst h1; subst h2
      simpa using Tw_rd H
    | succ i =>
      simp only [List.getElem?_cons_succ] at h1 h2
      have := tws_rd r xs (s + 1) H.drop i q x h1 h2
      have e : s + 1 + i = s + (i + 1) := by omega
      rw [e] at this
      exact this
/-- One byte more onto x. -/
theorem tw_step {y x : Value} {n k : Nat} {m : UInt8} {v : Int} (hv : UInt8.ofNat v.toNat = m) (hv2 : 0 ≤ v ∧ v < 256) (hn : n + k ≤ 140737488355000) (H : St W w (Tw y x n k m :: L))
    (kk : ∀ x' w', St W w' (Tw y x' n (k + 1) m :: L) → K x' w') :
    RunV Try.prog (Instr.buildSlice 27 1 #[(0, .int .u8 v)]) w (fun s w => RunV Try.prog (Builtin.append_ #[27, 27] 27 #[x, s]) w K X) X := by
  have e1 : bv (List.replicate (n + k) m) ++ [Value.int .u8 v] = bv (List.replicate (n + (k + 1)) m) := by
    rw [bv_snoc hv2, hv, ← Nat.add_assoc, List.replicate_succ']
  obtain ⟨hb, a, d, hd, ha, hdn, hsa, hsd, hA, hL⟩ := St.cons_iff.1 H
  have mk : ∀ A : HProp, A a → St W w (A :: L) := fun A h => St.cons_iff.2 ⟨hb, a, d, hd, ha, hdn, hsa, hsd, h, hL⟩
  clear H
  rcases hA with ⟨g, cap, rfl, rfl, h⟩ | h
  · have H := mk _ h
    clear mk
    refine rv_build1 H rfl (by simp [Value.cells]) ?_
    intro g1 w1 H
    obtain ⟨v', w', hr, hk⟩ := run_append_keep (P := Try.prog) (t := 27) (ty := 27) (c := 1) (m := 1) (a := ⟨g1, 0, none⟩) (news := [.int .u8 v]) H.up1 rfl (fun j u hj => by rw [add_plain]; exact H.load hj) (by simp [Value.oneCell']) (by simp only [List.length_replicate]; unfold maxLen; omega) (by simp only [List.length_replicate]; omega)
    refine rv hr (kk v' w' ?_)
    rw [e1] at hk
    rcases hk with ⟨g2, cap2, h1, h2, h3, H⟩ | H
    · have H := H.up1.drop
      simp only [List.length_replicate, Value.slice.injEq, Option.some.injEq, Addr.mk.injEq] at h1
      obtain ⟨⟨rfl, _⟩, _, rfl⟩ := h1
      simp only [List.length_replicate] at h2
      subst h2
      refine H.mono fun h hh => .inl ⟨_, _, rfl, by rw [Nat.add_assoc], ?_⟩
      simpa [Bs, Nat.add_assoc] using hh
    · have H := H.up2.drop
      have H : St W w' (Bs v' (List.replicate (n + (k + 1)) m) :: Bs (.slice (some ⟨g, 0, none⟩) (n + k) cap) (List.replicate (n + k) m) :: L) := by
        simpa [Bs, Nat.add_assoc] using H
      have H := (H.up1.mono (fun h hh => Bs_shrink (Nat.le_add_right n k) hh)).up1
      exact (St.all_mk (L1 := [_, _]) H).mono fun h hh => .inr hh
  · have H := (mk (Sep.all [Bs x (List.replicate (n + k) m), Bs y (List.replicate n m)]) h).all
    clear mk
    refine rv_build1 H rfl (by simp [Value.cells]) ?_
    intro g1 w1 H
    refine rv_append_cells (m := 1) H rfl (by simp [Value.cells, Value.oneCell']) (by simp only [List.length_replicate]; unfold maxLen; omega) (by simp only [List.length_replicate]; omega) ?_
    intro x' w' H _
    refine kk x' w' ?_
    have e2 : bv (List.replicate (n + k) m) ++ (Value.int .u8 v).cells.toList = bv (List.replicate (n + (k + 1)) m) := e1
    rw [e2] at H
    have H : St W w' ([Bs x' (List.replicate (n + (k + 1)) m), Bs y (List.replicate n m)] ++ L) := by
      simpa [Bs, Nat.add_assoc] using H
    exact (St.all_mk H).mono fun h hh => .inr hh
theorem tw_zero {y : Value} {n : Nat} {m : UInt8} (H : St W w (Bs y (List.replicate n m) :: L)) : St W w (Tw y y n 0 m :: L) := by
  rcases H.sl_form.2 with ⟨rfl, hn⟩ | ⟨g, cap, rfl, hn, hc⟩
  · simp only [List.length_replicate] at hn
    subst hn
    have H2 : St W w ([Bs (.slice none 0 0) (List.replicate (0 + 0) m), Bs (.slice none 0 0) (List.replicate 0 m)] ++ L) := H.sl_nil _ _
    exact (St.all_mk H2).mono fun h hh => .inr hh
  · simp only [List.length_replicate] at H ⊢
    exact H.mono fun h hh => .inl ⟨g, cap, rfl, rfl, hh⟩
theorem Bs_n {g n cap : Nat} {bs : List UInt8} (H : St W w (Bs (.slice (some ⟨g, 0, none⟩) n cap) bs :: L)) : n = bs.length ∧ n ≤ cap ∧ cap ≤ maxLen := by
  rcases H.sl_form.2 with ⟨h, _⟩ | ⟨g', cap', h, h1, h2⟩
  · cases h
  · cases h; exact ⟨rfl, h1, h2⟩
/-- One byte written. -/
theorem ru_bs {g j cap : Nat} {bs : List UInt8} {x : Int} (H : St W w (Bs (.slice (some ⟨g, 0, none⟩) bs.length cap) bs :: L)) (hj : j < bs.length) (hx : 0 ≤ x ∧ x < 256)
    (k : ∀ w', St W w' (Bs (.slice (some ⟨g, 0, none⟩) bs.length cap) (bs.set j (UInt8.ofNat x.toNat)) :: L) → KU w') : RunU Try.prog (Instr.storeAt 5 (.pointer (some ⟨g, j, none⟩)) (.int .u8 x)) w KU X := by
  obtain ⟨_, h1, h2⟩ := Bs_n H
  obtain ⟨rest, hr, H⟩ := St.cells_of_sl H
  refine ru_store H (by simp [bv]; omega) rfl ?_
  intro w1 H
  refine k w1 ?_
  have hlen : ((bv bs ++ rest).set j (Value.int .u8 x)).length = cap * 1 := by rw [List.length_set]; exact hr
  have H := H.sl_of_cells (size := 1) (n := bs.length) (cap := cap) hlen h1 h2
  have e : ((bv bs ++ rest).set j (Value.int .u8 x)).take (bs.length * 1) = bv (bs.set j (UInt8.ofNat x.toNat)) := by
    have hv : Value.int .u8 x = Value.int .u8 ((UInt8.ofNat x.toNat).toNat : Int) := by congr 1; simp; omega
    rw [List.set_append_left _ _ (by simpa [bv] using hj), Nat.mul_one, List.take_append_of_le_length (by simp [bv]), List.take_of_length_le (by simp [bv]), hv]
    simp [bv, List.map_set]
  rw [e] at H
  simpa [Bs] using H

/-- An element, read. -/
theorem rv_idx {t e b : Nat} {z : Value} [TSlice Try.prog t e 1 b z] [TCell Try.prog e] {v : Value} {n i : Nat} {cs : List Value} {u : Value} {k : IntKind} (R : Rd w v n cs) (hl : cs.length = n) (hi : cs[i]? = some u) (hk : K u w) :
    RunV Try.prog (Instr.indexAt t v (.int k (i : Nat))) w (fun p w => RunV Try.prog (Instr.loadAt e p) w K X) X := by
  have hin : i < n := by rw [← hl]; exact (List.getElem?_eq_some_iff.1 hi).1
  rcases R with ⟨rfl, rfl, _⟩ | ⟨g, off, cap, rfl, hn, hc⟩
  · omega
  · refine rv_index (by omega) (by omega) ?_
    have := hc i u hi
    refine rv (Ops.run_load (by simpa using this)) hk
/-- A byte, written. -/
theorem rv_idx_set {y : Value} {j : Nat} {bs : List UInt8} {x : Int} (H : St W w (Bs y bs :: L)) (hj : j < bs.length) (hx : 0 ≤ x ∧ x < 256)
    (k : ∀ w', St W w' (Bs y (bs.set j (UInt8.ofNat x.toNat)) :: L) → KU w') : RunV Try.prog (Instr.indexAt 27 y (.int .i64 (j : Nat))) w (fun p w => RunU Try.prog (Instr.storeAt 5 p (.int .u8 x)) w KU X) X := by
  rcases H.sl_form.2 with ⟨rfl, hn⟩ | ⟨g, cap, rfl, hn, hc⟩
  · omega
  · refine rv_index (by omega) (by omega) ?_
    have e : 0 + ((j : Nat) : Int).toNat * 1 = j := by omega
    rw [e]
    exact ru_bs H hj hx k
theorem mark_int {i : Nat} (h : i ≤ 10000000000000) : IntKind.u8.wrap (IntKind.i64.wrap (201 + (i : Int))) = ((mark i).toNat : Int) := by
  rw [i64_small (by omega) (by omega)]
  simp [mark, IntKind.wrap, IntKind.bits, IntKind.signed]
theorem mark_nat (i : Nat) : UInt8.ofNat ((mark i).toNat : Int).toNat = mark i := by simp
theorem mark_lt (i : Nat) : 0 ≤ ((mark i).toNat : Int) ∧ ((mark i).toNat : Int) < 256 := by have := (mark i).toNat_lt; omega
theorem Tw_cell {y x : Value} {n k : Nat} {m : UInt8} (H : St W w (Tw y x n k m :: L)) : x.cells = #[x] ∧ x.oneCell' = true := by
  rcases (Tw_rd H).1 with ⟨rfl, _⟩ | ⟨g, off, cap, rfl, _⟩ <;> exact ⟨rfl, rfl⟩

theorem apart_spec {vl : Value} {l : List (Value × List UInt8)} (hl : l.length ≤ 4000000000000) (hb : ∀ q ∈ l, q.2.length ≤ 140737488350000) (H : St W w (Sl 27 1 vl l.length (l.map (·.1)) :: (Bl l ++ L)))
    (k : ∀ w', St W w' L → K (.bool true) w') : FCall Try.prog Fn.sluicelaw08_apart #[vl] w K X := by
  refine sluicelaw08_apart_call ?_
  unfold Sh.sluicelaw08_apart
  refine share_of (fun vs w => vs = [] ∧ St W w (Sl 27 1 vl l.length (l.map (·.1)) :: (Bl (mk 0 l) ++ L))) ?_ ?_
  · clear H
    rintro vs w ⟨rfl, H⟩ σ
    refine share_of (fun vs w => ∃ more xs, vs = [more] ∧ xs.length = l.length ∧ St W w (Sl 27 1 more xs.length xs :: Sl 27 1 vl l.length (l.map (·.1)) :: (tws 0 l xs ++ L))) ?_ ?_
    · clear H
      rintro vs w ⟨more, xs, rfl, hxl, H⟩ σ
      simp only [List.getD_cons_zero, List.getD_cons_succ]
      have Rm := H.rd
      have Rl := H.up1.rd
      have F := tws_rd l xs 0 H.drop.drop
      have fin := k w (St.dropL H.drop.drop)
      clear H
      simp only [Nat.zero_add] at F
      refine rv_len_rd Rm ?_
      refine loop_of (fun vs w' => w' = w ∧ ∃ i : Nat, vs = [.int .i64 i] ∧ i ≤ l.length) (fun vs _ => match vs with | [.int _ i] => l.length - i.toNat | _ => 0) ⟨rfl, 0, rfl, by omega⟩ ?_
      rintro vs w' kk ⟨rfl, i, rfl, hi⟩ hkk σ
      simp only [List.getD_cons_zero, List.getD_cons_succ]
      (repeat with_reducible (first | refine Red.to ?_ | (refine is_rload ?_; (first | refine rv_load H rfl ?_ | refine rv_load H.up1 rfl ?_ | refine rv_load H.up2 rfl ?_ | refine rv_load H.up3 rfl ?_ | refine rv_load H.up4 rfl ?_))))
      refine cond_split (fun h => ?_) (fun h => ?_)
      · have h : i < l.length := by have := of_decide_eq_true h; omega
        obtain ⟨q, hq⟩ : ∃ q, l[i]? = some q := ⟨_, List.getElem?_eq_getElem h⟩
        obtain ⟨x, hx⟩ : ∃ x, xs[i]? = some x := ⟨_, List.getElem?_eq_getElem (by omega)⟩
        have hql : (l.map (·.1))[i]? = some q.1 := by simp [hq]
        have hqb := hb q (List.mem_of_getElem? hq)
        obtain ⟨Fx, Fy⟩ := F i q x hq hx
        refine rv_idx Rm rfl hx ?_
        refine share_of (fun vs w'' => vs = [] ∧ w'' = w') ?_ ?_
        · rintro vs w'' ⟨rfl, rfl⟩ σ
          refine rv_len_rd Fx ?_
          refine rv_idx Rl (by simp) hql ?_
          refine rv_len_rd Fy ?_
          (repeat with_reducible (first | refine Red.to ?_ | (refine is_rload ?_; (first | refine rv_load H rfl ?_ | refine rv_load H.up1 rfl ?_ | refine rv_load H.up2 rfl ?_ | refine rv_load H.up3 rfl ?_ | refine rv_load H.up4 rfl ?_))))
          rw [i64_small (by omega) (by omega)]
          have e70 : (((q.2.length + 70 : Nat) : Int) != (q.2.length : Int) + 70) = false := by simp
          rw [e70]
          (repeat (first | (with_reducible (first | refine Red.to ?_ | (refine is_rload ?_; (first | refine rv_load H rfl ?_ | refine rv_load H.up1 rfl ?_ | refine rv_load H.up2 rfl ?_ | refine rv_load H.up3 rfl ?_ | refine rv_load H.up4 rfl ?_)) | (refine is_tload ?_; (first | refine tk_load (fun _ H => H) rfl ?_ | refine tk_load (fun _ H => H.up1) rfl ?_ | refine tk_load (fun _ H => H.up2) rfl ?_ | refine tk_load (fun _ H => H.up3) rfl ?_)))) | (refine Share.mk ?_) | (intro _) | (simp only [List.getD_cons_zero, List.getD_cons_succ])))
          rw [i64_small (by omega) (by omega)]
          exact hkk _ _ ⟨rfl, i + 1, by simp, by omega⟩ (by simp; omega)
        · intro J hJ
          refine rv_len_rd Fx ?_
          refine loop_of (fun vs w'' => w'' = w' ∧ ∃ j : Nat, vs = [.int .i64 j] ∧ j ≤ q.2.length + 70) (fun vs _ => match vs with | [.int _ j] => q.2.length + 70 - j.toNat | _ => 0) ⟨rfl, 0, rfl, by omega⟩ ?_
          rintro vs w'' kk2 ⟨rfl, j, rfl, hj⟩ hkk2 σ
          simp only [List.getD_cons_zero, List.getD_cons_succ]
          (repeat with_reducible (first | refine Red.to ?_ | (refine is_rload ?_; (first | refine rv_load H rfl ?_ | refine rv_load H.up1 rfl ?_ | refine rv_load H.up2 rfl ?_ | refine rv_load H.up3 rfl ?_ | refine rv_load H.up4 rfl ?_))))
          refine cond_split (fun h2 => ?_) (fun h2 => ?_)
          · have h2 : j < q.2.length + 70 := by have := of_decide_eq_true h2; omega
            refine share_of (fun vs w3 => vs = [] ∧ w3 = w'') ?_ ?_
            · rintro vs w3 ⟨rfl, rfl⟩ σ
              (repeat with_reducible (first | refine Red.to ?_ | (refine is_rload ?_; (first | refine rv_load H rfl ?_ | refine rv_load H.up1 rfl ?_ | refine rv_load H.up2 rfl ?_ | refine rv_load H.up3 rfl ?_ | refine rv_load H.up4 rfl ?_))))
              rw [i64_small (by omega) (by omega)]
              exact hkk2 _ _ ⟨rfl, j + 1, by simp, by omega⟩ (by simp; omega)
            · intro J2 hJ2
              have cx : (bv (List.replicate (q.2.length + 70) (mark i)))[j]? = some (.int .u8 ((mark i).toNat : Int)) := by simp [bv, h2]
              refine rv_idx Fx (by simp [bv]) cx ?_
              (repeat with_reducible (first | refine Red.to ?_ | (refine is_rload ?_; (first | refine rv_load H rfl ?_ | refine rv_load H.up1 rfl ?_ | refine rv_load H.up2 rfl ?_ | refine rv_load H.up3 rfl ?_ | refine rv_load H.up4 rfl ?_))))
              rw [mark_int (by omega), bne_self_eq_false]
              obtain ⟨b, hb2⟩ : ∃ b, decide ((j : Int) < (q.2.length : Int)) = b := ⟨_, rfl⟩
              refine ⟨?_⟩
              refine guard_ff ?_
              refine rv_idx Rl (by simp) hql ?_
              refine rv_len_rd Fy ?_
              (repeat with_reducible (first | refine Red.to ?_ | (refine is_rload ?_; (first | refine rv_load H rfl ?_ | refine rv_load H.up1 rfl ?_ | refine rv_load H.up2 rfl ?_ | refine rv_load H.up3 rfl ?_ | refine rv_load H.up4 rfl ?_))))
              rw [hb2]
              cases b
              · (repeat (first | (with_reducible (first | refine Red.to ?_ | (refine is_rload ?_; (first | refine rv_load H rfl ?_ | refine rv_load H.up1 rfl ?_ | refine rv_load H.up2 rfl ?_ | refine rv_load H.up3 rfl ?_ | refine rv_load H.up4 rfl ?_)) | (refine is_tload ?_; (first | refine tk_load (fun _ H => H) rfl ?_ | refine tk_load (fun _ H => H.up1) rfl ?_ | refine tk_load (fun _ H => H.up2) rfl ?_ | refine tk_load (fun _ H => H.up3) rfl ?_)))) | (refine Share.mk ?_) | (intro _) | (simp only [List.getD_cons_zero, List.getD_cons_succ])))
                exact hJ2 _ _ ⟨rfl, rfl⟩
              · have h3 : j < q.2.length := by have := of_decide_eq_true hb2; omega
                have cy : (bv (List.replicate q.2.length (mark i)))[j]? = some (.int .u8 ((mark i).toNat : Int)) := by simp [bv, h3]
                (repeat (first | (with_reducible (first | refine Red.to ?_ | (refine is_rload ?_; (first | refine rv_load H rfl ?_ | refine rv_load H.up1 rfl ?_ | refine rv_load H.up2 rfl ?_ | refine rv_load H.up3 rfl ?_ | refine rv_load H.up4 rfl ?_)) | (refine is_tload ?_; (first | refine tk_load (fun _ H => H) rfl ?_ | refine tk_load (fun _ H => H.up1) rfl ?_ | refine tk_load (fun _ H => H.up2) rfl ?_ | refine tk_load (fun _ H => H.up3) rfl ?_)))) | (refine Share.mk ?_) | (intro _) | (simp only [List.getD_cons_zero, List.getD_cons_succ])))
                refine rv_idx Rl (by simp) hql ?_
                refine rv_idx Fy (by simp [bv]) cy ?_
                (repeat with_reducible (first | refine Red.to ?_ | (refine is_rload ?_; (first | refine rv_load H rfl ?_ | refine rv_load H.up1 rfl ?_ | refine rv_load H.up2 rfl ?_ | refine rv_load H.up3 rfl ?_ | refine rv_load H.up4 rfl ?_))))
                rw [mark_int (by omega), bne_self_eq_false]
                (repeat (first | (with_reducible (first | refine Red.to ?_ | (refine is_rload ?_; (first | refine rv_load H rfl ?_ | refine rv_load H.up1 rfl ?_ | refine rv_load H.up2 rfl ?_ | refine rv_load H.up3 rfl ?_ | refine rv_load H.up4 rfl ?_)) | (refine is_tload ?_; (first | refine tk_load (fun _ H => H) rfl ?_ | refine tk_load (fun _ H => H.up1) rfl ?_ | refine tk_load (fun _ H => H.up2) rfl ?_ | refine tk_load (fun _ H => H.up3) rfl ?_)))) | (refine Share.mk ?_) | (intro _) | (simp only [List.getD_cons_zero, List.getD_cons_succ])))
                exact hJ2 _ _ ⟨rfl, rfl⟩
          · exact hJ _ _ ⟨rfl, rfl⟩
      · exact fin
    · intro J hJ
      have Rl0 := H.rd
      refine rv_len_rd Rl0 ?_
      refine loop_of (fun vs w => ∃ pre post xs more, vs = [more, .int .i64 (pre.length : Nat)] ∧ l = pre ++ post ∧ xs.length = pre.length ∧ St W w (Sl 27 1 more xs.length xs :: Sl 27 1 vl l.length (l.map (·.1)) :: (tws 0 pre xs ++ (Bl (mk pre.length post) ++ L))))
        (fun vs _ => match vs with | [_, .int _ i] => l.length - i.toNat | _ => 0) ⟨[], l, [], _, rfl, rfl, rfl, H.sl_nil _ _⟩ ?_
      clear H
      rintro vs w kk ⟨pre, post, xs, more, rfl, hpp, hxl, H⟩ hkk σ
      simp only [List.getD_cons_zero, List.getD_cons_succ]
      (repeat with_reducible (first | refine Red.to ?_ | (refine is_rload ?_; (first | refine rv_load H rfl ?_ | refine rv_load H.up1 rfl ?_ | refine rv_load H.up2 rfl ?_ | refine rv_load H.up3 rfl ?_ | refine rv_load H.up4 rfl ?_))))
      have hln : l.length = pre.length + post.length := by rw [hpp]; simp
      refine cond_split (fun h => ?_) (fun h => ?_)
      · have h : pre.length < l.length := by have := of_decide_eq_true h; omega
        obtain ⟨q, post', rfl⟩ : ∃ q post', post = q :: post' := by
          cases post with
          | nil => simp at hln; omega
          | cons q r => exact ⟨q, r, rfl⟩
        have hq : (l.map (·.1))[pre.length]? = some q.1 := by rw [hpp]; simp
        have hqb := hb q (by rw [hpp]; simp)
        refine rv_idx H.up1.rd (by simp) hq ?_
        refine share_of (fun vs w => ∃ x, vs = [x] ∧ St W w (Tw q.1 x q.2.length 70 (mark pre.length) :: Sl 27 1 more xs.length xs :: Sl 27 1 vl l.length (l.map (·.1)) :: (tws 0 pre xs ++ (Bl (mk (pre.length + 1) post') ++ L)))) ?_ ?_
        · clear H
          rintro vs w ⟨x, rfl, H⟩ σ
          simp only [List.getD_cons_zero, List.getD_cons_succ]
          obtain ⟨hx1, hx2⟩ := Tw_cell H
          refine rv_build1 H (by rw [hx1]; rfl) (by omega) ?_
          intro g w1 H
          rw [hx1] at H
          refine rv_append_cells (m := 1) H.up2.up1 rfl (by simpa using hx2) (by unfold maxLen; omega) (by omega) ?_
          intro more' w2 H _
          (repeat with_reducible (first | refine Red.to ?_ | (refine is_rload ?_; (first | refine rv_load H rfl ?_ | refine rv_load H.up1 rfl ?_ | refine rv_load H.up2 rfl ?_ | refine rv_load H.up3 rfl ?_ | refine rv_load H.up4 rfl ?_))))
          rw [i64_small (by omega) (by omega)]
          refine hkk _ _ ⟨pre ++ [q], post', xs ++ [x], more', by simp, by rw [hpp]; simp, by simp [hxl], ?_⟩ ?_
          · rw [tws_snoc pre xs 0 q x hxl, Nat.zero_add]
            have H := H.perm (((List.Perm.swap ..).trans (List.perm_middle.symm.cons _)).cons _)
            simpa using H
          · simp; omega
        · intro J2 hJ2
          have H : St W w (Bs q.1 (List.replicate q.2.length (mark pre.length)) :: Sl 27 1 more xs.length xs :: Sl 27 1 vl l.length (l.map (·.1)) :: (tws 0 pre xs ++ (Bl (mk (pre.length + 1) post') ++ L))) := by
            have H2 : St W w (Sl 27 1 more xs.length xs :: Sl 27 1 vl l.length (l.map (·.1)) :: (tws 0 pre xs ++ Bs q.1 (List.replicate q.2.length (mark pre.length)) :: (Bl (mk (pre.length + 1) post') ++ L))) := by
              simpa [mk, Bl] using H
            exact (H2.perm ((List.perm_middle.cons _).cons _)).up2
          refine loop_of (fun vs w => ∃ (kn : Nat) (x : Value), vs = [x, .int .i64 kn] ∧ kn ≤ 70 ∧ St W w (Tw q.1 x q.2.length kn (mark pre.length) :: Sl 27 1 more xs.length xs :: Sl 27 1 vl l.length (l.map (·.1)) :: (tws 0 pre xs ++ (Bl (mk (pre.length + 1) post') ++ L))))
            (fun vs _ => match vs with | [_, .int _ i] => 70 - i.toNat | _ => 0) ⟨0, q.1, rfl, by omega, tw_zero H⟩ ?_
          clear H
          rintro vs w kk2 ⟨kn, x, rfl, hk70, H⟩ hkk2 σ
          simp only [List.getD_cons_zero, List.getD_cons_succ]
          (repeat with_reducible (first | refine Red.to ?_ | (refine is_rload ?_; (first | refine rv_load H rfl ?_ | refine rv_load H.up1 rfl ?_ | refine rv_load H.up2 rfl ?_ | refine rv_load H.up3 rfl ?_ | refine rv_load H.up4 rfl ?_))))
          refine cond_split (fun h => ?_) (fun h => ?_)
          · have hk : kn < 70 := by have := of_decide_eq_true h; omega
            (repeat with_reducible (first | refine Red.to ?_ | (refine is_rload ?_; (first | refine rv_load H rfl ?_ | refine rv_load H.up1 rfl ?_ | refine rv_load H.up2 rfl ?_ | refine rv_load H.up3 rfl ?_ | refine rv_load H.up4 rfl ?_))))
            rw [mark_int (by omega)]
            refine tw_step (mark_nat _) (mark_lt _) (by omega) H ?_
            intro x' w1 H
            (repeat with_reducible (first | refine Red.to ?_ | (refine is_rload ?_; (first | refine rv_load H rfl ?_ | refine rv_load H.up1 rfl ?_ | refine rv_load H.up2 rfl ?_ | refine rv_load H.up3 rfl ?_ | refine rv_load H.up4 rfl ?_))))
            rw [i64_small (by omega) (by omega)]
            exact hkk2 _ _ ⟨kn + 1, x', by simp, by omega, H⟩ (by simp; omega)
          · have hk : kn = 70 := by have := of_decide_eq_false h; omega
            subst hk
            exact hJ2 _ _ ⟨x, rfl, H⟩
      · have hp : post = [] := by
          have := of_decide_eq_false h
          exact List.eq_nil_of_length_eq_zero (by omega)
        subst hp
        rw [List.append_nil] at hpp
        subst hpp
        exact hJ _ _ ⟨more, xs, rfl, hxl, by simpa [mk, Bl] using H⟩
  · intro J hJ
    refine rv_len_rd H.rd ?_
    refine loop_of (fun vs w => ∃ pre post, vs = [.int .i64 (pre.length : Nat)] ∧ l = pre ++ post ∧ St W w (Sl 27 1 vl l.length (l.map (·.1)) :: (Bl (mk 0 pre ++ post) ++ L)))
      (fun vs _ => match vs with | [.int _ i] => l.length - i.toNat | _ => 0) ⟨[], l, rfl, rfl, H⟩ ?_
    clear H
    rintro vs w kk ⟨pre, post, rfl, hpp, H⟩ hkk σ
    simp only [List.getD_cons_zero, List.getD_cons_succ]
    (repeat with_reducible (first | refine Red.to ?_ | (refine is_rload ?_; (first | refine rv_load H rfl ?_ | refine rv_load H.up1 rfl ?_ | refine rv_load H.up2 rfl ?_ | refine rv_load H.up3 rfl ?_ | refine rv_load H.up4 rfl ?_))))
    have hln : l.length = pre.length + post.length := by rw [hpp]; simp
    refine cond_split (fun h => ?_) (fun h => ?_)
    · have h : pre.length < l.length := by have := of_decide_eq_true h; omega
      obtain ⟨q, post', rfl⟩ : ∃ q post', post = q :: post' := by
        cases post with
        | nil => simp at hln; omega
        | cons q r => exact ⟨q, r, rfl⟩
      have hq : (l.map (·.1))[pre.length]? = some q.1 := by rw [hpp]; simp
      have hqb := hb q (by rw [hpp]; simp)
      refine share_of (fun vs w => vs = [] ∧ St W w (Sl 27 1 vl l.length (l.map (·.1)) :: (Bl (mk 0 (pre ++ [q]) ++ post') ++ L))) ?_ ?_
      · clear H
        rintro vs w ⟨rfl, H⟩ σ
        (repeat with_reducible (first | refine Red.to ?_ | (refine is_rload ?_; (first | refine rv_load H rfl ?_ | refine rv_load H.up1 rfl ?_ | refine rv_load H.up2 rfl ?_ | refine rv_load H.up3 rfl ?_ | refine rv_load H.up4 rfl ?_))))
        rw [i64_small (by omega) (by omega)]
        refine hkk _ _ ⟨pre ++ [q], post', by simp, by rw [hpp]; simp, H⟩ ?_
        simp; omega
      · intro J2 hJ2
        have e : Bl (mk 0 pre ++ q :: post') ++ L = Bl (mk 0 pre) ++ Bs q.1 q.2 :: (Bl post' ++ L) := by simp [Bl]
        rw [e] at H
        refine rv_idx H.rd (by simp) hq ?_
        refine rv_len_rd (St.mid H).rd ?_
        refine loop_of (fun vs w => ∃ j : Nat, vs = [.int .i64 j] ∧ j ≤ q.2.length ∧ St W w (Bs q.1 (List.replicate j (mark pre.length) ++ q.2.drop j) :: Sl 27 1 vl l.length (l.map (·.1)) :: (Bl (mk 0 pre) ++ (Bl post' ++ L))))
          (fun vs _ => match vs with | [.int _ i] => q.2.length - i.toNat | _ => 0) ⟨0, rfl, by omega, by simpa using St.mid H⟩ ?_
        clear H
        rintro vs w kk2 ⟨j, rfl, hj, H⟩ hkk2 σ
        simp only [List.getD_cons_zero, List.getD_cons_succ]
        have hlen : (List.replicate j (mark pre.length) ++ q.2.drop j).length = q.2.length := by simp; omega
        (repeat with_reducible (first | refine Red.to ?_ | (refine is_rload ?_; (first | refine rv_load H rfl ?_ | refine rv_load H.up1 rfl ?_ | refine rv_load H.up2 rfl ?_ | refine rv_load H.up3 rfl ?_ | refine rv_load H.up4 rfl ?_))))
        refine cond_split (fun h => ?_) (fun h => ?_)
        · have hj2 : j < q.2.length := by have := of_decide_eq_true h; omega
          (repeat with_reducible (first | refine Red.to ?_ | (refine is_rload ?_; (first | refine rv_load H rfl ?_ | refine rv_load H.up1 rfl ?_ | refine rv_load H.up2 rfl ?_ | refine rv_load H.up3 rfl ?_ | refine rv_load H.up4 rfl ?_))))
          rw [mark_int (by omega)]
          refine rv_idx_set H (by omega) (mark_lt _) ?_
          intro w1 H
          rw [mark_nat] at H
          (repeat with_reducible (first | refine Red.to ?_ | (refine is_rload ?_; (first | refine rv_load H rfl ?_ | refine rv_load H.up1 rfl ?_ | refine rv_load H.up2 rfl ?_ | refine rv_load H.up3 rfl ?_ | refine rv_load H.up4 rfl ?_))))
          rw [i64_small (by omega) (by omega)]
          refine hkk2 _ _ ⟨j + 1, by simp, by omega, ?_⟩ ?_
          · have e2 : (List.replicate j (mark pre.length) ++ q.2.drop j).set j (mark pre.length) = List.replicate (j + 1) (mark pre.length) ++ q.2.drop (j + 1) := by
              have e3 : q.2.drop j = q.2[j] :: q.2.drop (j + 1) := List.drop_eq_getElem_cons hj2
              rw [List.set_append_right _ _ (by simp), List.length_replicate, Nat.sub_self, e3, List.set_cons_zero, List.replicate_succ', List.append_assoc]
              rfl
            rw [e2] at H
            exact H
          · simp; omega
        · have hj2 : j = q.2.length := by have := of_decide_eq_false h; omega
          subst hj2
          refine hJ2 _ _ ⟨rfl, ?_⟩
          rw [List.drop_of_length_le (Nat.le_refl _), List.append_nil] at H
          have e2 : Bl (mk 0 (pre ++ [q]) ++ post') ++ L = Bl (mk 0 pre) ++ Bs q.1 (List.replicate q.2.length (mark pre.length)) :: (Bl post' ++ L) := by
            rw [mk_append]
            simp [Bl, mk]
          rw [e2]
          exact St.mid' H
    · have hp : post = [] := by
        have := of_decide_eq_false h
        exact List.eq_nil_of_length_eq_zero (by omega)
      subst hp
      rw [List.append_nil] at hpp
      subst hpp
      rw [List.append_nil] at H
      exact hJ _ _ ⟨rfl, H⟩
end
end Go.Proofs.Ytdmocobabpmoeaa
