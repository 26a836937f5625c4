/-
  Contracts of the laws' own helpers: apart, book.whole.
-/
import Derived.Test.YtpfbpjoknlcbkaaWireG
namespace Go.Proofs.Ytpfbpjoknlcbkaa
open Go.Vc Go.Sep Go.Ops
set_option linter.unusedVariables false
set_option linter.unusedSectionVars false
set_option linter.unusedSimpArgs false

def mark (i : Nat) : UInt8 := UInt8.ofNat (i * 3 + 1)
def mk : Nat → List (Value × List UInt8) → List (Value × List UInt8)
  | _, [] => []
  | s, q :: r => (q.1, List.replicate q.2.length (mark s)) :: mk (s + 1) r
theorem mk_append : ∀ (a b : List (Value × List UInt8)) (s : Nat), mk s (a ++ b) = mk s a ++ mk (s + a.length) b
  | [], b, s => by simp [mk]
  | q :: r, b, s => by simp [mk, mk_append r b (s + 1)]; congr 1; omega
theorem mk_length : ∀ (a : List (Value × List UInt8)) (s : Nat), (mk s a).length = a.length
  | [], s => rfl
  | q :: r, s => by simp [mk, mk_length r]
def Bl (l : List (Value × List UInt8)) : List HProp := l.map fun q => Bs q.1 q.2
/-- y and what came of it by k bytes more: in one row, or each in its own -/
def Tw (y x : Value) (n k : Nat) (m : UInt8) : HProp := fun h =>
  (∃ g cap, y = .slice (some ⟨g, 0, none⟩) n cap ∧ x = .slice (some ⟨g, 0, none⟩) (n + k) cap ∧ Bs x (List.replicate (n + k) m) h) ∨ Owns h [Bs x (List.replicate (n + k) m), Bs y (List.replicate n m)]
def tws : Nat → List (Value × List UInt8) → List Value → List HProp
  | s, q :: r, x :: xs => Tw q.1 x q.2.length 70 (mark s) :: tws (s + 1) r xs
  | _, _, _ => []
theorem tws_snoc : ∀ (a : List (Value × List UInt8)) (xs : List Value) (s : Nat) (q : Value × List UInt8) (x : Value), xs.length = a.length → tws s (a ++ [q]) (xs ++ [x]) = tws s a xs ++ [Tw q.1 x q.2.length 70 (mark (s + a.length))]
  | [], [], s, q, x, _ => by simp [tws]
  | p :: r, z :: xs, s, q, x, h => by
    simp only [List.cons_append, tws, List.length_cons]
    have e : s + 1 + r.length = s + (r.length + 1) := by omega
    rw [tws_snoc r xs (s + 1) q x (by simpa using h), e]
  | [], _ :: _, _, _, _, h => by simp at h
  | _ :: _, [], _, _, _, h => by simp at h

section
variable {W w : World} {L : List HProp} {K : Value → World → Prop} {KU : World → Prop} {X : XPost}
theorem St.mid {A B : List HProp} {S q : HProp} (H : St W w (S :: (A ++ q :: B))) : St W w (q :: S :: (A ++ B)) := (H.perm (List.perm_middle.cons _)).up1
theorem St.mid' {A B : List HProp} {S q : HProp} (H : St W w (q :: S :: (A ++ B))) : St W w (S :: (A ++ q :: B)) := H.up1.perm (List.perm_middle.symm.cons _)

theorem Bs_shrink {g n m cap : Nat} {b : UInt8} {h : Frag} (hm : m ≤ n) (H : Bs (.slice (some ⟨g, 0, none⟩) n cap) (List.replicate n b) h) : Bs (.slice (some ⟨g, 0, none⟩) m cap) (List.replicate m b) h := by
  obtain ⟨h1, h2⟩ := H
  rcases h2 with ⟨h2, _⟩ | ⟨g', cap', cur, hv, hg, hn, hc, hs, ht⟩
  · cases h2
  · simp only [Value.slice.injEq, Option.some.injEq, Addr.mk.injEq] at hv
    obtain ⟨⟨rfl, _⟩, _, rfl⟩ := hv
    refine ⟨by simp [bv], .inr ⟨g, cap, cur, by simp, hg, by simp; simp at hn; omega, hc, hs, ?_⟩⟩
    simp only [List.length_replicate, Nat.mul_one] at ht ⊢
    have := congrArg (List.take m) ht
    rw [List.take_take, Nat.min_eq_left hm] at this
    rw [this]
    simp [bv, List.map_replicate, List.take_replicate, Nat.min_eq_left hm]
theorem Tw_rd {y x : Value} {n k : Nat} {m : UInt8} (H : St W w (Tw y x n k m :: L)) : Rd w x (n + k) (bv (List.replicate (n + k) m)) ∧ Rd w y n (bv (List.replicate n m)) := by
  obtain ⟨hb, a, d, hd, ha, hdn, hsa, hsd, hA, hL⟩ := St.cons_iff.1 H
  have mk : ∀ A : HProp, A a → St W w (A :: L) := fun A h => St.cons_iff.2 ⟨hb, a, d, hd, ha, hdn, hsa, hsd, h, hL⟩
  rcases hA with ⟨g, cap, rfl, rfl, h⟩ | h
  · have r1 := (mk _ h).rd
    have r2 := (mk _ (Bs_shrink (Nat.le_add_right n k) h)).rd
    simp only [List.length_replicate] at r1 r2
    exact ⟨r1, r2⟩
  · have H := (mk (Sep.all [Bs x (List.replicate (n + k) m), Bs y (List.replicate n m)]) h).all
    have r1 := H.rd
    have r2 := H.up1.rd
    simp only [List.length_replicate] at r1 r2
    exact ⟨r1, r2⟩
theorem tws_rd : ∀ (l : List (Value × List UInt8)) (xs : List Value) (s : Nat), St W w (tws s l xs ++ L) → ∀ (i : Nat) (q : Value × List UInt8) (x : Value), l[i]? = some q → xs[i]? = some x → Rd w x (q.2.length + 70) (bv (List.replicate (q.2.length + 70) (mark (s + i)))) ∧ Rd w q.1 q.2.length (bv (List.replicate q.2.length (mark (s + i))))
  | [], _, _, _, i, q, x, h, _ => by simp at h
  | _ :: _, [], _, _, i, q, x, _, h => by simp at h
  | p :: r, z :: xs, s, H, i, q, x, h1, h2 => by
    simp only [tws, List.cons_append] at H
    cases i with
    | zero =>
      simp only [List.getElem?_cons_zero, Option.some.injEq] at h1 h2
      subst h1; subst h2
      simpa using Tw_rd H
    | succ i =>
      simp only [List.getElem?_cons_succ] at h1 h2
      have := tws_rd r xs (s + 1) H.drop i q x h1 h2
      have e : s + 1 + i = s + (i + 1) := by omega
      rw [e] at this
      exact this
/-- One byte more onto x. -/
theorem tw_step {y x : Value} {n k : Nat} {m : UInt8} {v : Int} (hv : UInt8.ofNat v.toNat = m) (hv2 : 0 ≤ v ∧ v < 256) (hn : n + k ≤ 140737488355000) (H : St W w (Tw y x n k m :: L))
    (kk : ∀ x' w', St W w' (Tw y x' n (k + 1) m :: L) → K x' w') :
    RunV Try.prog (Instr.buildSlice 27 1 #[(0, .int .u8 v)]) w (fun s w => RunV Try.prog (Builtin.append_ #[27, 27] 27 #[x, s]) w K X) X := by
  have e1 : bv (List.replicate (n + k) m) ++ [Value.int .u8 v] = bv (List.replicate (n + (k + 1)) m) := by
    rw [bv_snoc hv2, hv, ← Nat.add_assoc, List.replicate_succ']
  obtain ⟨hb, a, d, hd, ha, hdn, hsa, hsd, hA, hL⟩ := St.cons_iff.1 H
  have mk : ∀ A : HProp, A a → St W w (A :: L) := fun A h => St.cons_iff.2 ⟨hb, a, d, hd, ha, hdn, hsa, hsd, h, hL⟩
  clear H
  rcases hA with ⟨g, cap, rfl, rfl, h⟩ | h
  · have H := mk _ h
    clear mk
    refine rv_build1 H rfl (by simp [Value.cells]) ?_
    intro g1 w1 H
    obtain ⟨v', w', hr, hk⟩ := run_append_keep (P := Try.prog) (t := 27) (ty := 27) (c := 1) (m := 1) (a := ⟨g1, 0, none⟩) (news := [.int .u8 v]) H.up1 rfl (fun j u hj => by rw [add_plain]; exact H.load hj) (by simp [Value.oneCell']) (by simp only [List.length_replicate]; unfold maxLen; omega) (by simp only [List.length_replicate]; omega)
    refine rv hr (kk v' w' ?_)
    rw [e1] at hk
    rcases hk with ⟨g2, cap2, h1, h2, h3, H⟩ | H
    · have H := H.up1.drop
      simp only [List.length_replicate, Value.slice.injEq, Option.some.injEq, Addr.mk.injEq] at h1
      obtain ⟨⟨rfl, _⟩, _, rfl⟩ := h1
      simp only [List.length_replicate] at h2
      subst h2
      refine H.mono fun h hh => .inl ⟨_, _, rfl, by rw [Nat.add_assoc], ?_⟩
      simpa [Bs, Nat.add_assoc] using hh
    · have H := H.up2.drop
      have H : St W w' (Bs v' (List.replicate (n + (k + 1)) m) :: Bs (.slice (some ⟨g, 0, none⟩) (n + k) cap) (List.replicate (n + k) m) :: L) := by
        simpa [Bs, Nat.add_assoc] using H
      have H := (H.up1.mono (fun h hh => Bs_shrink (Nat.le_add_right n k) hh)).up1
      exact (St.all_mk (L1 := [_, _]) H).mono fun h hh => .inr hh
  · have H := (mk (Sep.all [Bs x (List.replicate (n + k) m), Bs y (List.replicate n m)]) h).all
    clear mk
    refine rv_build1 H rfl (by simp [Value.cells]) ?_
    intro g1 w1 H
    refine rv_append_cells (m := 1) H rfl (by simp [Value.cells, Value.oneCell']) (by simp only [List.length_replicate]; unfold maxLen; omega) (by simp only [List.length_replicate]; omega) ?_
    intro x' w' H _
    refine kk x' w' ?_
    have e2 : bv (List.replicate (n + k) m) ++ (Value.int .u8 v).cells.toList = bv (List.replicate (n + (k + 1)) m) := e1
    rw [e2] at H
    have H : St W w' ([Bs x' (List.replicate (n + (k + 1)) m), Bs y (List.replicate n m)] ++ L) := by
      simpa [Bs, Nat.add_assoc] using H
    exact (St.all_mk H).mono fun h hh => .inr hh
theorem tw_zero {y : Value} {n : Nat} {m : UInt8} (H : St W w (Bs y (List.replicate n m) :: L)) : St W w (Tw y y n 0 m :: L) := by
  rcases H.sl_form.2 with ⟨rfl, hn⟩ | ⟨g, cap, rfl, hn, hc⟩
  · simp only [List.length_replicate] at hn
    subst hn
    have H2 : St W w ([Bs (.slice none 0 0) (List.replicate (0 + 0) m), Bs (.slice none 0 0) (List.replicate 0 m)] ++ L) := H.sl_nil _ _
    exact (St.all_mk H2).mono fun h hh => .inr hh
  · simp only [List.length_replicate] at H ⊢
    exact H.mono fun h hh => .inl ⟨g, cap, rfl, rfl, hh⟩
end
end Go.Proofs.Ytpfbpjoknlcbkaa
