
/-
  Package draft: how a graph's parts are laid.
-/
import Derived.Test.YtdmocobabpmoeaaDraftC
namespace Go.Proofs.Ytdmocobabpmoeaa
open Go.Vc Go.Sep Go.Ops
set_option linter.unusedVariables false
set_option linter.unusedSectionVars false
set_option linter.unusedSimpArgs false

section
variable {W w : World} {L : List HProp} {K : Value → World → Prop} {KU : World → Prop} {X : XPost}
def intsV (l : List Nat) : List Value := l.map fun (n : Nat) => Value.int .i64 (n : Int)
theorem u64_of_i64 {n : Nat} (h : n < 9223372036854775808) : IntKind.u64.wrap (n : Int) = ((n : Nat) : Int) := by
  rw [u64_wrap]; omega
theorem ints_spec {x g : Nat} {bs : List UInt8} {l : List Nat} (hl : ∀ n ∈ l, n < 9223372036854775808) (hll : l.length ≤ 100) (hb : bs.length ≤ 1000000) (H : St W w (cells g 3 (intsV l) :: Wr x 0 bs :: L))
    (k : ∀ w', St W w' (Wr x 0 (bs ++ fb l) :: L) → K (.tuple #[]) w') : FCall Try.prog Fn.draft_layer_ints #[.agg #[.pointer (some ⟨x, 0, none⟩)], .slice (some ⟨g, 0, none⟩) l.length l.length] w K X := by
  refine draft_layer_ints_call ?_
  unfold Sh.draft_layer_ints
  refine rv_box (c := [.pointer (some ⟨x, 0, none⟩)]) H rfl ?_
  clear H
  intro b w1 H
  (repeat with_reducible (first | refine Red.to ?_ | (refine is_rload ?_; (first | refine rv_load H rfl ?_ | refine rv_load H.up1 rfl ?_ | refine rv_load H.up2 rfl ?_ | refine rv_load H.up3 rfl ?_ | refine rv_load H.up4 rfl ?_))))
  refine loop_of (fun vs w => ∃ i : Nat, vs = [.int .i64 i] ∧ i ≤ l.length ∧ St W w (cells b 74 [.pointer (some ⟨x, 0, none⟩)] :: cells g 3 (intsV l) :: Wr x 0 (bs ++ fb (l.take i)) :: L)) (fun vs _ => match vs with | [.int _ i] => l.length - i.toNat | _ => 0) ⟨0, rfl, by omega, by simpa [fb] using H⟩ ?_
  clear H
  rintro vs w kk ⟨i, rfl, hi, H⟩ hkk σ
  simp only [List.getD_cons_zero, List.getD_cons_succ]
  (repeat with_reducible (first | refine Red.to ?_ | (refine is_rload ?_; (first | refine rv_load H rfl ?_ | refine rv_load H.up1 rfl ?_ | refine rv_load H.up2 rfl ?_ | refine rv_load H.up3 rfl ?_ | refine rv_load H.up4 rfl ?_))))
  refine cond_split (fun h => ?_) (fun h => ?_)
  · have h : i < l.length := by have := of_decide_eq_true h; omega
    obtain ⟨n, hn⟩ : ∃ n, l[i]? = some n := ⟨_, List.getElem?_eq_getElem h⟩
    have hns := hl n (List.mem_of_getElem? hn)
    refine rv_index (by omega) (by omega) ?_
    have ei : 0 + ((i : Nat) : Int).toNat * 1 = i := by simp
    rw [ei]
    refine rv_load (v := .int .i64 n) H.up1 (by simp [intsV, hn]) ?_
    (repeat with_reducible (first | refine Red.to ?_ | (refine is_rload ?_; (first | refine rv_load H rfl ?_ | refine rv_load H.up1 rfl ?_ | refine rv_load H.up2 rfl ?_ | refine rv_load H.up3 rfl ?_ | refine rv_load H.up4 rfl ?_))))
    rw [u64_of_i64 hns]
    have hlen : (fb (l.take i)).length ≤ 10 * 100 := by
      have := fb_len (l := l.take i) (fun y hy => by have := hl y (List.mem_of_mem_take hy); omega)
      simp at this
      omega
    refine Num_spec H.up2 (by omega) (by simp; omega) ?_
    clear H
    intro w2 H
    rw [if_pos rfl, List.append_assoc] at H
    have e : fb (l.take i) ++ form n = fb (l.take (i + 1)) := by
      rw [List.take_add_one, hn, fb_append]; simp [fb]
    rw [e] at H
    (repeat with_reducible (first | refine Red.to ?_ | (refine is_rload ?_; (first | refine rv_load H rfl ?_ | refine rv_load H.up1 rfl ?_ | refine rv_load H.up2 rfl ?_ | refine rv_load H.up3 rfl ?_ | refine rv_load H.up4 rfl ?_))))
    rw [i64_small (by omega) (by omega)]
    exact hkk _ _ ⟨i + 1, rfl, by omega, H.dn2⟩ (by simp; omega)
  · have h : i = l.length := by have := of_decide_eq_false h; omega
    subst h
    rw [List.take_length] at H
    exact k _ H.drop.drop

theorem truth_spec {x : Nat} {bs : List UInt8} {t : Bool} (hb : bs.length ≤ 1000000) (H : St W w (Wr x 0 bs :: L))
    (k : ∀ w', St W w' (Wr x 0 (bs ++ fb [boolN t]) :: L) → K (.tuple #[]) w') : FCall Try.prog Fn.draft_layer_truth #[.agg #[.pointer (some ⟨x, 0, none⟩)], .bool t] w K X := by
  refine draft_layer_truth_call ?_
  unfold Sh.draft_layer_truth
  refine rv_box (c := [.pointer (some ⟨x, 0, none⟩)]) H rfl ?_
  clear H
  intro b w1 H
  cases t with
  | true =>
    refine cond_true' ?_
    (repeat with_reducible (first | refine Red.to ?_ | (refine is_rload ?_; (first | refine rv_load H rfl ?_ | refine rv_load H.up1 rfl ?_ | refine rv_load H.up2 rfl ?_ | refine rv_load H.up3 rfl ?_ | refine rv_load H.up4 rfl ?_))))
    refine Byte_spec H.up1 (by omega) (by omega) ?_
    clear H
    intro w2 H
    rw [if_pos rfl] at H
    refine k _ ?_
    have e : fb [boolN true] = [UInt8.ofNat (1 : Int).toNat] := by rw [fb_one]; exact form_lt (by decide)
    rw [e]
    exact H.up1.drop
  | false =>
    refine cond_false' ?_
    (repeat with_reducible (first | refine Red.to ?_ | (refine is_rload ?_; (first | refine rv_load H rfl ?_ | refine rv_load H.up1 rfl ?_ | refine rv_load H.up2 rfl ?_ | refine rv_load H.up3 rfl ?_ | refine rv_load H.up4 rfl ?_))))
    refine Byte_spec H.up1 (by omega) (by omega) ?_
    clear H
    intro w2 H
    rw [if_pos rfl] at H
    refine k _ ?_
    have e : fb [boolN false] = [UInt8.ofNat (0 : Int).toNat] := by rw [fb_one]; exact form_lt (by decide)
    rw [e]
    exact H.up1.drop

theorem path_spec {x : Nat} {bs : List UInt8} {a b c : Nat} (ha : a < 18446744073709551616) (hbb : b < 18446744073709551616) (hc : c < 18446744073709551616) (hb : bs.length ≤ 1000000) (H : St W w (Wr x 0 bs :: L))
    (k : ∀ w', St W w' (Wr x 0 (bs ++ fb [a, b, c]) :: L) → K (.tuple #[]) w') : FCall Try.prog Fn.draft_layer_path #[.agg #[.pointer (some ⟨x, 0, none⟩)], .agg #[.int .u64 a, .int .u64 b, .int .u64 c]] w K X := by
  refine draft_layer_path_call ?_
  unfold Sh.draft_layer_path
  refine rv_box (c := [.pointer (some ⟨x, 0, none⟩)]) H rfl ?_
  clear H
  intro b1 w1 H
  refine rv_box (c := [.int .u64 a, .int .u64 b, .int .u64 c]) H rfl ?_
  clear H
  intro b2 w2 H
  have f1 := form_length10 ha
  have f2 := form_length10 hbb
  have f3 := form_length10 hc
  (repeat with_reducible (first | refine Red.to ?_ | (refine is_rload ?_; (first | refine rv_load H rfl ?_ | refine rv_load H.up1 rfl ?_ | refine rv_load H.up2 rfl ?_ | refine rv_load H.up3 rfl ?_ | refine rv_load H.up4 rfl ?_))))
  refine Num_spec H.up2 ha (by omega) ?_
  clear H
  intro w3 H
  rw [if_pos rfl] at H
  replace H := H.dn2
  (repeat with_reducible (first | refine Red.to ?_ | (refine is_rload ?_; (first | refine rv_load H rfl ?_ | refine rv_load H.up1 rfl ?_ | refine rv_load H.up2 rfl ?_ | refine rv_load H.up3 rfl ?_ | refine rv_load H.up4 rfl ?_))))
  refine Num_spec H.up2 hbb (by simp; omega) ?_
  clear H
  intro w4 H
  rw [if_pos rfl] at H
  replace H := H.dn2
  (repeat with_reducible (first | refine Red.to ?_ | (refine is_rload ?_; (first | refine rv_load H rfl ?_ | refine rv_load H.up1 rfl ?_ | refine rv_load H.up2 rfl ?_ | refine rv_load H.up3 rfl ?_ | refine rv_load H.up4 rfl ?_))))
  refine Num_spec H.up2 hc (by simp; omega) ?_
  clear H
  intro w5 H
  rw [if_pos rfl] at H
  refine k _ ?_
  have e : bs ++ fb [a, b, c] = bs ++ form a ++ form b ++ form c := by simp [fb]
  rw [e]
  exact H.dn2.drop.drop
end
end Go.Proofs.Ytdmocobabpmoeaa
