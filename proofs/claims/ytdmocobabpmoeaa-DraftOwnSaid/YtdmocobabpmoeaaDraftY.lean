
/-
  The document's own reader: numbers, truths, paths; faults.
-/
import Derived.Test.YtdmocobabpmoeaaDraftX
namespace Go.Proofs.Ytdmocobabpmoeaa
open Go.Vc Go.Sep Go.Ops
set_option linter.unusedVariables false
set_option linter.unusedSectionVars false
set_option linter.unusedSimpArgs false

def Rs.go {α : Type} (s : Rs Unit) (p : Nat → Rs α) : Rs α := s.bind fun _ q => p q
def Rs.st {α : Type} : Rs α → Rs Unit
  | .ok _ p => .ok () p
  | .bad e a => .bad e a
def Rs.val {α : Type} (d : α) : Rs α → α
  | .ok x _ => x
  | .bad _ _ => d
/-- the document's reader: where it stands, or the first fault -/
def Fr (f : Nat) (v : Value) (bs : List UInt8) : Rs Unit → HProp
  | .ok _ p => pr (p ≤ bs.length) (cells f 93 [v, .int .i64 (p : Nat), .int .i64 0, .int .i64 0])
  | .bad e a => pr (e ≠ 0) (ex fun (at_ : Int) => cells f 93 [v, .int .i64 at_, .int .i64 (e : Nat), .int .i64 (a : Nat)])
theorem u64_small {n : Int} (h0 : 0 ≤ n) (h1 : n < 18446744073709551616) : IntKind.u64.wrap n = n := by
  rw [u64_wrap]; omega
theorem num_pos {l : List UInt8} (h : (num l).2.2 = 0) : (num l).2.1 ≤ l.length := by
  have := (num_bounds l)
  exact this.2.1
section
variable {W w : World} {L : List HProp} {K : Value → World → Prop} {KU : World → Prop} {X : XPost}
theorem Fr.o {f p : Nat} {v : Value} {bs : List UInt8} {u : Unit} (H : St W w (Fr f v bs (.ok u p) :: L)) : p ≤ bs.length ∧ St W w (cells f 93 [v, .int .i64 (p : Nat), .int .i64 0, .int .i64 0] :: L) := H.pr
theorem Fr.m {f p : Nat} {v : Value} {bs : List UInt8} {u : Unit} (h : p ≤ bs.length) (H : St W w (cells f 93 [v, .int .i64 (p : Nat), .int .i64 0, .int .i64 0] :: L)) : St W w (Fr f v bs (.ok u p) :: L) := St.pr_mk h H
theorem Fr.ob {f e a : Nat} {v : Value} {bs : List UInt8} (H : St W w (Fr f v bs (.bad e a) :: L)) : e ≠ 0 ∧ ∃ at_ : Int, St W w (cells f 93 [v, .int .i64 at_, .int .i64 (e : Nat), .int .i64 (a : Nat)] :: L) := let ⟨h, H⟩ := H.pr; ⟨h, H.ex⟩
theorem Fr.mb {f e a : Nat} {v : Value} {bs : List UInt8} {at_ : Int} (h : e ≠ 0) (H : St W w (cells f 93 [v, .int .i64 at_, .int .i64 (e : Nat), .int .i64 (a : Nat)] :: L)) : St W w (Fr f v bs (.bad e a) :: L) := St.pr_mk h (St.ex_mk at_ H)
theorem fault_spec {f p e : Nat} {v : Value} {bs : List UInt8} {at_ : Nat} (he : e ≠ 0) (H : St W w (cells f 93 [v, .int .i64 (p : Nat), .int .i64 0, .int .i64 0] :: L)) (k : ∀ w', St W w' (Fr f v bs (.bad e at_) :: L) → K (.tuple #[]) w') :
    FCall Try.prog Fn.sluiceref08_Front_fault #[.pointer (some ⟨f, 0, none⟩), .int .i64 (at_ : Nat), .int .i64 (e : Nat)] w K X := by
  refine sluiceref08_Front_fault_call ?_
  unfold Sh.sluiceref08_Front_fault
  (repeat (first | (with_reducible (first | refine Red.to ?_ | (refine is_rload ?_; (first | refine rv_load H rfl ?_ | refine rv_load H.up1 rfl ?_ | refine rv_load H.up2 rfl ?_ | refine rv_load H.up3 rfl ?_ | refine rv_load H.up4 rfl ?_)) | (refine is_tload ?_; (first | refine tk_load (fun _ H => H) rfl ?_ | refine tk_load (fun _ H => H.up1) rfl ?_ | refine tk_load (fun _ H => H.up2) rfl ?_ | refine tk_load (fun _ H => H.up3) rfl ?_)))) | (refine Share.mk ?_) | (intro _) | (simp only [List.getD_cons_zero, List.getD_cons_succ, beq_self_eq_true])))
  refine ru_store H (by simp) rfl ?_
  clear H
  intro w1 H
  (repeat with_reducible (first | refine Red.to ?_ | (refine is_rload ?_; (first | refine rv_load H rfl ?_ | refine rv_load H.up1 rfl ?_ | refine rv_load H.up2 rfl ?_ | refine rv_load H.up3 rfl ?_ | refine rv_load H.up4 rfl ?_))))
  refine ru_store H (by simp) rfl ?_
  clear H
  intro w2 H
  simp only [List.set_cons_succ, List.set_cons_zero] at H
  exact k _ (Fr.mb he H)
theorem fnum_spec {f most over : Nat} {v : Value} {bs : List UInt8} {s : Rs Unit} (ho : over ≠ 0) (R : Kn0 W L v bs.length (bv bs)) (hl : bs.length ≤ 140737488351232) (H : St W w (Fr f v bs s :: L))
    (k : ∀ w', St W w' (Fr f v bs (s.go (pN bs most over)).st :: L) → K (.int .u64 (((s.go (pN bs most over)).val 0 : Nat) : Int)) w') : FCall Try.prog Fn.sluiceref08_Front_number #[.pointer (some ⟨f, 0, none⟩), .int .u64 most, .int .i64 over] w K X := by
  refine sluiceref08_Front_number_call ?_
  unfold Sh.sluiceref08_Front_number
  cases s with
  | bad e a =>
    obtain ⟨he, at_, H⟩ := Fr.ob H
    refine loop_of (fun vs w => St W w (cells f 93 [v, .int .i64 at_, .int .i64 (e : Nat), .int .i64 (a : Nat)] :: L)) (fun _ _ => 0) H ?_
    clear H
    rintro vs w kk H _ σ
    have he' : (((e : Nat) : Int) == 0) = false := by simp; omega
    (repeat (first | (with_reducible (first | refine Red.to ?_ | (refine is_rload ?_; (first | refine rv_load H rfl ?_ | refine rv_load H.up1 rfl ?_ | refine rv_load H.up2 rfl ?_ | refine rv_load H.up3 rfl ?_ | refine rv_load H.up4 rfl ?_)) | (refine is_tload ?_; (first | refine tk_load (fun _ H => H) rfl ?_ | refine tk_load (fun _ H => H.up1) rfl ?_ | refine tk_load (fun _ H => H.up2) rfl ?_ | refine tk_load (fun _ H => H.up3) rfl ?_)))) | (refine Share.mk ?_) | (intro _) | (simp only [List.getD_cons_zero, List.getD_cons_succ, he'])))
    exact k _ (Fr.mb he H)
  | ok u p =>
    obtain ⟨hp, H⟩ := Fr.o H
    have hS : (Rs.ok u p).go (pN bs most over) = pN bs most over p := rfl
    rw [hS] at k
    have kb : ∀ {e : Nat} {w : World}, (num (bs.drop p)).2.2 = e → e ≠ 0 → St W w (Fr f v bs (.bad e p) :: L) → K (.int .u64 0) w := by
      intro e w h1 h2 H
      have hpn : pN bs most over p = .bad e p := by unfold pN; rw [h1, if_pos h2]
      rw [hpn] at k
      exact k w H
    refine loop_of (fun vs w => ∃ (u i : Nat), vs = [.int .u64 u, .int .u64 (128 ^ i : Nat), .int .i64 i] ∧ u < 128 ^ i ∧ i ≤ 9 ∧ i ≤ bs.length - p ∧ numGo i u (bs.drop (p + i)) = num (bs.drop p) ∧ St W w (cells f 93 [v, .int .i64 (p : Nat), .int .i64 0, .int .i64 0] :: L)) (fun vs _ => match vs with | [_, _, .int _ i] => 10 - i.toNat | _ => 0) ⟨0, 0, rfl, by decide, by omega, by omega, rfl, H⟩ ?_
    clear H
    rintro vs w kk ⟨u, i, rfl, hu, hi9, hil, hnum, H⟩ hkk σ
    simp only [List.getD_cons_zero, List.getD_cons_succ]
    (repeat (first | (with_reducible (first | refine Red.to ?_ | (refine is_rload ?_; (first | refine rv_load H rfl ?_ | refine rv_load H.up1 rfl ?_ | refine rv_load H.up2 rfl ?_ | refine rv_load H.up3 rfl ?_ | refine rv_load H.up4 rfl ?_)) | (refine is_tload ?_; (first | refine tk_load (fun _ H => H) rfl ?_ | refine tk_load (fun _ H => H.up1) rfl ?_ | refine tk_load (fun _ H => H.up2) rfl ?_ | refine tk_load (fun _ H => H.up3) rfl ?_)))) | (refine Share.mk ?_) | (intro _) | (simp only [List.getD_cons_zero, List.getD_cons_succ, beq_self_eq_true])))
    replace H := H.drew
    refine ⟨fun w => St W w (cells f 93 [v, .int .i64 (p : Nat), .int .i64 0, .int .i64 0] :: L), H, ?_⟩
    (repeat with_reducible (first | refine Red.to ?_ | (refine is_tload ?_; (first | refine tk_load (fun _ H => H) rfl ?_ | refine tk_load (fun _ H => H.up1) rfl ?_ | refine tk_load (fun _ H => H.up2) rfl ?_ | refine tk_load (fun _ H => H.up3) rfl ?_))))
    (repeat with_reducible (first | refine Red.to ?_ | (refine is_rload ?_; (first | refine rv_load H rfl ?_ | refine rv_load H.up1 rfl ?_ | refine rv_load H.up2 rfl ?_ | refine rv_load H.up3 rfl ?_ | refine rv_load H.up4 rfl ?_))))
    first | refine keep_same (H) ?_ | refine ⟨H, ?_⟩
    refine tp_len_rd0 (R _ H.drop) ?_
    (repeat with_reducible (first | refine Red.to ?_ | (refine is_tload ?_; (first | refine tk_load (fun _ H => H) rfl ?_ | refine tk_load (fun _ H => H.up1) rfl ?_ | refine tk_load (fun _ H => H.up2) rfl ?_ | refine tk_load (fun _ H => H.up3) rfl ?_))))
    rw [i64_small (by omega) (by omega)]
    refine cond_split (fun h => ?_) (fun h => ?_)
    · have h : bs.length ≤ p + i := by have := of_decide_eq_true h; omega
      have e : bs.drop (p + i) = [] := List.drop_of_length_le h
      rw [e] at hnum
      (repeat with_reducible (first | refine Red.to ?_ | (refine is_rload ?_; (first | refine rv_load H rfl ?_ | refine rv_load H.up1 rfl ?_ | refine rv_load H.up2 rfl ?_ | refine rv_load H.up3 rfl ?_ | refine rv_load H.up4 rfl ?_))))
      refine fault_spec (bs := bs) (e := 30) (by decide) H ?_
      clear H
      intro w1 H
      exact kb (by rw [← hnum]; rfl) (by decide) H
    have hlt : p + i < bs.length := by have := of_decide_eq_false h; omega
    replace H := H.drew
    refine ⟨fun w => St W w (cells f 93 [v, .int .i64 (p : Nat), .int .i64 0, .int .i64 0] :: L), H, ?_⟩
    (repeat with_reducible (first | refine Red.to ?_ | (refine is_tload ?_; (first | refine tk_load (fun _ H => H) rfl ?_ | refine tk_load (fun _ H => H.up1) rfl ?_ | refine tk_load (fun _ H => H.up2) rfl ?_ | refine tk_load (fun _ H => H.up3) rfl ?_))))
    (repeat with_reducible (first | refine Red.to ?_ | (refine is_rload ?_; (first | refine rv_load H rfl ?_ | refine rv_load H.up1 rfl ?_ | refine rv_load H.up2 rfl ?_ | refine rv_load H.up3 rfl ?_ | refine rv_load H.up4 rfl ?_))))
    first | refine keep_same (H) ?_ | refine ⟨H, ?_⟩
    (repeat with_reducible (first | refine Red.to ?_ | (refine is_tload ?_; (first | refine tk_load (fun _ H => H) rfl ?_ | refine tk_load (fun _ H => H.up1) rfl ?_ | refine tk_load (fun _ H => H.up2) rfl ?_ | refine tk_load (fun _ H => H.up3) rfl ?_))))
    rw [i64_small (by omega) (by omega)]
    obtain ⟨gg, off, cap, rfl, hcell⟩ := Kn0.form R H.drop (by omega)
    refine tp_index (by omega) (by omega) ?_
    obtain ⟨x, hx⟩ : ∃ x, bs[p + i]? = some x := ⟨_, List.getElem?_eq_getElem hlt⟩
    have hc := hcell _ H.drop (p + i) (.int .u8 (x.toNat : Int)) (by simp [bv, hx])
    have ei : off + ((p : Int) + (i : Int)).toNat * 1 = off + (p + i) := by omega
    rw [ei]
    refine rv_at hc ?_
    (repeat with_reducible (first | refine Red.to ?_ | (refine is_tload ?_; (first | refine tk_load (fun _ H => H) rfl ?_ | refine tk_load (fun _ H => H.up1) rfl ?_ | refine tk_load (fun _ H => H.up2) rfl ?_ | refine tk_load (fun _ H => H.up3) rfl ?_))))
    have hx256 := x.toNat_lt
    rw [u64_small (by omega) (by omega)]
    have hdrop : bs.drop (p + i) = x :: bs.drop (p + (i + 1)) := by
      rw [List.drop_eq_getElem_cons (by omega)]
      congr 1
      rw [List.getElem?_eq_getElem (by omega)] at hx
      simpa using hx
    rw [hdrop, numGo_cons] at hnum
    refine share_of (fun vs w => vs = [.bool (bad i x)] ∧ St W w (cells f 93 [.slice (some ⟨gg, off, none⟩) bs.length cap, .int .i64 (p : Nat), .int .i64 0, .int .i64 0] :: L)) ?_ ?_
    · clear H
      rintro vs w ⟨rfl, H⟩ σ2
      simp only [List.getD_cons_zero, List.getD_cons_succ]
      refine cond_split (fun h => ?_) (fun h => ?_)
      · rw [if_pos h] at hnum
        (repeat with_reducible (first | refine Red.to ?_ | (refine is_rload ?_; (first | refine rv_load H rfl ?_ | refine rv_load H.up1 rfl ?_ | refine rv_load H.up2 rfl ?_ | refine rv_load H.up3 rfl ?_ | refine rv_load H.up4 rfl ?_))))
        refine fault_spec (bs := bs) (e := 31) (by decide) H ?_
        clear H
        intro w1 H
        exact kb (by rw [← hnum]) (by decide) H
      · rw [if_neg (by simp [h])] at hnum
        refine rv_rem (by decide) ?_
        (repeat with_reducible (first | refine Red.to ?_ | (refine is_rload ?_; (first | refine rv_load H rfl ?_ | refine rv_load H.up1 rfl ?_ | refine rv_load H.up2 rfl ?_ | refine rv_load H.up3 rfl ?_ | refine rv_load H.up4 rfl ?_))))
        have hm : x.toNat % 128 < 128 := Nat.mod_lt _ (by decide)
        have e0 : (x.toNat : Int).tmod 128 = ((x.toNat % 128 : Nat) : Int) := by
          rw [Int.tmod_eq_emod_of_nonneg (by omega)]; omega
        have p9 : (128 : Nat) ^ i ≤ 9223372036854775808 := by
          have h2 : 128 ^ i ≤ 128 ^ 9 := Nat.pow_le_pow_right (by decide) hi9
          simpa using h2
        have hle : u + x.toNat % 128 * 128 ^ i < 128 ^ (i + 1) := by
          have : x.toNat % 128 * 128 ^ i ≤ 127 * 128 ^ i := Nat.mul_le_mul_right _ (by omega)
          rw [Nat.pow_succ]; omega
        have hfit : u + x.toNat % 128 * 128 ^ i < 18446744073709551616 := by
          by_cases h9 : i = 9
          · have h1 : x = 1 := by
              refine Classical.byContradiction fun hne => ?_
              simp [bad, h9, hne] at h
            subst h9; subst h1
            have : (1 : UInt8).toNat % 128 = 1 := by decide
            rw [this]
            have e9 : (128 : Nat) ^ 9 = 9223372036854775808 := by simp
            rw [e9] at hu ⊢
            clear hle p9
            omega
          · have h2 : 128 ^ (i + 1) ≤ 128 ^ 9 := Nat.pow_le_pow_right (by decide) (by omega)
            have : (128 : Nat) ^ 9 = 9223372036854775808 := by simp
            omega
        have e1 : IntKind.u64.wrap ((u : Int) + IntKind.u64.wrap ((x.toNat : Int).tmod 128 * ((128 ^ i : Nat) : Int))) = ((u + x.toNat % 128 * 128 ^ i : Nat) : Int) := by
          rw [e0]
          have : ((x.toNat % 128 : Nat) : Int) * ((128 ^ i : Nat) : Int) = ((x.toNat % 128 * 128 ^ i : Nat) : Int) := by simp
          rw [this, u64_small (n := ((x.toNat % 128 * 128 ^ i : Nat) : Int)) (by omega) (by omega), u64_small (by omega) (by omega)]
          simp
        rw [e1]
        refine cond_split (fun h128 => ?_) (fun h128 => ?_)
        · have h128 : x.toNat < 128 := by simp at h128; omega
          rw [if_pos h128] at hnum
          have n0 : (num (bs.drop p)).2.2 = 0 := by rw [← hnum]
          have n1 : (num (bs.drop p)).1 = u + x.toNat % 128 * 128 ^ i := by rw [← hnum]
          have n2 : (num (bs.drop p)).2.1 = i + 1 := by rw [← hnum]
          (repeat with_reducible (first | refine Red.to ?_ | (refine is_rload ?_; (first | refine rv_load H rfl ?_ | refine rv_load H.up1 rfl ?_ | refine rv_load H.up2 rfl ?_ | refine rv_load H.up3 rfl ?_ | refine rv_load H.up4 rfl ?_))))
          refine cond_split (fun hm => ?_) (fun hm => ?_)
          · have hm : most < u + x.toNat % 128 * 128 ^ i := by have := of_decide_eq_true hm; omega
            have hpn : pN bs most over p = .bad over p := by
              unfold pN
              rw [if_neg (by omega), if_pos (by omega)]
            rw [hpn] at k
            (repeat with_reducible (first | refine Red.to ?_ | (refine is_rload ?_; (first | refine rv_load H rfl ?_ | refine rv_load H.up1 rfl ?_ | refine rv_load H.up2 rfl ?_ | refine rv_load H.up3 rfl ?_ | refine rv_load H.up4 rfl ?_))))
            refine fault_spec (bs := bs) ho H ?_
            clear H
            intro w1 H
            exact k _ H
          · have hm : ¬ most < u + x.toNat % 128 * 128 ^ i := by have := of_decide_eq_false hm; omega
            have hpn : pN bs most over p = .ok (u + x.toNat % 128 * 128 ^ i) (p + (i + 1)) := by
              unfold pN
              rw [if_neg (by omega), if_neg (by omega), n1, n2]
            rw [hpn] at k
            (repeat with_reducible (first | refine Red.to ?_ | (refine is_rload ?_; (first | refine rv_load H rfl ?_ | refine rv_load H.up1 rfl ?_ | refine rv_load H.up2 rfl ?_ | refine rv_load H.up3 rfl ?_ | refine rv_load H.up4 rfl ?_))))
            rw [i64_small (n := (p : Int) + (i : Int)) (by omega) (by omega), i64_small (by omega) (by omega)]
            refine ru_store H (by simp) rfl ?_
            clear H
            intro w1 H
            simp only [List.set_cons_succ, List.set_cons_zero] at H
            refine k _ (Fr.m (by omega) ?_)
            have e : ((p : Int) + (i : Int) + 1) = ((p + (i + 1) : Nat) : Int) := by omega
            rw [e] at H
            exact H
        · have h128 : ¬ x.toNat < 128 := by simp at h128; omega
          rw [if_neg h128] at hnum
          (repeat with_reducible (first | refine Red.to ?_ | (refine is_rload ?_; (first | refine rv_load H rfl ?_ | refine rv_load H.up1 rfl ?_ | refine rv_load H.up2 rfl ?_ | refine rv_load H.up3 rfl ?_ | refine rv_load H.up4 rfl ?_))))
          rw [i64_small (by omega) (by omega)]
          have hi8 : i ≠ 9 := by
            rintro rfl
            simp [bad] at h
            rw [h.2] at h128
            exact h128 (by decide)
          have e2 : IntKind.u64.wrap (((128 ^ i : Nat) : Int) * 128) = ((128 ^ (i + 1) : Nat) : Int) := by
            have h2 : 128 ^ (i + 1) ≤ 128 ^ 9 := Nat.pow_le_pow_right (by decide) (by omega)
            have e9 : (128 : Nat) ^ 9 = 9223372036854775808 := by simp
            rw [Nat.pow_succ] at h2 ⊢
            rw [u64_small (by omega) (by omega)]
            simp
          rw [e2]
          refine hkk _ _ ⟨u + x.toNat % 128 * 128 ^ i, i + 1, by simp, hle, by omega, by omega, hnum, H⟩ ?_
          simp; omega
    · intro J2 hJ2
      obtain ⟨b1, hp⟩ : ∃ p, decide (0 < (i : Int)) = p := ⟨_, rfl⟩
      obtain ⟨q, hq⟩ : ∃ q, ((x.toNat : Int) == 0) = q := ⟨_, rfl⟩
      obtain ⟨r, hr⟩ : ∃ r, ((i : Int) == 9) = r := ⟨_, rfl⟩
      obtain ⟨t, ht⟩ : ∃ t, ((x.toNat : Int) != 1) = t := ⟨_, rfl⟩
      have fin : bad i x = ((b1 && q) || (r && t)) := by
        have e1 : decide (0 < (i : Int)) = decide (0 < i) := by simp
        have e2 : ((i : Int) == 9) = decide (i = 9) := by rw [Bool.eq_iff_iff]; simp; omega
        rw [← hp, ← hq, ← hr, ← ht, u8_zero, u8_one, e1, e2, Bool.eq_iff_iff]
        simp [bad]
      cases b1 <;> cases q <;> cases r <;> cases t <;> (repeat (first | (with_reducible (first | refine Red.to ?_ | (refine is_rload ?_; (first | refine rv_load H rfl ?_ | refine rv_load H.up1 rfl ?_ | refine rv_load H.up2 rfl ?_ | refine rv_load H.up3 rfl ?_ | refine rv_load H.up4 rfl ?_)) | (refine is_tload ?_; (first | refine tk_load (fun _ H => H) rfl ?_ | refine tk_load (fun _ H => H.up1) rfl ?_ | refine tk_load (fun _ H => H.up2) rfl ?_ | refine tk_load (fun _ H => H.up3) rfl ?_)))) | (refine Share.mk ?_) | (intro _) | (simp only [List.getD_cons_zero, List.getD_cons_succ, hp, hq, hr, ht]))) <;> exact hJ2 _ _ ⟨by rw [fin]; rfl, H⟩
end
end Go.Proofs.Ytdmocobabpmoeaa
