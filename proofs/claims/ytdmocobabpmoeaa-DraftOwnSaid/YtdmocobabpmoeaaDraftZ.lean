
/-
  The document's own reader: the small calls.
-/
import Derived.Test.YtdmocobabpmoeaaDraftY
namespace Go.Proofs.Ytdmocobabpmoeaa
open Go.Vc Go.Sep Go.Ops
set_option linter.unusedVariables false
set_option linter.unusedSectionVars false
set_option linter.unusedSimpArgs false

theorem go_ok {α : Type} {u : Unit} {p : Nat} (f : Nat → Rs α) : (Rs.ok u p).go f = f p := rfl
theorem go_bad {α : Type} {e a : Nat} (f : Nat → Rs α) : (Rs.bad e a : Rs Unit).go f = .bad e a := rfl
theorem val_lt {bs : List UInt8} {s : Rs Unit} {most over : Nat} : (s.go (pN bs most over)).val 0 ≤ most ∧ (s.go (pN bs most over)).val 0 < 18446744073709551616 := by
  cases h : s.go (pN bs most over) with
  | bad e a => exact ⟨Nat.zero_le _, by simp [Rs.val]⟩
  | ok x q =>
    cases s with
    | bad e a => cases h
    | ok u p =>
      have := pN_ok h
      exact ⟨this.1, this.2.1⟩
theorem pA_12 (bs : List UInt8) : pN bs 18446744073709551615 12 = pA bs := by
  funext p
  have := (num_bounds (bs.drop p)).1
  unfold pA pN
  by_cases h : (num (bs.drop p)).2.2 ≠ 0
  · rw [if_pos h, if_pos h]
  · rw [if_neg h, if_neg h, if_neg (by omega), if_neg (by omega)]
section
variable {W w : World} {L : List HProp} {K : Value → World → Prop} {KU : World → Prop} {X : XPost}
theorem fint_spec {f : Nat} {v : Value} {bs : List UInt8} {s : Rs Unit} (R : Kn0 W L v bs.length (bv bs)) (hl : bs.length ≤ 140737488351232) (H : St W w (Fr f v bs s :: L))
    (k : ∀ w', St W w' (Fr f v bs (s.go (pI bs)).st :: L) → K (.int .i64 (((s.go (pI bs)).val 0 : Nat) : Int)) w') : FCall Try.prog Fn.sluiceref08_Front_int #[.pointer (some ⟨f, 0, none⟩)] w K X := by
  refine sluiceref08_Front_int_call ?_
  unfold Sh.sluiceref08_Front_int
  refine fnum_spec (most := 9223372036854775807) (over := 12) (by decide) R hl H ?_
  clear H
  intro w1 H
  have hv := (val_lt (bs := bs) (s := s) (most := 9223372036854775807) (over := 12)).1
  (repeat with_reducible (first | refine Red.to ?_ | (refine is_rload ?_; (first | refine rv_load H rfl ?_ | refine rv_load H.up1 rfl ?_ | refine rv_load H.up2 rfl ?_ | refine rv_load H.up3 rfl ?_ | refine rv_load H.up4 rfl ?_))))
  rw [i64_small (by omega) (by omega)]
  exact k _ H
theorem fany_spec {f : Nat} {v : Value} {bs : List UInt8} {s : Rs Unit} (R : Kn0 W L v bs.length (bv bs)) (hl : bs.length ≤ 140737488351232) (H : St W w (Fr f v bs s :: L))
    (k : ∀ w', St W w' (Fr f v bs (s.go (pA bs)).st :: L) → K (.int .u64 (((s.go (pA bs)).val 0 : Nat) : Int)) w') : FCall Try.prog Fn.sluiceref08_Front_any #[.pointer (some ⟨f, 0, none⟩)] w K X := by
  refine sluiceref08_Front_any_call ?_
  unfold Sh.sluiceref08_Front_any
  refine fnum_spec (most := 18446744073709551615) (over := 12) (by decide) R hl H ?_
  clear H
  intro w1 H
  rw [pA_12] at H ⊢
  exact k _ H
/-- three numbers, one behind the other -/
def p1 (bs : List UInt8) (s : Rs Unit) : Rs Unit := (s.go (pA bs)).st
def v1 (bs : List UInt8) (s : Rs Unit) : Nat := (s.go (pA bs)).val 0
theorem v1_lt {bs : List UInt8} {s : Rs Unit} : v1 bs s < 18446744073709551616 := by
  unfold v1
  rw [← pA_12]
  exact val_lt.2
theorem path_st {bs : List UInt8} {s : Rs Unit} : (s.go (pPath bs)).st = p1 bs (p1 bs (p1 bs s)) ∧ ∀ a b c q, s.go (pPath bs) = .ok (a, b, c) q → a = v1 bs s ∧ b = v1 bs (p1 bs s) ∧ c = v1 bs (p1 bs (p1 bs s)) := by
  unfold p1 v1 pPath
  cases s with
  | bad e a => exact ⟨rfl, fun a b c q h => by cases h⟩
  | ok u p =>
    simp only [go_ok]
    cases h1 : pA bs p with
    | bad e a => exact ⟨rfl, fun a b c q h => by cases h⟩
    | ok x q =>
      simp only [Rs.bind, Rs.st, Rs.val, go_ok]
      cases h2 : pA bs q with
      | bad e a => exact ⟨rfl, fun a b c q h => by cases h⟩
      | ok x2 q2 =>
        simp only [Rs.st, Rs.val, go_ok]
        cases h3 : pA bs q2 with
        | bad e a => exact ⟨rfl, fun a b c q h => by cases h⟩
        | ok x3 q3 => exact ⟨rfl, fun a b c q h => by cases h; exact ⟨rfl, rfl, rfl⟩⟩
theorem fpath_spec {f : Nat} {v : Value} {bs : List UInt8} {s : Rs Unit} (R : Kn0 W L v bs.length (bv bs)) (hl : bs.length ≤ 140737488351232) (H : St W w (Fr f v bs s :: L))
    (k : ∀ (a b c : Nat) w', (∀ a' b' c' q, s.go (pPath bs) = .ok (a', b', c') q → a' = a ∧ b' = b ∧ c' = c) → a < 18446744073709551616 ∧ b < 18446744073709551616 ∧ c < 18446744073709551616 → St W w' (Fr f v bs (s.go (pPath bs)).st :: L) → K (.agg #[.int .u64 a, .int .u64 b, .int .u64 c]) w') :
    FCall Try.prog Fn.sluiceref08_Front_path #[.pointer (some ⟨f, 0, none⟩)] w K X := by
  refine sluiceref08_Front_path_call ?_
  unfold Sh.sluiceref08_Front_path
  refine rv_allocz H ?_
  clear H
  intro b2 w2 H
  have R := R.tail0 (A := cells b2 56 [.int .u64 0, .int .u64 0, .int .u64 0])
  refine fany_spec R hl H.up1 ?_
  clear H
  intro w3 H
  refine fany_spec R hl H ?_
  clear H
  intro w4 H
  refine fany_spec R hl H ?_
  clear H
  intro w5 H
  obtain ⟨hst, hval⟩ := path_st (bs := bs) (s := s)
  refine rv (v := .agg #[.int .u64 (v1 bs s : Nat), .int .u64 (v1 bs (p1 bs s) : Nat), .int .u64 (v1 bs (p1 bs (p1 bs s)) : Nat)]) (w' := w5) (by kernel_rfl) ?_
  refine ru_store_whole (c' := [.int .u64 (v1 bs s : Nat), .int .u64 (v1 bs (p1 bs s) : Nat), .int .u64 (v1 bs (p1 bs (p1 bs s)) : Nat)]) (show _ = some 3 by kernel_rfl) H.up1 rfl (zone rfl) ?_
  clear H
  intro w6 H
  refine ld_agg H rfl rfl ?_
  refine k _ _ _ _ hval ⟨v1_lt, v1_lt, v1_lt⟩ ?_
  rw [hst]
  exact H.drop
def tr1 (bs : List UInt8) : Rs Unit → Rs Unit
  | .ok _ p => if bs.length ≤ p then .bad 30 p else .ok () p
  | .bad e a => .bad e a
def tr2 (bs : List UInt8) : Rs Unit → Rs Unit
  | .ok _ p => match bs[p]? with
    | some x => if 1 < x.toNat then .bad 31 p else .ok () p
    | none => .ok () p
  | .bad e a => .bad e a
theorem ftruth_spec {f : Nat} {v : Value} {bs : List UInt8} {s : Rs Unit} (R : Kn0 W L v bs.length (bv bs)) (hl : bs.length ≤ 140737488351232) (H : St W w (Fr f v bs s :: L))
    (k : ∀ w', St W w' (Fr f v bs (s.go (pT bs)).st :: L) → K (.bool ((s.go (pT bs)).val false)) w') : FCall Try.prog Fn.sluiceref08_Front_truth #[.pointer (some ⟨f, 0, none⟩)] w K X := by
  refine sluiceref08_Front_truth_call ?_
  unfold Sh.sluiceref08_Front_truth
  refine share_of (fun vs w => vs = [] ∧ St W w (Fr f v bs (tr1 bs s) :: L)) ?_ ?_
  · clear H
    rintro vs w ⟨rfl, H⟩ σ
    refine share_of (fun vs w => vs = [] ∧ St W w (Fr f v bs (tr2 bs (tr1 bs s)) :: L)) ?_ ?_
    · clear H
      rintro vs w ⟨rfl, H⟩ σ
      cases s with
      | bad e a =>
        obtain ⟨he, at_, H⟩ := Fr.ob H
        have he' : (((e : Nat) : Int) != 0) = true := by simp; omega
        (repeat (first | (with_reducible (first | refine Red.to ?_ | (refine is_rload ?_; (first | refine rv_load H rfl ?_ | refine rv_load H.up1 rfl ?_ | refine rv_load H.up2 rfl ?_ | refine rv_load H.up3 rfl ?_ | refine rv_load H.up4 rfl ?_)) | (refine is_tload ?_; (first | refine tk_load (fun _ H => H) rfl ?_ | refine tk_load (fun _ H => H.up1) rfl ?_ | refine tk_load (fun _ H => H.up2) rfl ?_ | refine tk_load (fun _ H => H.up3) rfl ?_)))) | (refine Share.mk ?_) | (intro _) | (simp only [List.getD_cons_zero, List.getD_cons_succ, he'])))
        exact k _ (Fr.mb he H)
      | ok u p =>
        simp only [tr1] at H
        rw [go_ok] at k
        by_cases hp : bs.length ≤ p
        · rw [if_pos hp] at H
          unfold pT at k
          rw [List.getElem?_eq_none hp] at k
          obtain ⟨he, at_, H⟩ := Fr.ob H
          (repeat (first | (with_reducible (first | refine Red.to ?_ | (refine is_rload ?_; (first | refine rv_load H rfl ?_ | refine rv_load H.up1 rfl ?_ | refine rv_load H.up2 rfl ?_ | refine rv_load H.up3 rfl ?_ | refine rv_load H.up4 rfl ?_)) | (refine is_tload ?_; (first | refine tk_load (fun _ H => H) rfl ?_ | refine tk_load (fun _ H => H.up1) rfl ?_ | refine tk_load (fun _ H => H.up2) rfl ?_ | refine tk_load (fun _ H => H.up3) rfl ?_)))) | (refine Share.mk ?_) | (intro _) | (simp only [List.getD_cons_zero, List.getD_cons_succ])))
          refine cond_split (fun _ => ?_) (fun h => absurd h (by decide))
          exact k _ (Fr.mb he H)
        rw [if_neg hp] at H
        obtain ⟨x, hx⟩ : ∃ x, bs[p]? = some x := ⟨_, List.getElem?_eq_getElem (by omega)⟩
        simp only [tr2] at H
        unfold pT at k
        simp only [hx] at H k
        by_cases h1 : 1 < x.toNat
        · rw [if_pos h1] at H
          rw [if_neg (by omega)] at k
          obtain ⟨he, at_, H⟩ := Fr.ob H
          (repeat (first | (with_reducible (first | refine Red.to ?_ | (refine is_rload ?_; (first | refine rv_load H rfl ?_ | refine rv_load H.up1 rfl ?_ | refine rv_load H.up2 rfl ?_ | refine rv_load H.up3 rfl ?_ | refine rv_load H.up4 rfl ?_)) | (refine is_tload ?_; (first | refine tk_load (fun _ H => H) rfl ?_ | refine tk_load (fun _ H => H.up1) rfl ?_ | refine tk_load (fun _ H => H.up2) rfl ?_ | refine tk_load (fun _ H => H.up3) rfl ?_)))) | (refine Share.mk ?_) | (intro _) | (simp only [List.getD_cons_zero, List.getD_cons_succ])))
          refine cond_split (fun _ => ?_) (fun h => absurd h (by decide))
          exact k _ (Fr.mb he H)
        rw [if_neg h1] at H
        rw [if_pos (by omega)] at k
        obtain ⟨hp', H⟩ := Fr.o H
        (repeat (first | (with_reducible (first | refine Red.to ?_ | (refine is_rload ?_; (first | refine rv_load H rfl ?_ | refine rv_load H.up1 rfl ?_ | refine rv_load H.up2 rfl ?_ | refine rv_load H.up3 rfl ?_ | refine rv_load H.up4 rfl ?_)) | (refine is_tload ?_; (first | refine tk_load (fun _ H => H) rfl ?_ | refine tk_load (fun _ H => H.up1) rfl ?_ | refine tk_load (fun _ H => H.up2) rfl ?_ | refine tk_load (fun _ H => H.up3) rfl ?_)))) | (refine Share.mk ?_) | (intro _) | (simp only [List.getD_cons_zero, List.getD_cons_succ, bne_self_eq_false])))
        rw [i64_small (by omega) (by omega)]
        refine ru_store H (by simp) rfl ?_
        clear H
        intro w1 H
        simp only [List.set_cons_succ, List.set_cons_zero] at H
        have ep : (p : Int) + 1 = ((p + 1 : Nat) : Int) := by omega
        rw [ep] at H
        replace H := H.drew
        refine ⟨fun w => St W w (cells f 93 [v, .int .i64 (p + 1 : Nat), .int .i64 0, .int .i64 0] :: L), H, ?_⟩
        (repeat with_reducible (first | refine Red.to ?_ | (refine is_tload ?_; (first | refine tk_load (fun _ H => H) rfl ?_ | refine tk_load (fun _ H => H.up1) rfl ?_ | refine tk_load (fun _ H => H.up2) rfl ?_ | refine tk_load (fun _ H => H.up3) rfl ?_))))
        (repeat with_reducible (first | refine Red.to ?_ | (refine is_rload ?_; (first | refine rv_load H rfl ?_ | refine rv_load H.up1 rfl ?_ | refine rv_load H.up2 rfl ?_ | refine rv_load H.up3 rfl ?_ | refine rv_load H.up4 rfl ?_))))
        first | refine keep_same (H) ?_ | refine ⟨H, ?_⟩
        (repeat with_reducible (first | refine Red.to ?_ | (refine is_tload ?_; (first | refine tk_load (fun _ H => H) rfl ?_ | refine tk_load (fun _ H => H.up1) rfl ?_ | refine tk_load (fun _ H => H.up2) rfl ?_ | refine tk_load (fun _ H => H.up3) rfl ?_))))
        rw [i64_small (by omega) (by omega)]
        obtain ⟨gg, off, cap, rfl, hcell⟩ := Kn0.form R H.drop (by omega)
        refine tp_index (by omega) (by omega) ?_
        have hc := hcell _ H.drop p (.int .u8 (x.toNat : Int)) (by simp [bv, hx])
        have ei : off + (((p + 1 : Nat) : Int) - 1).toNat * 1 = off + p := by omega
        rw [ei]
        refine rv_at hc ?_
        (repeat with_reducible (first | refine Red.to ?_ | (refine is_tload ?_; (first | refine tk_load (fun _ H => H) rfl ?_ | refine tk_load (fun _ H => H.up1) rfl ?_ | refine tk_load (fun _ H => H.up2) rfl ?_ | refine tk_load (fun _ H => H.up3) rfl ?_))))
        refine bc (k _ (Fr.m (by omega) H)) ?_
        simp only [Rs.val]
        rw [eq_dec, decide_eq_decide]
        omega
    · intro J hJ
      cases h1 : tr1 bs s with
      | bad e a =>
        rw [h1] at H hJ
        obtain ⟨he, at_, H⟩ := Fr.ob H
        refine share_of (fun vs w' => vs = [.bool false] ∧ w' = w.drew) ?_ ?_
        · rintro vs w' ⟨rfl, rfl⟩ σ
          simp only [List.getD_cons_zero]
          exact cond_false' (hJ _ _ ⟨rfl, Fr.mb he H.drew⟩)
        intro J2 hJ2
        replace H := H.drew
        refine ⟨fun w => St W w (cells f 93 [v, .int .i64 at_, .int .i64 (e : Nat), .int .i64 (a : Nat)] :: L), H, ?_⟩
        have he' : (((e : Nat) : Int) == 0) = false := by simp; omega
        (repeat with_reducible (first | refine Red.to ?_ | (refine is_tload ?_; (first | refine tk_load (fun _ H => H) rfl ?_ | refine tk_load (fun _ H => H.up1) rfl ?_ | refine tk_load (fun _ H => H.up2) rfl ?_ | refine tk_load (fun _ H => H.up3) rfl ?_))))
        (repeat with_reducible (first | refine Red.to ?_ | (refine is_rload ?_; (first | refine rv_load H rfl ?_ | refine rv_load H.up1 rfl ?_ | refine rv_load H.up2 rfl ?_ | refine rv_load H.up3 rfl ?_ | refine rv_load H.up4 rfl ?_))))
        first | refine keep_same (H) ?_ | refine ⟨H, ?_⟩
        (repeat (first | (with_reducible (first | refine Red.to ?_ | (refine is_rload ?_; (first | refine rv_load H rfl ?_ | refine rv_load H.up1 rfl ?_ | refine rv_load H.up2 rfl ?_ | refine rv_load H.up3 rfl ?_ | refine rv_load H.up4 rfl ?_)) | (refine is_tload ?_; (first | refine tk_load (fun _ H => H) rfl ?_ | refine tk_load (fun _ H => H.up1) rfl ?_ | refine tk_load (fun _ H => H.up2) rfl ?_ | refine tk_load (fun _ H => H.up3) rfl ?_)))) | (refine Share.mk ?_) | (intro _) | (simp only [List.getD_cons_zero, List.getD_cons_succ, he'])))
        exact hJ2 _ _ ⟨rfl, rfl⟩
      | ok u p =>
        rw [h1] at H hJ
        have hpl : p < bs.length := by
          cases s with
          | bad e a => cases h1
          | ok u2 p2 =>
            simp only [tr1] at h1
            split at h1
            · cases h1
            · cases h1; omega
        obtain ⟨hp, H⟩ := Fr.o H
        obtain ⟨x, hx⟩ : ∃ x, bs[p]? = some x := ⟨_, List.getElem?_eq_getElem hpl⟩
        simp only [tr2] at hJ
        simp only [hx] at hJ
        refine share_of (fun vs w' => vs = [.bool (decide (1 < x.toNat))] ∧ w' = w.drew) ?_ ?_
        · rintro vs w' ⟨rfl, rfl⟩ σ
          simp only [List.getD_cons_zero]
          replace H := H.drew
          refine cond_split (fun h => ?_) (fun h => ?_)
          · rw [if_pos (of_decide_eq_true h)] at hJ
            (repeat with_reducible (first | refine Red.to ?_ | (refine is_rload ?_; (first | refine rv_load H rfl ?_ | refine rv_load H.up1 rfl ?_ | refine rv_load H.up2 rfl ?_ | refine rv_load H.up3 rfl ?_ | refine rv_load H.up4 rfl ?_))))
            refine fault_spec (bs := bs) (e := 31) (by decide) H ?_
            clear H
            intro w1 H
            exact hJ _ _ ⟨rfl, H⟩
          · rw [if_neg (of_decide_eq_false h)] at hJ
            exact hJ _ _ ⟨rfl, Fr.m hp H⟩
        intro J2 hJ2
        replace H := H.drew
        refine ⟨fun w => St W w (cells f 93 [v, .int .i64 (p : Nat), .int .i64 0, .int .i64 0] :: L), H, ?_⟩
        (repeat with_reducible (first | refine Red.to ?_ | (refine is_tload ?_; (first | refine tk_load (fun _ H => H) rfl ?_ | refine tk_load (fun _ H => H.up1) rfl ?_ | refine tk_load (fun _ H => H.up2) rfl ?_ | refine tk_load (fun _ H => H.up3) rfl ?_))))
        (repeat with_reducible (first | refine Red.to ?_ | (refine is_rload ?_; (first | refine rv_load H rfl ?_ | refine rv_load H.up1 rfl ?_ | refine rv_load H.up2 rfl ?_ | refine rv_load H.up3 rfl ?_ | refine rv_load H.up4 rfl ?_))))
        first | refine keep_same (H) ?_ | refine ⟨H, ?_⟩
        (repeat (first | (with_reducible (first | refine Red.to ?_ | (refine is_rload ?_; (first | refine rv_load H rfl ?_ | refine rv_load H.up1 rfl ?_ | refine rv_load H.up2 rfl ?_ | refine rv_load H.up3 rfl ?_ | refine rv_load H.up4 rfl ?_)) | (refine is_tload ?_; (first | refine tk_load (fun _ H => H) rfl ?_ | refine tk_load (fun _ H => H.up1) rfl ?_ | refine tk_load (fun _ H => H.up2) rfl ?_ | refine tk_load (fun _ H => H.up3) rfl ?_)))) | (refine Share.mk ?_) | (intro _) | (simp only [List.getD_cons_zero, List.getD_cons_succ, beq_self_eq_true])))
        first | refine keep_same (H) ?_ | refine ⟨H, ?_⟩
        obtain ⟨gg, off, cap, rfl, hcell⟩ := Kn0.form R H.drop (by omega)
        refine tp_index (by omega) (by omega) ?_
        have hc := hcell _ H.drop p (.int .u8 (x.toNat : Int)) (by simp [bv, hx])
        have ei : off + ((p : Nat) : Int).toNat * 1 = off + p := by omega
        rw [ei]
        refine rv_at hc ?_
        have e1 : decide ((1 : Int) < (x.toNat : Int)) = decide (1 < x.toNat) := by rw [decide_eq_decide]; omega
        (repeat (first | (with_reducible (first | refine Red.to ?_ | (refine is_rload ?_; (first | refine rv_load H rfl ?_ | refine rv_load H.up1 rfl ?_ | refine rv_load H.up2 rfl ?_ | refine rv_load H.up3 rfl ?_ | refine rv_load H.up4 rfl ?_)) | (refine is_tload ?_; (first | refine tk_load (fun _ H => H) rfl ?_ | refine tk_load (fun _ H => H.up1) rfl ?_ | refine tk_load (fun _ H => H.up2) rfl ?_ | refine tk_load (fun _ H => H.up3) rfl ?_)))) | (refine Share.mk ?_) | (intro _) | (simp only [List.getD_cons_zero, List.getD_cons_succ, e1])))
        exact hJ2 _ _ ⟨rfl, rfl⟩
  · intro J hJ
    cases s with
    | bad e a =>
      obtain ⟨he, at_, H⟩ := Fr.ob H
      refine share_of (fun vs w' => vs = [.bool false] ∧ w' = w.drew) ?_ ?_
      · rintro vs w' ⟨rfl, rfl⟩ σ
        simp only [List.getD_cons_zero]
        exact cond_false' (hJ _ _ ⟨rfl, Fr.mb he H.drew⟩)
      intro J2 hJ2
      replace H := H.drew
      refine ⟨fun w => St W w (cells f 93 [v, .int .i64 at_, .int .i64 (e : Nat), .int .i64 (a : Nat)] :: L), H, ?_⟩
      have he' : (((e : Nat) : Int) == 0) = false := by simp; omega
      (repeat with_reducible (first | refine Red.to ?_ | (refine is_tload ?_; (first | refine tk_load (fun _ H => H) rfl ?_ | refine tk_load (fun _ H => H.up1) rfl ?_ | refine tk_load (fun _ H => H.up2) rfl ?_ | refine tk_load (fun _ H => H.up3) rfl ?_))))
      (repeat with_reducible (first | refine Red.to ?_ | (refine is_rload ?_; (first | refine rv_load H rfl ?_ | refine rv_load H.up1 rfl ?_ | refine rv_load H.up2 rfl ?_ | refine rv_load H.up3 rfl ?_ | refine rv_load H.up4 rfl ?_))))
      first | refine keep_same (H) ?_ | refine ⟨H, ?_⟩
      (repeat (first | (with_reducible (first | refine Red.to ?_ | (refine is_rload ?_; (first | refine rv_load H rfl ?_ | refine rv_load H.up1 rfl ?_ | refine rv_load H.up2 rfl ?_ | refine rv_load H.up3 rfl ?_ | refine rv_load H.up4 rfl ?_)) | (refine is_tload ?_; (first | refine tk_load (fun _ H => H) rfl ?_ | refine tk_load (fun _ H => H.up1) rfl ?_ | refine tk_load (fun _ H => H.up2) rfl ?_ | refine tk_load (fun _ H => H.up3) rfl ?_)))) | (refine Share.mk ?_) | (intro _) | (simp only [List.getD_cons_zero, List.getD_cons_succ, he'])))
      exact hJ2 _ _ ⟨rfl, rfl⟩
    | ok u p =>
      obtain ⟨hp, H⟩ := Fr.o H
      simp only [tr1] at hJ
      refine share_of (fun vs w' => vs = [.bool (decide (bs.length ≤ p))] ∧ w' = w.drew) ?_ ?_
      · rintro vs w' ⟨rfl, rfl⟩ σ
        simp only [List.getD_cons_zero]
        replace H := H.drew
        refine cond_split (fun h => ?_) (fun h => ?_)
        · rw [if_pos (of_decide_eq_true h)] at hJ
          (repeat with_reducible (first | refine Red.to ?_ | (refine is_rload ?_; (first | refine rv_load H rfl ?_ | refine rv_load H.up1 rfl ?_ | refine rv_load H.up2 rfl ?_ | refine rv_load H.up3 rfl ?_ | refine rv_load H.up4 rfl ?_))))
          refine fault_spec (bs := bs) (e := 30) (by decide) H ?_
          clear H
          intro w1 H
          exact hJ _ _ ⟨rfl, H⟩
        · rw [if_neg (of_decide_eq_false h)] at hJ
          exact hJ _ _ ⟨rfl, Fr.m hp H⟩
      intro J2 hJ2
      replace H := H.drew
      refine ⟨fun w => St W w (cells f 93 [v, .int .i64 (p : Nat), .int .i64 0, .int .i64 0] :: L), H, ?_⟩
      (repeat with_reducible (first | refine Red.to ?_ | (refine is_tload ?_; (first | refine tk_load (fun _ H => H) rfl ?_ | refine tk_load (fun _ H => H.up1) rfl ?_ | refine tk_load (fun _ H => H.up2) rfl ?_ | refine tk_load (fun _ H => H.up3) rfl ?_))))
      (repeat with_reducible (first | refine Red.to ?_ | (refine is_rload ?_; (first | refine rv_load H rfl ?_ | refine rv_load H.up1 rfl ?_ | refine rv_load H.up2 rfl ?_ | refine rv_load H.up3 rfl ?_ | refine rv_load H.up4 rfl ?_))))
      first | refine keep_same (H) ?_ | refine ⟨H, ?_⟩
      (repeat (first | (with_reducible (first | refine Red.to ?_ | (refine is_rload ?_; (first | refine rv_load H rfl ?_ | refine rv_load H.up1 rfl ?_ | refine rv_load H.up2 rfl ?_ | refine rv_load H.up3 rfl ?_ | refine rv_load H.up4 rfl ?_)) | (refine is_tload ?_; (first | refine tk_load (fun _ H => H) rfl ?_ | refine tk_load (fun _ H => H.up1) rfl ?_ | refine tk_load (fun _ H => H.up2) rfl ?_ | refine tk_load (fun _ H => H.up3) rfl ?_)))) | (refine Share.mk ?_) | (intro _) | (simp only [List.getD_cons_zero, List.getD_cons_succ, beq_self_eq_true])))
      first | refine keep_same (H) ?_ | refine ⟨H, ?_⟩
      refine tp_len_rd0 (R _ H.drop) ?_
      have e1 : decide (((bs.length : Nat) : Int) ≤ (p : Int)) = decide (bs.length ≤ p) := by rw [decide_eq_decide]; omega
      (repeat (first | (with_reducible (first | refine Red.to ?_ | (refine is_rload ?_; (first | refine rv_load H rfl ?_ | refine rv_load H.up1 rfl ?_ | refine rv_load H.up2 rfl ?_ | refine rv_load H.up3 rfl ?_ | refine rv_load H.up4 rfl ?_)) | (refine is_tload ?_; (first | refine tk_load (fun _ H => H) rfl ?_ | refine tk_load (fun _ H => H.up1) rfl ?_ | refine tk_load (fun _ H => H.up2) rfl ?_ | refine tk_load (fun _ H => H.up3) rfl ?_)))) | (refine Share.mk ?_) | (intro _) | (simp only [List.getD_cons_zero, List.getD_cons_succ, e1])))
      exact hJ2 _ _ ⟨rfl, rfl⟩
end
end Go.Proofs.Ytdmocobabpmoeaa
