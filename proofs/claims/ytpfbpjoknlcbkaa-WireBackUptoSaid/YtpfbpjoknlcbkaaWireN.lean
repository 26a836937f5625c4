/-
  WireWrites: one call on a writer ('writes').
-/
import Derived.Test.YtpfbpjoknlcbkaaWireM
namespace Go.Proofs.Ytpfbpjoknlcbkaa
open Go.Vc Go.Sep Go.Ops
set_option linter.unusedVariables false
set_option linter.unusedSectionVars false
set_option linter.unusedSimpArgs false

section
variable {W w : World} {L : List HProp} {K : Value → World → Prop} {KU : World → Prop} {X : XPost}
theorem putBytes_len (e : Int) (bs xs : List UInt8) (h : xs.length ≤ 1048576) : (putBytes e bs xs).2.length ≤ bs.length + xs.length + 10 := by
  unfold putBytes
  have := form_length10 (v := xs.length) (by omega)
  split
  · split
    · simp only; omega
    · simp only [List.length_append]; omega
  · simp only; omega
theorem u8_bounds (n : Int) : 0 ≤ IntKind.u8.wrap n ∧ IntKind.u8.wrap n < 256 := by
  simp only [IntKind.wrap, IntKind.bits, IntKind.signed]
  simp
  omega
theorem writes_spec {p r kb : Nat} {e : Int} {bs xs : List UInt8} {l : List (Value × List UInt8)} {kd : Int} {tw : Bool} {vv : Nat} {nn : Int} {bval : Value}
    (hv : vv < 18446744073709551616) (hn : -9223372036854775808 ≤ nn ∧ nn < 9223372036854775808) (R : Rd0 W bval xs.length (bv xs)) (hx : xs.length ≤ 1048576) (hbs : bs.length ≤ 2000000000000) (hl : l.length ≤ 3999999999990) (H : St W w (Wr p e bs :: Wf r e bs :: Bk kb l :: L))
    (k : ∀ (e' : Int) bs' l' w', bs'.length ≤ bs.length + xs.length + 10 → l'.length ≤ l.length + 2 → (∀ q ∈ l', q ∈ l ∨ q.2.length ≤ bs.length) → St W w' (Wr p e' bs' :: Wf r e' bs' :: Bk kb l' :: L) → K (.bool true) w') :
    FCall Try.prog Fn.sluicelaw07_writes #[.pointer (some ⟨p, 0, none⟩), .pointer (some ⟨r, 0, none⟩), .agg #[.int .i64 kd, .bool tw, .int .u64 vv, .int .i64 nn, bval], .pointer (some ⟨kb, 0, none⟩)] w K X := by
  refine sluicelaw07_writes_call ?_
  unfold Sh.sluicelaw07_writes
  refine rv_box (c := [.int .i64 kd, .bool tw, .int .u64 vv, .int .i64 nn, bval]) H rfl ?_
  clear H
  intro bx w1 H
  refine share_of (fun vs w => vs = [] ∧ ∃ (e' : Int) (bs' : List UInt8) (l' : List (Value × List UInt8)), bs'.length ≤ bs.length + xs.length + 10 ∧ l'.length ≤ l.length + 2 ∧ (∀ q ∈ l', q ∈ l ∨ q.2.length ≤ bs.length) ∧ St W w (Wr p e' bs' :: Wf r e' bs' :: Bk kb l' :: L)) ?_ ?_
  · clear H
    rintro vs w ⟨rfl, e', bs', l', hl0, hl1, hl2, H⟩ σ
    have H0 := H.drew
    obtain ⟨v, H⟩ := Wf.o H.drew.up1
    refine ⟨fun w => St W w (cells r 29 [v, .int .i64 e'] :: Bs v bs' :: Wr p e' bs' :: Bk kb l' :: L), H, ?_⟩
    (repeat with_reducible (first | refine Red.to ?_ | (refine is_tload ?_; (first | refine tk_load (fun _ H => H) rfl ?_ | refine tk_load (fun _ H => H.up1) rfl ?_ | refine tk_load (fun _ H => H.up2) rfl ?_ | refine tk_load (fun _ H => H.up3) rfl ?_))))
    refine Err_spec H.up2 ?_
    first | refine keep_same (H) ?_ | refine ⟨H, ?_⟩
    (repeat with_reducible (first | refine Red.to ?_ | (refine is_tload ?_; (first | refine tk_load (fun _ H => H) rfl ?_ | refine tk_load (fun _ H => H.up1) rfl ?_ | refine tk_load (fun _ H => H.up2) rfl ?_ | refine tk_load (fun _ H => H.up3) rfl ?_))))
    rw [beq_self_eq_true]
    exact k e' bs' l' _ hl0 hl1 hl2 H0
  · intro J hJ
    have same : ∀ w, St W w (Wr p e bs :: Wf r e bs :: Bk kb l :: L) → J [] w := fun w H => hJ _ _ ⟨rfl, e, bs, l, by omega, by omega, fun q h => .inl h, H⟩
    have R' : Kn0 W (cells bx 37 [.int .i64 kd, .bool tw, .int .u64 vv, .int .i64 nn, bval] :: L) bval xs.length (bv xs) := Kn0.old R
    (repeat with_reducible (first | refine Red.to ?_ | (refine is_rload ?_; (first | refine rv_load H rfl ?_ | refine rv_load H.up1 rfl ?_ | refine rv_load H.up2 rfl ?_ | refine rv_load H.up3 rfl ?_ | refine rv_load H.up4 rfl ?_))))
    refine cond_split (fun h => ?_) (fun h => ?_)
    · (repeat with_reducible (first | refine Red.to ?_ | (refine is_rload ?_; (first | refine rv_load H rfl ?_ | refine rv_load H.up1 rfl ?_ | refine rv_load H.up2 rfl ?_ | refine rv_load H.up3 rfl ?_ | refine rv_load H.up4 rfl ?_))))
      refine Num_spec H.up1 hv (by omega) ?_
      clear H
      intro w2 H
      replace H := H.up1
      (repeat with_reducible (first | refine Red.to ?_ | (refine is_rload ?_; (first | refine rv_load H rfl ?_ | refine rv_load H.up1 rfl ?_ | refine rv_load H.up2 rfl ?_ | refine rv_load H.up3 rfl ?_ | refine rv_load H.up4 rfl ?_))))
      refine WfNum_spec H.up2 hv (by omega) ?_
      clear H
      intro w3 H
      have := form_length10 hv
      exact hJ _ _ ⟨rfl, _, _, l, by split <;> (try simp only [List.length_append]) <;> omega, by omega, fun q h => .inl h, H.up1.drop.up1⟩
    (repeat with_reducible (first | refine Red.to ?_ | (refine is_rload ?_; (first | refine rv_load H rfl ?_ | refine rv_load H.up1 rfl ?_ | refine rv_load H.up2 rfl ?_ | refine rv_load H.up3 rfl ?_ | refine rv_load H.up4 rfl ?_))))
    refine cond_split (fun h => ?_) (fun h => ?_)
    · (repeat with_reducible (first | refine Red.to ?_ | (refine is_rload ?_; (first | refine rv_load H rfl ?_ | refine rv_load H.up1 rfl ?_ | refine rv_load H.up2 rfl ?_ | refine rv_load H.up3 rfl ?_ | refine rv_load H.up4 rfl ?_))))
      refine Int_spec H.up1 hn.1 hn.2 (by omega) ?_
      clear H
      intro w2 H
      replace H := H.up1
      (repeat with_reducible (first | refine Red.to ?_ | (refine is_rload ?_; (first | refine rv_load H rfl ?_ | refine rv_load H.up1 rfl ?_ | refine rv_load H.up2 rfl ?_ | refine rv_load H.up3 rfl ?_ | refine rv_load H.up4 rfl ?_))))
      refine WfInt_spec H.up2 hn.1 hn.2 (by omega) ?_
      clear H
      intro w3 H
      have := form_length10 (zz_lt hn.1 hn.2)
      exact hJ _ _ ⟨rfl, _, _, l, by split <;> (try simp only [List.length_append]) <;> omega, by omega, fun q h => .inl h, H.up1.drop.up1⟩
    (repeat with_reducible (first | refine Red.to ?_ | (refine is_rload ?_; (first | refine rv_load H rfl ?_ | refine rv_load H.up1 rfl ?_ | refine rv_load H.up2 rfl ?_ | refine rv_load H.up3 rfl ?_ | refine rv_load H.up4 rfl ?_))))
    refine cond_split (fun h => ?_) (fun h => ?_)
    · (repeat with_reducible (first | refine Red.to ?_ | (refine is_rload ?_; (first | refine rv_load H rfl ?_ | refine rv_load H.up1 rfl ?_ | refine rv_load H.up2 rfl ?_ | refine rv_load H.up3 rfl ?_ | refine rv_load H.up4 rfl ?_))))
      refine Byte_spec H.up1 (u8_bounds _) (by omega) ?_
      clear H
      intro w2 H
      replace H := H.up1
      (repeat with_reducible (first | refine Red.to ?_ | (refine is_rload ?_; (first | refine rv_load H rfl ?_ | refine rv_load H.up1 rfl ?_ | refine rv_load H.up2 rfl ?_ | refine rv_load H.up3 rfl ?_ | refine rv_load H.up4 rfl ?_))))
      refine WfByte_spec H.up2 (u8_bounds _) (by omega) ?_
      clear H
      intro w3 H
      exact hJ _ _ ⟨rfl, _, _, l, by split <;> (try simp only [List.length_append, List.length_cons, List.length_nil]) <;> omega, by omega, fun q h => .inl h, H.up1.drop.up1⟩
    (repeat with_reducible (first | refine Red.to ?_ | (refine is_rload ?_; (first | refine rv_load H rfl ?_ | refine rv_load H.up1 rfl ?_ | refine rv_load H.up2 rfl ?_ | refine rv_load H.up3 rfl ?_ | refine rv_load H.up4 rfl ?_))))
    refine cond_split (fun h => ?_) (fun h => ?_)
    · (repeat with_reducible (first | refine Red.to ?_ | (refine is_rload ?_; (first | refine rv_load H rfl ?_ | refine rv_load H.up1 rfl ?_ | refine rv_load H.up2 rfl ?_ | refine rv_load H.up3 rfl ?_ | refine rv_load H.up4 rfl ?_))))
      refine lent0_spec H (Kn0.old R) (by omega) ?_
      clear H
      intro g cap w2 hcap H
      refine Bytes_spec (xs := xs) H.up2 ?_ (by omega) (by omega) ?_
      · exact fun w h => view_rd (tl := [0xC3, 0x3C]) h
      clear H
      intro w3 H
      have hp := putBytes_len e bs xs hx
      replace H := H.up2
      (repeat with_reducible (first | refine Red.to ?_ | (refine is_rload ?_; (first | refine rv_load H rfl ?_ | refine rv_load H.up1 rfl ?_ | refine rv_load H.up2 rfl ?_ | refine rv_load H.up3 rfl ?_ | refine rv_load H.up4 rfl ?_))))
      refine WfBytes0_spec (xs := xs) H.up3 (Kn0.old R) (by omega) (by omega) ?_
      clear H
      intro w4 H
      replace H := H.up1
      (repeat with_reducible (first | refine Red.to ?_ | (refine is_rload ?_; (first | refine rv_load H rfl ?_ | refine rv_load H.up1 rfl ?_ | refine rv_load H.up2 rfl ?_ | refine rv_load H.up3 rfl ?_ | refine rv_load H.up4 rfl ?_))))
      refine kept0_spec hcap (by omega) H.up3 (Kn0.old R) ?_
      clear H
      intro w5 H
      (repeat with_reducible (first | refine Red.to ?_ | (refine is_rload ?_; (first | refine rv_load H rfl ?_ | refine rv_load H.up1 rfl ?_ | refine rv_load H.up2 rfl ?_ | refine rv_load H.up3 rfl ?_ | refine rv_load H.up4 rfl ?_))))
      refine loop_of (fun vs w => ∃ (i : Nat) (bs' : List UInt8), vs = [.int .i64 i] ∧ i ≤ xs.length ∧ bs'.length = xs.length + 2 ∧ St W w (Bs (.slice (some ⟨g, 0, none⟩) bs'.length cap) bs' :: Wr p (putBytes e bs xs).1 (putBytes e bs xs).2 :: Wf r (putBytes e bs xs).1 (putBytes e bs xs).2 :: Bk kb l :: L))
        (fun vs _ => match vs with | [.int _ i] => xs.length - i.toNat | _ => 0) ⟨0, xs ++ [0xC3, 0x3C], rfl, by omega, by simp, ?_⟩ ?_
      · simpa using H.up1.drop.up2.up1
      clear H
      rintro vs w kk ⟨i, bs', rfl, hi, hbl, H⟩ hkk σ
      simp only [List.getD_cons_zero, List.getD_cons_succ]
      (repeat with_reducible (first | refine Red.to ?_ | (refine is_rload ?_; (first | refine rv_load H rfl ?_ | refine rv_load H.up1 rfl ?_ | refine rv_load H.up2 rfl ?_ | refine rv_load H.up3 rfl ?_ | refine rv_load H.up4 rfl ?_))))
      refine cond_split (fun h => ?_) (fun h => ?_)
      · have h : i < xs.length := by have := of_decide_eq_true h; omega
        obtain ⟨x, hx⟩ : ∃ x, bs'[i]? = some x := ⟨_, List.getElem?_eq_getElem (by omega)⟩
        refine rv_index (by omega) (by omega) ?_
        have ei : 0 + ((i : Nat) : Int).toNat * 1 = i := by simp
        rw [ei]
        refine rv (Ops.run_load (H.sl_cells (g := g) (cap := cap) rfl i (.int .u8 (x.toNat : Int)) (by simp [bv, hx]))) ?_
        (repeat with_reducible (first | refine Red.to ?_ | (refine is_rload ?_; (first | refine rv_load H rfl ?_ | refine rv_load H.up1 rfl ?_ | refine rv_load H.up2 rfl ?_ | refine rv_load H.up3 rfl ?_ | refine rv_load H.up4 rfl ?_))))
        refine rv_index (by omega) (by omega) ?_
        rw [ei]
        refine ru_bs H (by omega) (u8_bounds _) ?_
        clear H
        intro w1 H
        (repeat with_reducible (first | refine Red.to ?_ | (refine is_rload ?_; (first | refine rv_load H rfl ?_ | refine rv_load H.up1 rfl ?_ | refine rv_load H.up2 rfl ?_ | refine rv_load H.up3 rfl ?_ | refine rv_load H.up4 rfl ?_))))
        rw [i64_small (by omega) (by omega)]
        refine hkk _ _ ⟨i + 1, bs'.set i (UInt8.ofNat (IntKind.u8.wrap ((x.toNat : Int) + 5)).toNat), rfl, by omega, by rw [List.length_set]; exact hbl, ?_⟩ (by simp; omega)
        rw [List.length_set]
        exact H
      · exact hJ _ _ ⟨rfl, _, _, l, hp, by omega, fun q h => .inl h, H.drop⟩
    (repeat with_reducible (first | refine Red.to ?_ | (refine is_rload ?_; (first | refine rv_load H rfl ?_ | refine rv_load H.up1 rfl ?_ | refine rv_load H.up2 rfl ?_ | refine rv_load H.up3 rfl ?_ | refine rv_load H.up4 rfl ?_))))
    refine cond_split (fun h => ?_) (fun h => ?_)
    · refine Data_spec H.up1 (by omega) ?_
      clear H
      intro y1 w2 H
      refine Data_spec H.up1 (by omega) ?_
      clear H
      intro y2 w3 H
      replace H : St W w3 (Wf r e bs :: Bs y1 bs :: Bs y2 bs :: Wr p e bs :: Bk kb l :: L) := H.up3.drop.up2.up3
      refine share_of (fun vs w => vs = [] ∧ St W w (Wf r e bs :: Bs y1 bs :: Bs y2 bs :: Wr p e bs :: Bk kb l :: L)) ?_ ?_
      · clear H
        rintro vs w ⟨rfl, H⟩ σ
        refine keep_spec H.up4.up2 (by omega) ?_
        clear H
        intro w1 H
        refine keep_spec H.up2 (by simp; omega) ?_
        clear H
        intro w2 H
        refine hJ _ _ ⟨rfl, e, bs, _, by omega, ?_, ?_, H.up1.up2⟩
        · simp
        · intro q hq
          simp only [List.mem_append, List.mem_singleton] at hq
          rcases hq with (hq | rfl) | rfl
          · exact .inl hq
          · exact .inr (by simp)
          · exact .inr (by simp)
      · intro J2 hJ2
        replace H := H.drew
        have H0 := H
        obtain ⟨v, H⟩ := Wf.o H
        refine ⟨fun w => St W w (cells r 29 [v, .int .i64 e] :: Bs v bs :: Bs y1 bs :: Bs y2 bs :: Wr p e bs :: Bk kb l :: L), H, ?_⟩
        (repeat with_reducible (first | refine Red.to ?_ | (refine is_tload ?_; (first | refine tk_load (fun _ H => H) rfl ?_ | refine tk_load (fun _ H => H.up1) rfl ?_ | refine tk_load (fun _ H => H.up2) rfl ?_ | refine tk_load (fun _ H => H.up3) rfl ?_))))
        refine tk (fun w h => run_str h.up2.rd) ?_
        (repeat with_reducible (first | refine Red.to ?_ | (refine is_rload ?_; (first | refine rv_load H rfl ?_ | refine rv_load H.up1 rfl ?_ | refine rv_load H.up2 rfl ?_ | refine rv_load H.up3 rfl ?_ | refine rv_load H.up4 rfl ?_))))
        first | refine keep_same (H) ?_ | refine ⟨H, ?_⟩
        refine rv_str H.up1.rd ?_
        first | refine keep_same (H) ?_ | refine ⟨H, ?_⟩
        refine tp_neq_s ?_
        rw [eql_txt, decide_eq_true rfl]
        simp only [Bool.not_true]
        (repeat with_reducible (first | refine Red.to ?_ | (refine is_tload ?_; (first | refine tk_load (fun _ H => H) rfl ?_ | refine tk_load (fun _ H => H.up1) rfl ?_ | refine tk_load (fun _ H => H.up2) rfl ?_ | refine tk_load (fun _ H => H.up3) rfl ?_))))
        refine tk (fun w h => run_str h.up3.rd) ?_
        (repeat with_reducible (first | refine Red.to ?_ | (refine is_rload ?_; (first | refine rv_load H rfl ?_ | refine rv_load H.up1 rfl ?_ | refine rv_load H.up2 rfl ?_ | refine rv_load H.up3 rfl ?_ | refine rv_load H.up4 rfl ?_))))
        first | refine keep_same (H) ?_ | refine ⟨H, ?_⟩
        refine rv_str H.up1.rd ?_
        first | refine keep_same (H) ?_ | refine ⟨H, ?_⟩
        refine tp_neq_s ?_
        rw [eql_txt, decide_eq_true rfl]
        simp only [Bool.not_true]
        (repeat with_reducible (first | refine Red.to ?_ | (refine is_rload ?_; (first | refine rv_load H rfl ?_ | refine rv_load H.up1 rfl ?_ | refine rv_load H.up2 rfl ?_ | refine rv_load H.up3 rfl ?_ | refine rv_load H.up4 rfl ?_))))
        exact hJ2 _ _ ⟨rfl, H0⟩
    · exact same _ H.drop
end
end Go.Proofs.Ytpfbpjoknlcbkaa
