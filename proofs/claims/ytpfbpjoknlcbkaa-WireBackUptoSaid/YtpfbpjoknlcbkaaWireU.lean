/-
  WireBack: Writer.Bytes for slices that may be odd empty ones; cut, got, puts. (The first theorem is written by u.py out of the text WireA.)
-/
import Derived.Test.YtpfbpjoknlcbkaaWireT
namespace Go.Proofs.Ytpfbpjoknlcbkaa
open Go.Vc Go.Sep Go.Ops
set_option linter.unusedVariables false
set_option linter.unusedSectionVars false
set_option linter.unusedSimpArgs false

section
variable {W w : World} {L : List HProp} {K : Value → World → Prop} {KU : World → Prop} {X : XPost}
theorem Bytes0_spec {b : Nat} {e : Int} {bs xs : List UInt8} {v : Value} (H : St W w (Wr b e bs :: L)) (R : Kn0 W L v xs.length (bv xs)) (hl : bs.length ≤ 35184372088832) (hx : xs.length ≤ 140737488351232)
    (k : ∀ w', St W w' (Wr b (putBytes e bs xs).1 (putBytes e bs xs).2 :: L) → K (.tuple #[]) w') : FCall Try.prog Fn.wire_Writer_Bytes #[.pointer (some ⟨b, 0, none⟩), v] w K X := by
  refine wire_Writer_Bytes_call ?_
  unfold Sh.wire_Writer_Bytes
  obtain ⟨sv, H⟩ := Wr.o H
  refine off_spec H ?_
  refine cond_split (fun h => ?_) (fun h => ?_)
  · have h : e ≠ 0 := by simpa using h
    refine k w ?_
    simp only [putBytes, if_neg h]
    exact Wr.m H
  · have h : e = 0 := by simpa using h
    subst h
    refine rv_len_rd0 (R _ H.drop.drop) ?_
    (repeat with_reducible (first | refine Red.to ?_ | (refine is_rload ?_; (first | refine rv_load H rfl ?_ | refine rv_load H.up1 rfl ?_ | refine rv_load H.up2 rfl ?_ | refine rv_load H.up3 rfl ?_ | refine rv_load H.up4 rfl ?_))))
    refine cond_split (fun h => ?_) (fun h => ?_)
    · have h : 65536 < xs.length := by simp at h; omega
      (repeat with_reducible (first | refine Red.to ?_ | (refine is_rload ?_; (first | refine rv_load H rfl ?_ | refine rv_load H.up1 rfl ?_ | refine rv_load H.up2 rfl ?_ | refine rv_load H.up3 rfl ?_ | refine rv_load H.up4 rfl ?_))))
      refine fail_spec H ?_
      intro w1 H
      refine k w1 ?_
      simp only [putBytes, if_pos h]
      exact Wr.m H
    · have h : ¬ 65536 < xs.length := by simp at h; omega
      refine rv_len_rd0 (R _ H.drop.drop) ?_
      (repeat with_reducible (first | refine Red.to ?_ | (refine is_rload ?_; (first | refine rv_load H rfl ?_ | refine rv_load H.up1 rfl ?_ | refine rv_load H.up2 rfl ?_ | refine rv_load H.up3 rfl ?_ | refine rv_load H.up4 rfl ?_))))
      have hw : IntKind.u64.wrap (xs.length : Int) = ((xs.length : Nat) : Int) := by rw [u64_wrap]; omega
      rw [hw]
      refine Num_spec (Wr.m H) (by omega) hl ?_
      intro w1 H
      obtain ⟨sv, H⟩ := Wr.o H
      rw [if_pos rfl] at H
      have hf : (form xs.length).length ≤ 10 := form_length10 (by omega)
      (repeat with_reducible (first | refine Red.to ?_ | (refine is_rload ?_; (first | refine rv_load H rfl ?_ | refine rv_load H.up1 rfl ?_ | refine rv_load H.up2 rfl ?_ | refine rv_load H.up3 rfl ?_ | refine rv_load H.up4 rfl ?_))))
      refine rv_append_rd0 H.up1 (R _ H.drop.drop) (by simp [bv]) bv_one (by unfold maxLen; simp; omega) (by simp; omega) ?_
      intro y w2 H _
      (repeat with_reducible (first | refine Red.to ?_ | (refine is_rload ?_; (first | refine rv_load H rfl ?_ | refine rv_load H.up1 rfl ?_ | refine rv_load H.up2 rfl ?_ | refine rv_load H.up3 rfl ?_ | refine rv_load H.up4 rfl ?_))))
      refine ru_store H.up1 (by simp) (sl_one H) ?_
      intro w3 H
      refine k w3 ?_
      simp only [putBytes, if_neg h, if_pos]
      refine Wr.m (v := y) ?_
      rw [← bv_append] at H
      simpa [Bs, Nat.add_assoc] using H
theorem cutB_small {xs : List UInt8} (h : ¬ 65536 < xs.length) : cutB xs = xs := List.take_of_length_le (by omega)
theorem cut_spec {v : Value} {xs : List UInt8} (R : Rd0 W v xs.length (bv xs)) (H : St W w L) (k : ∀ y, Rd0 W y (cutB xs).length (bv (cutB xs)) → K y w) : FCall Try.prog Fn.sluicelaw07_cut #[v] w K X := by
  refine sluicelaw07_cut_call ?_
  unfold Sh.sluicelaw07_cut
  refine rv_len_rd0 (R.old H) ?_
  (repeat with_reducible (first | refine Red.to ?_ | (refine is_rload ?_; (first | refine rv_load H rfl ?_ | refine rv_load H.up1 rfl ?_ | refine rv_load H.up2 rfl ?_ | refine rv_load H.up3 rfl ?_ | refine rv_load H.up4 rfl ?_))))
  refine cond_split (fun h => ?_) (fun h => ?_)
  · have h : 65536 < xs.length := by simp at h; omega
    rcases R with hr | ⟨_, _, _, h0, _⟩
    · rcases id hr with ⟨_, h0, _⟩ | ⟨g, off, cap, rfl, hn, _⟩
      · omega
      refine rv_slice_h' (by omega) (by omega) ?_
      refine k _ ?_
      have hc : (cutB xs).length = 65536 := by simp [cutB]; omega
      have := Rd_take (v := .nilIface) hr (n := 65536) (by omega)
      rw [hc, show bv (cutB xs) = (bv xs).take 65536 by simp [cutB, bv, List.map_take]]
      exact .inl this
    · omega
  · have h : ¬ 65536 < xs.length := by simp at h; omega
    refine k _ ?_
    rw [cutB_small h]
    exact R

theorem got_spec {b e : Nat} {bs : List UInt8} {at_ : Nat} {o : OpV} {xs : List UInt8} (R : Rd0 W o.b xs.length (bv xs)) (H : St W w (Rr b e bs at_ :: L))
    (k : ∀ w', St W w' (Rr b ((gotR e bs at_ o xs).2.1 : Nat) bs (gotR e bs at_ o xs).2.2 :: L) → K (.bool (gotR e bs at_ o xs).1) w') :
    FCall Try.prog Fn.sluicelaw07_got #[.pointer (some ⟨b, 0, none⟩), .agg #[.int .i64 o.kd, .bool o.two, .int .u64 o.vv, .int .i64 o.nn, o.b]] w K X := by
  refine sluicelaw07_got_call ?_
  unfold Sh.sluicelaw07_got
  refine rv_box (c := [.int .i64 o.kd, .bool o.two, .int .u64 o.vv, .int .i64 o.nn, o.b]) H rfl ?_
  clear H
  intro bx w1 H
  (repeat with_reducible (first | refine Red.to ?_ | (refine is_rload ?_; (first | refine rv_load H rfl ?_ | refine rv_load H.up1 rfl ?_ | refine rv_load H.up2 rfl ?_ | refine rv_load H.up3 rfl ?_ | refine rv_load H.up4 rfl ?_))))
  have hb : ∀ {a b : Int}, (a == b) = decide (a = b) := by intro a b; rw [Bool.eq_iff_iff]; simp
  have hb2 : ∀ {a b : Nat}, ((a : Int) == (b : Int)) = decide (a = b) := by intro a b; rw [Bool.eq_iff_iff]; simp; omega
  refine cond_split (fun h => ?_) (fun h => ?_)
  · have hk : o.kd = 1 := by simpa using h
    simp only [gotR, if_pos hk] at k
    refine ⟨fun w => St W w [cells bx 37 [.int .i64 o.kd, .bool o.two, .int .u64 o.vv, .int .i64 o.nn, o.b]], St.head H.drew, ?_⟩
    (repeat with_reducible (first | refine Red.to ?_ | (refine is_tload ?_; (first | refine tk_load (fun _ H => H) rfl ?_ | refine tk_load (fun _ H => H.up1) rfl ?_ | refine tk_load (fun _ H => H.up2) rfl ?_ | refine tk_load (fun _ H => H.up3) rfl ?_))))
    refine RNum_spec (most := o.vv) H.drew.up1 ?_
    clear H
    intro w2 H
    first | refine keep_same (St.head H.up1) ?_ | refine ⟨St.head H.up1, ?_⟩
    refine tp_eql ?_
    rw [hb2]
    exact k _ H.up1.drop
  have hk1 : ¬ o.kd = 1 := by simpa using h
  (repeat with_reducible (first | refine Red.to ?_ | (refine is_rload ?_; (first | refine rv_load H rfl ?_ | refine rv_load H.up1 rfl ?_ | refine rv_load H.up2 rfl ?_ | refine rv_load H.up3 rfl ?_ | refine rv_load H.up4 rfl ?_))))
  refine cond_split (fun h => ?_) (fun h => ?_)
  · have hk : o.kd = 2 := by simpa using h
    simp only [gotR, if_neg hk1, if_pos hk] at k
    refine ⟨fun w => St W w [cells bx 37 [.int .i64 o.kd, .bool o.two, .int .u64 o.vv, .int .i64 o.nn, o.b]], St.head H.drew, ?_⟩
    (repeat with_reducible (first | refine Red.to ?_ | (refine is_tload ?_; (first | refine tk_load (fun _ H => H) rfl ?_ | refine tk_load (fun _ H => H.up1) rfl ?_ | refine tk_load (fun _ H => H.up2) rfl ?_ | refine tk_load (fun _ H => H.up3) rfl ?_))))
    refine RInt_spec H.drew.up1 ?_
    clear H
    intro w2 H
    first | refine keep_same (St.head H.up1) ?_ | refine ⟨St.head H.up1, ?_⟩
    refine tp_eql ?_
    rw [hb]
    exact k _ H.up1.drop
  have hk2 : ¬ o.kd = 2 := by simpa using h
  (repeat with_reducible (first | refine Red.to ?_ | (refine is_rload ?_; (first | refine rv_load H rfl ?_ | refine rv_load H.up1 rfl ?_ | refine rv_load H.up2 rfl ?_ | refine rv_load H.up3 rfl ?_ | refine rv_load H.up4 rfl ?_))))
  refine cond_split (fun h => ?_) (fun h => ?_)
  · have hk : o.kd = 3 := by simpa using h
    simp only [gotR, if_neg hk1, if_neg hk2, if_pos hk] at k
    refine ⟨fun w => St W w [cells bx 37 [.int .i64 o.kd, .bool o.two, .int .u64 o.vv, .int .i64 o.nn, o.b]], St.head H.drew, ?_⟩
    (repeat with_reducible (first | refine Red.to ?_ | (refine is_tload ?_; (first | refine tk_load (fun _ H => H) rfl ?_ | refine tk_load (fun _ H => H.up1) rfl ?_ | refine tk_load (fun _ H => H.up2) rfl ?_ | refine tk_load (fun _ H => H.up3) rfl ?_))))
    (repeat with_reducible (first | refine Red.to ?_ | (refine is_tload ?_; (first | refine tk_load (fun _ H => H) rfl ?_ | refine tk_load (fun _ H => H.up1) rfl ?_ | refine tk_load (fun _ H => H.up2) rfl ?_ | refine tk_load (fun _ H => H.up3) rfl ?_))))
    refine RByte_spec H.drew.up1 ?_
    clear H
    intro w2 H
    first | refine keep_same (St.head H.up1) ?_ | refine ⟨St.head H.up1, ?_⟩
    refine tp_eql ?_
    rw [hb]
    exact k _ H.up1.drop
  have hk3 : ¬ o.kd = 3 := by simpa using h
  simp only [gotR, if_neg hk1, if_neg hk2, if_neg hk3] at k
  refine ⟨fun w => St W w [cells bx 37 [.int .i64 o.kd, .bool o.two, .int .u64 o.vv, .int .i64 o.nn, o.b]], St.head H.drew, ?_⟩
  (repeat with_reducible (first | refine Red.to ?_ | (refine is_tload ?_; (first | refine tk_load (fun _ H => H) rfl ?_ | refine tk_load (fun _ H => H.up1) rfl ?_ | refine tk_load (fun _ H => H.up2) rfl ?_ | refine tk_load (fun _ H => H.up3) rfl ?_))))
  refine cut_spec R H.drew ?_
  intro y R1
  first | refine keep_same (St.head H.drew) ?_ | refine ⟨St.head H.drew, ?_⟩
  refine tp_len_rd0 (R1.old H.drew) ?_
  have hc := cutB_len xs
  refine RBytes_spec (by omega) H.drew.up1 ?_
  clear H
  intro z w2 H
  refine keep_to (fun w => St W w [cells bx 37 [.int .i64 o.kd, .bool o.two, .int .u64 o.vv, .int .i64 o.nn, o.b], Bs z (rBytes e bs at_ (cutB xs).length).1]) ?_ (fun w h => St.head h) ?_
  · exact St.two H.up2
  refine tk (fun w h => run_str h.up1.rd) ?_
  refine cut_spec R H ?_
  intro y2 R2
  first | refine keep_same (St.two H.up2) ?_ | refine ⟨St.two H.up2, ?_⟩
  refine rv_str0 (R2.old H) ?_
  first | refine keep_same (St.two H.up2) ?_ | refine ⟨St.two H.up2, ?_⟩
  refine tp_eql_s ?_
  rw [eql_txt]
  exact k _ H.drop.up1.drop

/-! ### puts -/
def Es (v : Value) (n : Nat) (xs : List Value) : HProp := Sl 3 1 v n xs
def ends (B : OpV → List UInt8) (ops : List OpV) (n : Nat) : List Value := (List.range n).map fun j => Value.int .i64 (pos B ops (j + 1) : Nat)
theorem ends_succ (B : OpV → List UInt8) (ops : List OpV) (n : Nat) : ends B ops n ++ [Value.int .i64 (pos B ops (n + 1) : Nat)] = ends B ops (n + 1) := by
  simp [ends, List.range_succ]
theorem ends_get (B : OpV → List UInt8) (ops : List OpV) {n i : Nat} (h : i < n) : (ends B ops n)[i]? = some (Value.int .i64 (pos B ops (i + 1) : Nat)) := by
  simp [ends, h]
theorem Rd0.one {v : Value} {n : Nat} {cs : List Value} (h : Rd0 w v n cs) : v.oneCell' = true := by
  rcases h with h | ⟨a, c, rfl, _, _⟩
  · exact h.one
  · rfl
theorem puts_spec {a : Value} {ops : List OpV} {B : OpV → List UInt8} (R3 : Rd W a ops.length (flat ops)) (hok : ∀ o ∈ ops, o.ok) (hB : ∀ o ∈ ops, Rd0 W o.b (B o).length (bv (B o)))
    (hl3 : ops.length ≤ 1048576) (H : St W w L)
    (k : ∀ y ev w', St W w' (Bs y (cat B ops) :: Es ev ops.length (ends B ops ops.length) :: L) → K (.tuple #[y, ev]) w') : FCall Try.prog Fn.sluicelaw07_puts #[a] w K X := by
  refine sluicelaw07_puts_call ?_
  unfold Sh.sluicelaw07_puts
  refine NewWriter_spec H ?_
  clear H
  intro x w1 H
  (repeat with_reducible (first | refine Red.to ?_ | (refine is_rload ?_; (first | refine rv_load H rfl ?_ | refine rv_load H.up1 rfl ?_ | refine rv_load H.up2 rfl ?_ | refine rv_load H.up3 rfl ?_ | refine rv_load H.up4 rfl ?_))))
  have hcat := pos_le B ops hok ops.length
  rw [pos_all] at hcat
  have hcat2 : (cat B ops).length ≤ 100000000000 := Nat.le_trans hcat (Nat.le_trans (Nat.mul_le_mul_right 65546 hl3) (by decide))
  refine share_of (fun vs w => ∃ ev, vs = [ev] ∧ St W w (Wr x 0 (cat B ops) :: Es ev ops.length (ends B ops ops.length) :: L)) ?_ ?_
  · clear H
    rintro vs w ⟨ev, rfl, H⟩ σ
    refine Err_spec H ?_
    (repeat (first | (with_reducible (first | refine Red.to ?_ | (refine is_rload ?_; (first | refine rv_load H rfl ?_ | refine rv_load H.up1 rfl ?_ | refine rv_load H.up2 rfl ?_ | refine rv_load H.up3 rfl ?_ | refine rv_load H.up4 rfl ?_)) | (refine is_tload ?_; (first | refine tk_load (fun _ H => H) rfl ?_ | refine tk_load (fun _ H => H.up1) rfl ?_ | refine tk_load (fun _ H => H.up2) rfl ?_ | refine tk_load (fun _ H => H.up3) rfl ?_)))) | (refine Share.mk ?_) | (intro _) | (simp only [List.getD_cons_zero, List.getD_cons_succ, bne_self_eq_false])))
    refine Data_spec H (by omega) ?_
    clear H
    intro y w2 H
    exact k y ev _ H.up1.drop
  intro J hJ
  refine loop_of (fun vs w => ∃ (i : Nat) (ev : Value), vs = [ev, .int .i64 i] ∧ i ≤ ops.length ∧ St W w (Wr x 0 (cat B (ops.take i)) :: Es ev i (ends B ops i) :: L))
    (fun vs _ => match vs with | [_, .int _ i] => ops.length - i.toNat | _ => 0) ⟨0, _, rfl, by omega, ?_⟩ ?_
  · simpa [cat, ends, Es] using (H.sl_nil 3 1).up1
  clear H
  rintro vs w kk ⟨i, ev, rfl, hi, H⟩ hkk σ
  simp only [List.getD_cons_zero, List.getD_cons_succ]
  refine rv_len_rd (R3.old H) ?_
  (repeat with_reducible (first | refine Red.to ?_ | (refine is_rload ?_; (first | refine rv_load H rfl ?_ | refine rv_load H.up1 rfl ?_ | refine rv_load H.up2 rfl ?_ | refine rv_load H.up3 rfl ?_ | refine rv_load H.up4 rfl ?_))))
  refine cond_split (fun h => ?_) (fun h => ?_)
  · have h : i < ops.length := by have := of_decide_eq_true h; omega
    obtain ⟨o, ho⟩ : ∃ o, ops[i]? = some o := ⟨_, List.getElem?_eq_getElem h⟩
    have hoo := hok o (List.mem_of_getElem? ho)
    have Rx := hB o (List.mem_of_getElem? ho)
    have hsn := cat_snoc B ho
    have hlen := pos_le B ops hok i
    have hlen2 : (cat B (ops.take i)).length ≤ 100000000000 := Nat.le_trans hlen (Nat.le_trans (Nat.mul_le_mul_right 65546 (by omega)) (by decide : 1048576 * 65546 ≤ 100000000000))
    rcases R3 with ⟨_, h0, _⟩ | ⟨g3, off, cap3, rfl, hn3, hc3⟩
    · omega
    have R3 : Rd W (.slice (some ⟨g3, off, none⟩) ops.length cap3) ops.length (flat ops) := .inr ⟨g3, off, cap3, rfl, hn3, hc3⟩
    have ei : off + ((i : Nat) : Int).toNat * 5 = off + i * 5 := by simp
    refine rv_index (by omega) (by omega) ?_
    rw [ei]
    refine rv (run_load_agg (cs := o.cs) rfl ?_) ?_
    · intro j v hj
      have e : Addr.add ⟨g3, off + i * 5, none⟩ j = ⟨g3, off + i * 5 + j, none⟩ := by by_cases h : j = 0 <;> simp [Addr.add, h]
      rw [e]
      exact op_cell (v := .nilIface) (R3.old H) ho hj
    refine rv_alloc (z := .agg #[.int .i64 0, .bool false, .int .u64 0, .int .i64 0, .slice none 0 0]) (c := [.int .i64 0, .bool false, .int .u64 0, .int .i64 0, .slice none 0 0]) (by kernel_rfl) H rfl ?_
    clear H
    intro bx w2 H
    refine ru_store_whole (c' := o.cs) (show _ = some 5 by kernel_rfl) H rfl ?_ ?_
    · intro u hu
      simp only [OpV.cs, List.mem_cons, List.not_mem_nil, or_false] at hu
      rcases hu with rfl | rfl | rfl | rfl | rfl
      · rfl
      · rfl
      · rfl
      · rfl
      · exact Rx.one
    clear H
    intro w3 H
    unfold OpV.cs at H
    refine share_of (fun vs w => vs = [] ∧ St W w (Wr x 0 (cat B (ops.take (i + 1))) :: Es ev i (ends B ops i) :: L)) ?_ ?_
    · clear H
      rintro vs w ⟨rfl, H⟩ σ
      refine Data_spec H ?_ ?_
      · rw [hsn, List.length_append]
        have := enc_len o hoo (B o)
        omega
      clear H
      intro y w4 H
      refine rv_len_rd H.rd ?_
      replace H := H.drop
      refine rv_build1 H rfl (by simp [Value.cells]) ?_
      clear H
      intro g w5 H
      refine rv_append_cells H.up2.up1 (news := [.int .i64 (pos B ops (i + 1) : Nat)]) rfl (by simp [Value.oneCell']) (by unfold maxLen; omega) (by omega) ?_
      clear H
      intro ev' w6 H _
      rw [ends_succ] at H
      (repeat with_reducible (first | refine Red.to ?_ | (refine is_rload ?_; (first | refine rv_load H rfl ?_ | refine rv_load H.up1 rfl ?_ | refine rv_load H.up2 rfl ?_ | refine rv_load H.up3 rfl ?_ | refine rv_load H.up4 rfl ?_))))
      rw [i64_small (by omega) (by omega)]
      exact hkk _ _ ⟨i + 1, ev', rfl, by omega, H.up1⟩ (by simp; omega)
    intro J2 hJ2
    (repeat with_reducible (first | refine Red.to ?_ | (refine is_rload ?_; (first | refine rv_load H rfl ?_ | refine rv_load H.up1 rfl ?_ | refine rv_load H.up2 rfl ?_ | refine rv_load H.up3 rfl ?_ | refine rv_load H.up4 rfl ?_))))
    refine cond_split (fun h => ?_) (fun h => ?_)
    · have hk : o.kd = 1 := by simpa using h
      (repeat with_reducible (first | refine Red.to ?_ | (refine is_rload ?_; (first | refine rv_load H rfl ?_ | refine rv_load H.up1 rfl ?_ | refine rv_load H.up2 rfl ?_ | refine rv_load H.up3 rfl ?_ | refine rv_load H.up4 rfl ?_))))
      refine Num_spec H.up1 hoo.1 (by omega) ?_
      clear H
      intro w4 H
      refine hJ2 _ _ ⟨rfl, ?_⟩
      rw [hsn, enc, if_pos hk]
      exact H.up1.drop
    have hk1 : ¬ o.kd = 1 := by simpa using h
    (repeat with_reducible (first | refine Red.to ?_ | (refine is_rload ?_; (first | refine rv_load H rfl ?_ | refine rv_load H.up1 rfl ?_ | refine rv_load H.up2 rfl ?_ | refine rv_load H.up3 rfl ?_ | refine rv_load H.up4 rfl ?_))))
    refine cond_split (fun h => ?_) (fun h => ?_)
    · have hk : o.kd = 2 := by simpa using h
      (repeat with_reducible (first | refine Red.to ?_ | (refine is_rload ?_; (first | refine rv_load H rfl ?_ | refine rv_load H.up1 rfl ?_ | refine rv_load H.up2 rfl ?_ | refine rv_load H.up3 rfl ?_ | refine rv_load H.up4 rfl ?_))))
      refine Int_spec H.up1 hoo.2.1 hoo.2.2 (by omega) ?_
      clear H
      intro w4 H
      refine hJ2 _ _ ⟨rfl, ?_⟩
      rw [hsn, enc, if_neg hk1, if_pos hk]
      exact H.up1.drop
    have hk2 : ¬ o.kd = 2 := by simpa using h
    (repeat with_reducible (first | refine Red.to ?_ | (refine is_rload ?_; (first | refine rv_load H rfl ?_ | refine rv_load H.up1 rfl ?_ | refine rv_load H.up2 rfl ?_ | refine rv_load H.up3 rfl ?_ | refine rv_load H.up4 rfl ?_))))
    refine cond_split (fun h => ?_) (fun h => ?_)
    · have hk : o.kd = 3 := by simpa using h
      (repeat with_reducible (first | refine Red.to ?_ | (refine is_rload ?_; (first | refine rv_load H rfl ?_ | refine rv_load H.up1 rfl ?_ | refine rv_load H.up2 rfl ?_ | refine rv_load H.up3 rfl ?_ | refine rv_load H.up4 rfl ?_))))
      refine Byte_spec H.up1 (u8_bounds _) (by omega) ?_
      clear H
      intro w4 H
      refine hJ2 _ _ ⟨rfl, ?_⟩
      rw [hsn, enc, if_neg hk1, if_neg hk2, if_pos hk]
      exact H.up1.drop
    have hk3 : ¬ o.kd = 3 := by simpa using h
    (repeat with_reducible (first | refine Red.to ?_ | (refine is_rload ?_; (first | refine rv_load H rfl ?_ | refine rv_load H.up1 rfl ?_ | refine rv_load H.up2 rfl ?_ | refine rv_load H.up3 rfl ?_ | refine rv_load H.up4 rfl ?_))))
    refine cut_spec Rx H ?_
    intro y R1
    have hc := cutB_len (B o)
    refine Bytes0_spec (xs := cutB (B o)) H.up1 (Kn0.old R1) (by omega) (by omega) ?_
    clear H
    intro w4 H
    refine hJ2 _ _ ⟨rfl, ?_⟩
    rw [hsn, enc, if_neg hk1, if_neg hk2, if_neg hk3]
    have H := H.up1.drop
    simp only [putBytes, if_pos, if_neg (show ¬ 65536 < (cutB (B o)).length by omega)] at H
    rw [← List.append_assoc]
    exact H
  · have h : i = ops.length := by have := of_decide_eq_false h; omega
    subst h
    rw [List.take_length] at H
    exact hJ _ _ ⟨ev, rfl, H⟩

end
end Go.Proofs.Ytpfbpjoknlcbkaa
