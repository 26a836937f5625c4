/-
  Contracts of the laws' own helpers: book.whole, reads.
-/
import Derived.Test.YtpfbpjoknlcbkaaWireI
namespace Go.Proofs.Ytpfbpjoknlcbkaa
open Go.Vc Go.Sep Go.Ops
set_option linter.unusedVariables false
set_option linter.unusedSectionVars false
set_option linter.unusedSimpArgs false

section
variable {W w : World} {L : List HProp} {K : Value → World → Prop} {KU : World → Prop} {X : XPost}
theorem St.head {A : HProp} (H : St W w (A :: L)) : St W w [A] := by
  have : St W w (L ++ [A]) := H.perm (List.perm_append_comm (l₁ := [A]) (l₂ := L))
  exact St.dropL this
theorem St.two {A B : HProp} (H : St W w (A :: B :: L)) : St W w [A, B] := by
  have : St W w (L ++ [A, B]) := H.perm (List.perm_append_comm (l₁ := [A, B]) (l₂ := L))
  exact St.dropL this
theorem Bl_rd : ∀ {l : List (Value × List UInt8)}, St W w (Bl l ++ L) → ∀ {i : Nat} {q : Value × List UInt8}, l[i]? = some q → Rd w q.1 q.2.length (bv q.2)
  | [], _, i, q, h => by simp at h
  | p :: r, H, i, q, h => by
    cases i with
    | zero =>
      simp only [List.getElem?_cons_zero, Option.some.injEq] at h
      subst h
      exact St.rd (L := Bl r ++ L) H
    | succ i => exact Bl_rd (l := r) (St.drop H) (by simpa using h)
theorem tk_idx {t e b : Nat} {z : Value} [TSlice Try.prog t e 1 b z] [TCell Try.prog e] {v : Value} {n i : Nat} {cs : List Value} {u : Value} {k : IntKind} {S : World → Prop} {KT : Value → Prop} (R0 : Rd w v n cs) (R : ∀ w, S w → Rd w v n cs) (hl : cs.length = n) (hi : cs[i]? = some u) (hk : KT u) :
    TakeP Try.prog (Instr.indexAt t v (.int k (i : Nat))) (fun p => Take Try.prog (Instr.loadAt e p) S KT) := by
  have hin : i < n := by rw [← hl]; exact (List.getElem?_eq_some_iff.1 hi).1
  rcases R0 with ⟨rfl, rfl, _⟩ | ⟨g, off, cap, rfl, hn, hc⟩
  · omega
  · refine tp_index (by omega) (by omega) ?_
    refine tk (fun w h => ?_) hk
    rcases R w h with ⟨h, _⟩ | ⟨g', off', cap', hv, hn', hc'⟩
    · cases h
    · simp only [Value.slice.injEq, Option.some.injEq, Addr.mk.injEq] at hv
      obtain ⟨⟨rfl, rfl, _⟩, _, rfl⟩ := hv
      have := hc' i u hi
      exact Ops.run_load (by simpa using this)
theorem tp_idx {t e b : Nat} {z : Value} [TSlice Try.prog t e 1 b z] [TCell Try.prog e] {v : Value} {n i : Nat} {cs : List Value} {u : Value} {k : IntKind} (R : Rd w v n cs) (hl : cs.length = n) (hi : cs[i]? = some u) (hk : K u w) :
    TakeP Try.prog (Instr.indexAt t v (.int k (i : Nat))) (fun p => RunV Try.prog (Instr.loadAt e p) w K X) := by
  have hin : i < n := by rw [← hl]; exact (List.getElem?_eq_some_iff.1 hi).1
  rcases R with ⟨rfl, rfl, _⟩ | ⟨g, off, cap, rfl, hn, hc⟩
  · omega
  · refine tp_index (by omega) (by omega) ?_
    have := hc i u hi
    exact rv (Ops.run_load (by simpa using this)) hk

theorem whole_spec {b : Nat} {l : List (Value × List UInt8)} (hl : l.length ≤ 4000000000000) (hb : ∀ q ∈ l, q.2.length ≤ 140737488350000) (H : St W w (Bk b l :: L))
    (k : ∀ w', St W w' L → K (.bool true) w') : FCall Try.prog Fn.sluicelaw07_book_whole #[.pointer (some ⟨b, 0, none⟩)] w K X := by
  refine sluicelaw07_book_whole_call ?_
  unfold Sh.sluicelaw07_book_whole
  obtain ⟨vl, vw, H⟩ := Bk.o H
  refine share_of (fun vs w => vs = [] ∧ St W w (cells b 34 [vl, vw] :: Sl 27 1 vl l.length (l.map (·.1)) :: Sl 9 1 vw l.length (l.map fun q => .string (txt q.2)) :: (Bl l ++ L))) ?_ ?_
  · clear H
    rintro vs w ⟨rfl, H⟩ σ
    (repeat with_reducible (first | refine Red.to ?_ | (refine is_rload ?_; (first | refine rv_load H rfl ?_ | refine rv_load H.up1 rfl ?_ | refine rv_load H.up2 rfl ?_ | refine rv_load H.up3 rfl ?_ | refine rv_load H.up4 rfl ?_))))
    have H := H.up1.perm ((((List.perm_middle.trans (List.perm_middle.cons _)).symm : List.Perm (cells b 34 [vl, vw] :: Sl 9 1 vw l.length (l.map fun q => .string (txt q.2)) :: (Bl l ++ L)) (Bl l ++ (cells b 34 [vl, vw] :: Sl 9 1 vw l.length (l.map fun q => .string (txt q.2)) :: L)))).cons _)
    refine apart_spec hl hb H ?_
    intro w1 H
    exact k w1 H.drop.drop
  · intro J hJ
    refine loop_of (fun vs w => ∃ i : Nat, vs = [.int .i64 i] ∧ i ≤ l.length ∧ St W w (cells b 34 [vl, vw] :: Sl 27 1 vl l.length (l.map (·.1)) :: Sl 9 1 vw l.length (l.map fun q => .string (txt q.2)) :: (Bl l ++ L)))
      (fun vs _ => match vs with | [.int _ i] => l.length - i.toNat | _ => 0) ⟨0, rfl, by omega, H⟩ ?_
    clear H
    rintro vs w kk ⟨i, rfl, hi, H⟩ hkk σ
    simp only [List.getD_cons_zero, List.getD_cons_succ]
    (repeat with_reducible (first | refine Red.to ?_ | (refine is_rload ?_; (first | refine rv_load H rfl ?_ | refine rv_load H.up1 rfl ?_ | refine rv_load H.up2 rfl ?_ | refine rv_load H.up3 rfl ?_ | refine rv_load H.up4 rfl ?_))))
    refine rv_len_rd H.up1.rd ?_
    (repeat with_reducible (first | refine Red.to ?_ | (refine is_rload ?_; (first | refine rv_load H rfl ?_ | refine rv_load H.up1 rfl ?_ | refine rv_load H.up2 rfl ?_ | refine rv_load H.up3 rfl ?_ | refine rv_load H.up4 rfl ?_))))
    refine cond_split (fun h => ?_) (fun h => ?_)
    · have h : i < l.length := by have := of_decide_eq_true h; omega
      obtain ⟨q, hq⟩ : ∃ q, l[i]? = some q := ⟨_, List.getElem?_eq_getElem h⟩
      have hql : (l.map (·.1))[i]? = some q.1 := by simp [hq]
      have hqw : (l.map fun q => Value.string (txt q.2))[i]? = some (.string (txt q.2)) := by simp [hq]
      replace H := H.drew
      refine ⟨fun w => St W w (cells b 34 [vl, vw] :: Sl 27 1 vl l.length (l.map (·.1)) :: Sl 9 1 vw l.length (l.map fun q => .string (txt q.2)) :: (Bl l ++ L)), H, ?_⟩
      (repeat with_reducible (first | refine Red.to ?_ | (refine is_tload ?_; (first | refine tk_load (fun _ H => H) rfl ?_ | refine tk_load (fun _ H => H.up1) rfl ?_ | refine tk_load (fun _ H => H.up2) rfl ?_ | refine tk_load (fun _ H => H.up3) rfl ?_))))
      refine tk_idx H.up1.rd (fun w h => St.rd h.up1) (by simp) hql ?_
      refine tk (fun w h => run_str (Bl_rd h.drop.drop.drop hq)) ?_
      (repeat with_reducible (first | refine Red.to ?_ | (refine is_rload ?_; (first | refine rv_load H rfl ?_ | refine rv_load H.up1 rfl ?_ | refine rv_load H.up2 rfl ?_ | refine rv_load H.up3 rfl ?_ | refine rv_load H.up4 rfl ?_))))
      first | refine keep_same (H) ?_ | refine ⟨H, ?_⟩
      refine tp_idx H.up2.rd (by simp) hqw ?_
      first | refine keep_same (H) ?_ | refine ⟨H, ?_⟩
      refine tp_neq_s ?_
      rw [eql_txt, decide_eq_true rfl]
      (repeat (first | (with_reducible (first | refine Red.to ?_ | (refine is_rload ?_; (first | refine rv_load H rfl ?_ | refine rv_load H.up1 rfl ?_ | refine rv_load H.up2 rfl ?_ | refine rv_load H.up3 rfl ?_ | refine rv_load H.up4 rfl ?_)) | (refine is_tload ?_; (first | refine tk_load (fun _ H => H) rfl ?_ | refine tk_load (fun _ H => H.up1) rfl ?_ | refine tk_load (fun _ H => H.up2) rfl ?_ | refine tk_load (fun _ H => H.up3) rfl ?_)))) | (refine Share.mk ?_) | (intro _) | (simp only [List.getD_cons_zero, List.getD_cons_succ, Bool.not_true])))
      rw [i64_small (by omega) (by omega)]
      exact hkk _ _ ⟨i + 1, by simp, by omega, H⟩ (by simp; omega)
    · exact hJ _ _ ⟨rfl, H⟩

theorem rBytes_len (e : Nat) (bs : List UInt8) (at_ : Nat) (most : Int) : (rBytes e bs at_ most).1.length ≤ 65536 := by
  unfold rBytes
  split
  · simp
  · split
    · simp
    · rename_i h
      have h : rBytesE bs at_ most = 0 := by simpa using h
      unfold rBytesE at h
      split at h
      · omega
      · split at h
        · omega
        · simp only [List.length_take]; omega
theorem reads_spec {p r kb : Nat} {e at_ : Nat} {bs : List UInt8} {l : List (Value × List UInt8)} {kd : Int} {tw : Bool} {vv : Nat} {nn : Int} {bval : Value}
    (hv : vv < 18446744073709551616) (hn : -9223372036854775808 ≤ nn ∧ nn < 9223372036854775808) (hl : l.length ≤ 3999999999999) (H : St W w (Rr p e bs at_ :: Rf r e bs at_ :: Bk kb l :: L))
    (k : ∀ (e' at' : Nat) l' w', l'.length ≤ l.length + 1 → (∀ q ∈ l', q ∈ l ∨ q.2.length ≤ 65536) → St W w' (Rr p e' bs at' :: Rf r e' bs at' :: Bk kb l' :: L) → K (.bool true) w') :
    FCall Try.prog Fn.sluicelaw07_reads #[.pointer (some ⟨p, 0, none⟩), .pointer (some ⟨r, 0, none⟩), .agg #[.int .i64 kd, .bool tw, .int .u64 vv, .int .i64 nn, bval], .pointer (some ⟨kb, 0, none⟩)] w K X := by
  refine sluicelaw07_reads_call ?_
  unfold Sh.sluicelaw07_reads
  refine rv_box (c := [.int .i64 kd, .bool tw, .int .u64 vv, .int .i64 nn, bval]) H rfl ?_
  clear H
  intro bx w1 H
  refine share_of (fun vs w => vs = [] ∧ ∃ (e' at' : Nat) (l' : List (Value × List UInt8)), l'.length ≤ l.length + 1 ∧ (∀ q ∈ l', q ∈ l ∨ q.2.length ≤ 65536) ∧ St W w (Rr p e' bs at' :: Rf r e' bs at' :: Bk kb l' :: L)) ?_ ?_
  · clear H
    rintro vs w ⟨rfl, e', at', l', hl1, hl2, H⟩ σ
    have H0 := H.drew
    obtain ⟨h1, h2, g, off, c, cur, h3, h4, h5, H⟩ := Rf.o H.drew.up1
    refine ⟨fun w => St W w (cells r 75 [.slice (some ⟨g, off, none⟩) (bs.length - at' : Nat) c, .int .i64 at', .int .i64 e'] :: cells g 5 cur :: Rr p e' bs at' :: Bk kb l' :: L), H, ?_⟩
    (repeat with_reducible (first | refine Red.to ?_ | (refine is_tload ?_; (first | refine tk_load (fun _ H => H) rfl ?_ | refine tk_load (fun _ H => H.up1) rfl ?_ | refine tk_load (fun _ H => H.up2) rfl ?_ | refine tk_load (fun _ H => H.up3) rfl ?_))))
    refine RAt_spec H.up2 ?_
    first | refine keep_same (H) ?_ | refine ⟨H, ?_⟩
    (repeat with_reducible (first | refine Red.to ?_ | (refine is_tload ?_; (first | refine tk_load (fun _ H => H) rfl ?_ | refine tk_load (fun _ H => H.up1) rfl ?_ | refine tk_load (fun _ H => H.up2) rfl ?_ | refine tk_load (fun _ H => H.up3) rfl ?_))))
    rw [beq_self_eq_true]
    (repeat with_reducible (first | refine Red.to ?_ | (refine is_tload ?_; (first | refine tk_load (fun _ H => H) rfl ?_ | refine tk_load (fun _ H => H.up1) rfl ?_ | refine tk_load (fun _ H => H.up2) rfl ?_ | refine tk_load (fun _ H => H.up3) rfl ?_))))
    refine RErr_spec H.up2 ?_
    first | refine keep_same (H) ?_ | refine ⟨H, ?_⟩
    (repeat with_reducible (first | refine Red.to ?_ | (refine is_tload ?_; (first | refine tk_load (fun _ H => H) rfl ?_ | refine tk_load (fun _ H => H.up1) rfl ?_ | refine tk_load (fun _ H => H.up2) rfl ?_ | refine tk_load (fun _ H => H.up3) rfl ?_))))
    rw [beq_self_eq_true]
    exact k e' at' l' _ hl1 hl2 H0
  · intro J hJ
    have same : ∀ w, St W w (Rr p e bs at_ :: Rf r e bs at_ :: Bk kb l :: L) → J [] w := fun w H => hJ _ _ ⟨rfl, e, at_, l, by omega, fun q h => .inl h, H⟩
    (repeat with_reducible (first | refine Red.to ?_ | (refine is_rload ?_; (first | refine rv_load H rfl ?_ | refine rv_load H.up1 rfl ?_ | refine rv_load H.up2 rfl ?_ | refine rv_load H.up3 rfl ?_ | refine rv_load H.up4 rfl ?_))))
    refine cond_split (fun h => ?_) (fun h => ?_)
    · refine ⟨fun w => St W w [cells bx 37 [.int .i64 kd, .bool tw, .int .u64 vv, .int .i64 nn, bval]], St.head H.drew, ?_⟩
      (repeat with_reducible (first | refine Red.to ?_ | (refine is_tload ?_; (first | refine tk_load (fun _ H => H) rfl ?_ | refine tk_load (fun _ H => H.up1) rfl ?_ | refine tk_load (fun _ H => H.up2) rfl ?_ | refine tk_load (fun _ H => H.up3) rfl ?_))))
      refine RNum_spec (most := vv) H.drew.up1 ?_
      intro w2 H
      first | refine keep_same (St.head H.up1) ?_ | refine ⟨St.head H.up1, ?_⟩
      refine RfNum_spec (most := vv) H.up2 ?_
      intro w3 H
      (repeat with_reducible (first | refine Red.to ?_ | (refine is_rload ?_; (first | refine rv_load H rfl ?_ | refine rv_load H.up1 rfl ?_ | refine rv_load H.up2 rfl ?_ | refine rv_load H.up3 rfl ?_ | refine rv_load H.up4 rfl ?_))))
      rw [bne_self_eq_false]
      (repeat with_reducible (first | refine Red.to ?_ | (refine is_rload ?_; (first | refine rv_load H rfl ?_ | refine rv_load H.up1 rfl ?_ | refine rv_load H.up2 rfl ?_ | refine rv_load H.up3 rfl ?_ | refine rv_load H.up4 rfl ?_))))
      exact hJ _ _ ⟨rfl, _, _, l, by omega, fun q h => .inl h, H.up2.drop.up1⟩
    (repeat with_reducible (first | refine Red.to ?_ | (refine is_rload ?_; (first | refine rv_load H rfl ?_ | refine rv_load H.up1 rfl ?_ | refine rv_load H.up2 rfl ?_ | refine rv_load H.up3 rfl ?_ | refine rv_load H.up4 rfl ?_))))
    refine cond_split (fun h => ?_) (fun h => ?_)
    · refine RInt_spec H.up1 ?_
      intro w2 H
      refine RfInt_spec H.up2 ?_
      intro w3 H
      (repeat with_reducible (first | refine Red.to ?_ | (refine is_rload ?_; (first | refine rv_load H rfl ?_ | refine rv_load H.up1 rfl ?_ | refine rv_load H.up2 rfl ?_ | refine rv_load H.up3 rfl ?_ | refine rv_load H.up4 rfl ?_))))
      rw [bne_self_eq_false]
      (repeat with_reducible (first | refine Red.to ?_ | (refine is_rload ?_; (first | refine rv_load H rfl ?_ | refine rv_load H.up1 rfl ?_ | refine rv_load H.up2 rfl ?_ | refine rv_load H.up3 rfl ?_ | refine rv_load H.up4 rfl ?_))))
      exact hJ _ _ ⟨rfl, _, _, l, by omega, fun q h => .inl h, H.up2.drop.up1⟩
    (repeat with_reducible (first | refine Red.to ?_ | (refine is_rload ?_; (first | refine rv_load H rfl ?_ | refine rv_load H.up1 rfl ?_ | refine rv_load H.up2 rfl ?_ | refine rv_load H.up3 rfl ?_ | refine rv_load H.up4 rfl ?_))))
    refine cond_split (fun h => ?_) (fun h => ?_)
    · refine RByte_spec H.up1 ?_
      intro w2 H
      refine RfByte_spec H.up2 ?_
      intro w3 H
      (repeat with_reducible (first | refine Red.to ?_ | (refine is_rload ?_; (first | refine rv_load H rfl ?_ | refine rv_load H.up1 rfl ?_ | refine rv_load H.up2 rfl ?_ | refine rv_load H.up3 rfl ?_ | refine rv_load H.up4 rfl ?_))))
      rw [bne_self_eq_false]
      (repeat with_reducible (first | refine Red.to ?_ | (refine is_rload ?_; (first | refine rv_load H rfl ?_ | refine rv_load H.up1 rfl ?_ | refine rv_load H.up2 rfl ?_ | refine rv_load H.up3 rfl ?_ | refine rv_load H.up4 rfl ?_))))
      exact hJ _ _ ⟨rfl, _, _, l, by omega, fun q h => .inl h, H.up2.drop.up1⟩
    (repeat with_reducible (first | refine Red.to ?_ | (refine is_rload ?_; (first | refine rv_load H rfl ?_ | refine rv_load H.up1 rfl ?_ | refine rv_load H.up2 rfl ?_ | refine rv_load H.up3 rfl ?_ | refine rv_load H.up4 rfl ?_))))
    refine cond_split (fun h => ?_) (fun h => ?_)
    · (repeat with_reducible (first | refine Red.to ?_ | (refine is_rload ?_; (first | refine rv_load H rfl ?_ | refine rv_load H.up1 rfl ?_ | refine rv_load H.up2 rfl ?_ | refine rv_load H.up3 rfl ?_ | refine rv_load H.up4 rfl ?_))))
      refine RBytes_spec hn H.up1 ?_
      intro y w2 H
      refine ⟨fun w => St W w [cells bx 37 [.int .i64 kd, .bool tw, .int .u64 vv, .int .i64 nn, bval], Bs y (rBytes e bs at_ nn).1], St.two H.drew.up2, ?_⟩
      replace H := H.drew
      (repeat with_reducible (first | refine Red.to ?_ | (refine is_tload ?_; (first | refine tk_load (fun _ H => H) rfl ?_ | refine tk_load (fun _ H => H.up1) rfl ?_ | refine tk_load (fun _ H => H.up2) rfl ?_ | refine tk_load (fun _ H => H.up3) rfl ?_))))
      refine tk (fun w h => run_str h.up1.rd) ?_
      (repeat with_reducible (first | refine Red.to ?_ | (refine is_rload ?_; (first | refine rv_load H rfl ?_ | refine rv_load H.up1 rfl ?_ | refine rv_load H.up2 rfl ?_ | refine rv_load H.up3 rfl ?_ | refine rv_load H.up4 rfl ?_))))
      first | refine keep_same (St.two H.up2) ?_ | refine ⟨St.two H.up2, ?_⟩
      refine RfBytes_spec hn H.up3 ?_
      intro y2 w3 H
      first | refine keep_same (St.two H.up2.up4) ?_ | refine ⟨St.two H.up2.up4, ?_⟩
      refine rv_str H.rd ?_
      first | refine keep_same (St.two H.up2.up4) ?_ | refine ⟨St.two H.up2.up4, ?_⟩
      refine tp_neq_s ?_
      rw [eql_txt, decide_eq_true rfl]
      (repeat (first | (with_reducible (first | refine Red.to ?_ | (refine is_rload ?_; (first | refine rv_load H rfl ?_ | refine rv_load H.up1 rfl ?_ | refine rv_load H.up2 rfl ?_ | refine rv_load H.up3 rfl ?_ | refine rv_load H.up4 rfl ?_)) | (refine is_tload ?_; (first | refine tk_load (fun _ H => H) rfl ?_ | refine tk_load (fun _ H => H.up1) rfl ?_ | refine tk_load (fun _ H => H.up2) rfl ?_ | refine tk_load (fun _ H => H.up3) rfl ?_)))) | (refine Share.mk ?_) | (intro _) | (simp only [List.getD_cons_zero, List.getD_cons_succ, Bool.not_true])))
      refine keep_spec H.drop.up4.up2 (by omega) ?_
      intro w4 H
      refine hJ _ _ ⟨rfl, _, _, l ++ [(y, (rBytes e bs at_ nn).1)], by simp, ?_, H.up3.drop.up1.up2⟩
      intro q hq
      rcases List.mem_append.1 hq with hq | hq
      · exact .inl hq
      · simp only [List.mem_singleton] at hq
        subst hq
        exact .inr (rBytes_len e bs at_ nn)
    (repeat with_reducible (first | refine Red.to ?_ | (refine is_rload ?_; (first | refine rv_load H rfl ?_ | refine rv_load H.up1 rfl ?_ | refine rv_load H.up2 rfl ?_ | refine rv_load H.up3 rfl ?_ | refine rv_load H.up4 rfl ?_))))
    refine cond_split (fun h => ?_) (fun h => ?_)
    · refine REnd_spec H.up1 ?_
      intro w2 H
      refine RfEnd_spec H.up2 ?_
      intro w3 H
      have e1 : (if (e : Int) = 0 ∧ at_ < bs.length then (32 : Int) else (e : Int)) = ((if e = 0 ∧ at_ < bs.length then 32 else e : Nat) : Int) := by
        by_cases h0 : e = 0 ∧ at_ < bs.length
        · rw [if_pos h0, if_pos (by omega)]; rfl
        · rw [if_neg h0, if_neg (by omega)]
      rw [e1] at H
      exact hJ _ _ ⟨rfl, _, _, l, by omega, fun q h => .inl h, H.up2.drop.up1⟩
    · exact same _ H.drop
end
end Go.Proofs.Ytpfbpjoknlcbkaa
