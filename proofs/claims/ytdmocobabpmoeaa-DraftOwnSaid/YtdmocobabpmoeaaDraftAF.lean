/-
  DraftOwn: the book's loops: marks written, lists made longer, marks looked at.
-/
import Derived.Test.YtdmocobabpmoeaaDraftAE
namespace Go.Proofs.Ytdmocobabpmoeaa
open Go.Vc Go.Sep Go.Ops
set_option linter.unusedVariables false
set_option linter.unusedSectionVars false
set_option linter.unusedSimpArgs false

/-- list number i0 + k holds its marks -/
def Std (row : Int → List Value) (its : List It) : Prop := ∀ i q, its[i]? = some q → q.2 = marks row i q.2.length
def OkR (s : Nat) (its : List It) : Prop := ∀ q ∈ its, RowsOk s q
def hd (its : List It) : List Value := its.map fun q => q.1
def ln (its : List It) : List Nat := its.map fun q => q.2.length
theorem hd_len (its : List It) : (hd its).length = its.length := by simp [hd]
theorem LLs_append (e s : Nat) (a b : List It) : LLs e s (a ++ b) = LLs e s a ++ LLs e s b := by simp [LLs]
theorem OkR.left {s : Nat} {a b : List It} (h : OkR s (a ++ b)) : OkR s a := fun q hq => h q (List.mem_append_left _ hq)
theorem OkR.right {s : Nat} {a b : List It} (h : OkR s (a ++ b)) : OkR s b := fun q hq => h q (List.mem_append_right _ hq)
theorem Std.snoc {row : Int → List Value} {a : List It} {q : It} (h : Std row a) (hq : q.2 = marks row a.length q.2.length) : Std row (a ++ [q]) := by
  intro i p hi
  by_cases hlt : i < a.length
  · rw [List.getElem?_append_left hlt] at hi
    exact h i p hi
  · rw [List.getElem?_append_right (by omega)] at hi
    have : i - a.length = 0 := by
      have := (List.getElem?_eq_some_iff.1 hi).1
      simp at this
      omega
    rw [this, List.getElem?_cons_zero, Option.some.injEq] at hi
    subst hi
    have : i = a.length := by omega
    rw [this]
    exact hq
theorem marks_one {row : Int → List Value} {s : Nat} (hrow : ∀ i, (row i).length = s ∧ ∀ u ∈ row i, u.oneCell' = true) (i n : Nat) : ∀ r ∈ marks row i n, r.length = s ∧ ∀ u ∈ r, u.oneCell' = true := by
  intro r hr
  obtain ⟨j, _, rfl⟩ := List.mem_map.1 hr
  exact hrow _
section
variable {W w : World} {M : List HProp} {K : Value → World → Prop} {KU : World → Prop} {X : XPost}
theorem hd_get {a b : List It} {q : It} : (hd (a ++ q :: b))[a.length]? = some q.1 := by simp [hd]
theorem rv_idx' {t e b : Nat} {z : Value} [TSlice Try.prog t e 1 b z] [TCell Try.prog e] {v : Value} {n i : Nat} {cs : List Value} {u : Value} (R : Rd w v n cs) (hl : cs.length = n) (hi : cs[i]? = some u) (hk : K u w) {X0 : XPost} :
    RunV Try.prog (Instr.indexAt t v (.int .i64 (i : Nat))) w (fun p w => RunV Try.prog (Instr.loadAt e p) w K X) X0 := by
  have hin : i < n := by rw [← hl]; exact (List.getElem?_eq_some_iff.1 hi).1
  rcases R with ⟨rfl, rfl, _⟩ | ⟨g, off, cap, rfl, hn, hc⟩
  · omega
  · refine rv_index (by omega) (by omega) ?_
    have := hc i u hi
    refine rv (Ops.run_load (by simpa using this)) hk
theorem markF {t u e s b1 b2 fi fo kb : Nat} {z1 z2 v : Value} {bc : List Value} {its : List It} [TSlice Try.prog t u 1 b1 z1] [TSlice Try.prog u e s b2 z2] [TCell Try.prog u] [TCell Try.prog t] [TAgg Try.prog e s] [TField Try.prog 51 fi fo] {row : Int → List Value}
    (hrow : ∀ i, (row i).length = s ∧ ∀ u ∈ row i, u.oneCell' = true) (hbuild : ∀ i w, (Instr.build e #[(0, .int .i64 i)]).run Try.prog w = .ok (.agg (row i).toArray) w) {E : World → Prop}
    (hits : OkR s its) (hl : its.length ≤ 1000) (hc : bc[fo]? = some v) (H : St W w (cells kb 51 bc :: Sl u 1 v its.length (hd its) :: (LLs e s its ++ M)))
    (hJ : ∀ its' w', hd its' = hd its → ln its' = ln its → OkR s its' → Std row its' → St W w' (cells kb 51 bc :: Sl u 1 v its'.length (hd its') :: (LLs e s its' ++ M)) → E w') :
    RunV Try.prog (nilc (.pointer (some ⟨kb, 0, none⟩))) w (fun x23 w_267 =>
      RunV Try.prog (Instr.fieldAt 51 x23 fi) w_267 (fun x24 w_269 =>
      RunV Try.prog (Instr.loadAt t x24) w_269 (fun x25 w_271 =>
      RunV Try.prog (Builtin.len_ #[t] 3 #[x25]) w_271 (fun x26 w_273 =>
      FLoop (fun vs_274 w_275 k_276 =>
      ∀ σ_274 : Env, RunV Try.prog (bin BinOp.lss 3 false false (vs_274.getD 0 undef) x26) w_275 (fun x28 w_278 =>
      Cond x28 (Share (fun vs_279 w_280 =>
      ∀ σ_279 : Env, RunV Try.prog (bin BinOp.add 3 false true (vs_274.getD 0 undef) (Value.int IntKind.i64 1)) w_280 (fun x45 w_282 =>
      k_276 [x45] w_282) X) (fun J_279 =>
      RunV Try.prog (Instr.indexAt t x25 (vs_274.getD 0 undef)) w_278 (fun x30 w_284 =>
      RunV Try.prog (Instr.loadAt u x30) w_284 (fun x31 w_286 =>
      RunV Try.prog (Builtin.len_ #[u] 3 #[x31]) w_286 (fun x33 w_288 =>
      FLoop (fun vs_289 w_290 k_291 =>
      ∀ σ_289 : Env, RunV Try.prog (bin BinOp.lss 3 false false (vs_289.getD 0 undef) x33) w_290 (fun x35 w_293 =>
      Cond x35 (FCall Try.prog Fn.sluicelaw08_mark #[(vs_274.getD 0 undef), (vs_289.getD 0 undef)] w_293 (fun x41 w_295 =>
      RunV Try.prog (Instr.build e #[(0, x41)]) w_295 (fun x42 w_297 =>
      RunV Try.prog (Instr.indexAt u x31 (vs_289.getD 0 undef)) w_297 (fun x43 w_299 =>
      RunU Try.prog (Instr.storeAt e x43 x42) w_299 (fun w_300 =>
      RunV Try.prog (bin BinOp.add 3 false true (vs_289.getD 0 undef) (Value.int IntKind.i64 1)) w_300 (fun x44 w_302 =>
      k_291 [x44] w_302) X) X) X) X) X) (J_279 [] w_293)) X) [(Value.int IntKind.i64 0)] w_288) X) X) X)) (E w_278)) X) [(Value.int IntKind.i64 0)] w_273) X) X) X) X := by
  (repeat with_reducible (first | refine Red.to ?_ | (refine is_rload ?_; (first | refine rv_load H rfl ?_ | refine rv_load H.up1 rfl ?_ | refine rv_load H.up2 rfl ?_ | refine rv_load H.up3 rfl ?_ | refine rv_load H.up4 rfl ?_))))
  refine rv_load H hc ?_
  refine rv_len_rd (St.rd H.up1) ?_
  refine loop_of (fun vs w => ∃ pre post, vs = [.int .i64 (pre.length : Nat)] ∧ hd (pre ++ post) = hd its ∧ ln (pre ++ post) = ln its ∧ OkR s (pre ++ post) ∧ Std row pre ∧ St W w (cells kb 51 bc :: Sl u 1 v its.length (hd its) :: (LLs e s (pre ++ post) ++ M)))
    (fun vs _ => match vs with | [.int _ i] => its.length - i.toNat | _ => 0) ⟨[], its, rfl, rfl, rfl, hits, fun i q h => by simp at h, H⟩ ?_
  clear H
  rintro vs w kk ⟨pre, post, rfl, hh, hn, hok, hstd, H⟩ hkk σ
  simp only [List.getD_cons_zero, List.getD_cons_succ]
  (repeat with_reducible (first | refine Red.to ?_ | (refine is_rload ?_; (first | refine rv_load H rfl ?_ | refine rv_load H.up1 rfl ?_ | refine rv_load H.up2 rfl ?_ | refine rv_load H.up3 rfl ?_ | refine rv_load H.up4 rfl ?_))))
  have hln : its.length = pre.length + post.length := by
    have := congrArg List.length hh
    rw [hd_len, hd_len, List.length_append] at this
    omega
  refine cond_split (fun h => ?_) (fun h => ?_)
  · have h : pre.length < its.length := by have := of_decide_eq_true h; omega
    obtain ⟨q, post', rfl⟩ : ∃ q post', post = q :: post' := by
      cases post with
      | nil => simp at hln; omega
      | cons q r => exact ⟨q, r, rfl⟩
    have hq : (hd its)[pre.length]? = some q.1 := by rw [← hh]; exact hd_get
    obtain ⟨hq1, hq2⟩ := hok q (by simp)
    refine share_of (fun vs w => vs = [] ∧ ∃ q' : It, q'.1 = q.1 ∧ q'.2.length = q.2.length ∧ RowsOk s q' ∧ q'.2 = marks row pre.length q'.2.length ∧ St W w (cells kb 51 bc :: Sl u 1 v its.length (hd its) :: (LLs e s (pre ++ q' :: post') ++ M))) ?_ ?_
    · clear H
      rintro vs w ⟨rfl, q', e1, e2, hq', hm, H⟩ σ
      (repeat with_reducible (first | refine Red.to ?_ | (refine is_rload ?_; (first | refine rv_load H rfl ?_ | refine rv_load H.up1 rfl ?_ | refine rv_load H.up2 rfl ?_ | refine rv_load H.up3 rfl ?_ | refine rv_load H.up4 rfl ?_))))
      rw [i64_small (by omega) (by omega)]
      refine hkk _ _ ⟨pre ++ [q'], post', by simp, ?_, ?_, ?_, hstd.snoc hm, ?_⟩ (by simp; omega)
      · rw [← hh]; simp [hd, e1]
      · rw [← hn]; simp [ln, e2]
      · intro p hp
        simp only [List.append_assoc, List.mem_append, List.mem_cons, List.not_mem_nil, or_false, false_or] at hp
        rcases hp with hp | rfl | hp
        · exact hok p (by simp [hp])
        · exact hq'
        · exact hok p (by simp [hp])
      · simpa using H
    · intro J2 hJ2
      have H : St W w (Sl e s q.1 q.2.length q.2.flatten :: cells kb 51 bc :: Sl u 1 v its.length (hd its) :: (LLs e s pre ++ (LLs e s post' ++ M))) := by
        have e : LLs e s (pre ++ q :: post') ++ M = LLs e s pre ++ Sl e s q.1 q.2.length q.2.flatten :: (LLs e s post' ++ M) := by simp [LLs]
        rw [e] at H
        exact (H.perm ((List.perm_middle.cons _).cons _)).up2
      refine rv_idx' H.up2.rd (hd_len its) hq ?_
      refine rv_len_rd H.rd ?_
      refine loop_of (fun vs w => ∃ (j : Nat), vs = [.int .i64 j] ∧ j ≤ q.2.length ∧ St W w (Sl e s q.1 q.2.length (marks row pre.length j ++ q.2.drop j).flatten :: cells kb 51 bc :: Sl u 1 v its.length (hd its) :: (LLs e s pre ++ (LLs e s post' ++ M))))
        (fun vs _ => match vs with | [.int _ i] => q.2.length - i.toNat | _ => 0) ⟨0, rfl, by omega, by simpa [marks] using H⟩ ?_
      clear H
      rintro vs w kk2 ⟨j, rfl, hj, H⟩ hkk2 σ
      simp only [List.getD_cons_zero, List.getD_cons_succ]
      (repeat with_reducible (first | refine Red.to ?_ | (refine is_rload ?_; (first | refine rv_load H rfl ?_ | refine rv_load H.up1 rfl ?_ | refine rv_load H.up2 rfl ?_ | refine rv_load H.up3 rfl ?_ | refine rv_load H.up4 rfl ?_))))
      have hall : ∀ r ∈ marks row pre.length j ++ q.2.drop j, r.length = s ∧ ∀ u ∈ r, u.oneCell' = true := by
        intro r hr
        rcases List.mem_append.1 hr with hr | hr
        · exact marks_one hrow _ _ r hr
        · exact hq1 r (List.mem_of_mem_drop hr)
      have hlen : (marks row pre.length j ++ q.2.drop j).length = q.2.length := by rw [List.length_append, marks_len, List.length_drop]; omega
      refine cond_split (fun h => ?_) (fun h => ?_)
      · have hj2 : j < q.2.length := by have := of_decide_eq_true h; omega
        refine mark_spec (by omega) (by omega) ?_
        refine rv (hbuild _ _) ?_
        rw [← hlen] at H
        refine rv_row_set (u := u) H (fun r hr => (hall r hr).1) (by omega) (hrow _).1 (hrow _).2 ?_
        clear H
        intro w1 H
        (repeat with_reducible (first | refine Red.to ?_ | (refine is_rload ?_; (first | refine rv_load H rfl ?_ | refine rv_load H.up1 rfl ?_ | refine rv_load H.up2 rfl ?_ | refine rv_load H.up3 rfl ?_ | refine rv_load H.up4 rfl ?_))))
        rw [i64_small (by omega) (by omega)]
        refine hkk2 _ _ ⟨j + 1, rfl, by omega, ?_⟩ (by simp; omega)
        rw [List.length_set, hlen] at H
        have e2 : (marks row pre.length j ++ q.2.drop j).set j (row (markI pre.length j)) = marks row pre.length (j + 1) ++ q.2.drop (j + 1) := by
          have e3 : q.2.drop j = q.2[j] :: q.2.drop (j + 1) := List.drop_eq_getElem_cons hj2
          rw [List.set_append_right _ _ (by rw [marks_len]; omega), marks_len, Nat.sub_self, e3, List.set_cons_zero, marks_succ, List.append_assoc]
          rfl
        rw [e2] at H
        exact H
      · have hj2 : j = q.2.length := by have := of_decide_eq_false h; omega
        subst hj2
        rw [List.drop_length, List.append_nil] at H
        refine hJ2 _ _ ⟨rfl, (q.1, marks row pre.length q.2.length), rfl, marks_len _ _ _, ⟨marks_one hrow _ _, by rw [marks_len]; exact hq2⟩, by rw [marks_len], ?_⟩
        have e : LLs e s (pre ++ (q.1, marks row pre.length q.2.length) :: post') ++ M = LLs e s pre ++ Sl e s q.1 q.2.length (marks row pre.length q.2.length).flatten :: (LLs e s post' ++ M) := by simp [LLs, marks_len]
        rw [e]
        exact (H.dn2).perm ((List.perm_middle.symm.cons _).cons _)
  · have hp : post = [] := by
      have := of_decide_eq_false h
      exact List.eq_nil_of_length_eq_zero (by omega)
    subst hp
    rw [List.append_nil] at hh hn hok H
    refine hJ pre _ hh hn hok hstd ?_
    rw [hh, ← hd_len pre, hh, hd_len]
    exact H
theorem growF {t u e s b1 b2 fi fo kb : Nat} {z1 z2 v : Value} {bc : List Value} {its : List It} [TSlice Try.prog t u 1 b1 z1] [TSlice Try.prog u e s b2 z2] [TCell Try.prog u] [TCell Try.prog t] [TAgg Try.prog e s] [TField Try.prog 51 fi fo] {row : Int → List Value} (hb2 : b2 ≤ 1000) (hs0 : s ≤ 1000)
    (hrow : ∀ i, (row i).length = s ∧ ∀ u ∈ row i, u.oneCell' = true) (hbuild : ∀ i w, (Instr.build e #[(0, .int .i64 i)]).run Try.prog w = .ok (.agg (row i).toArray) w) {E : World → Prop}
    (hits : OkR s its) (hsm : ∀ q ∈ its, q.2.length ≤ 100) (hst : Std row its) (hl : its.length ≤ 1000) (hc : bc[fo]? = some v) (H : St W w (cells kb 51 bc :: Sl u 1 v its.length (hd its) :: (LLs e s its ++ M)))
    (hJ : ∀ its' w', its'.length = its.length → OkR s its' → Std row its' → St W w' (cells kb 51 bc :: Sl u 1 v its'.length (hd its') :: (LLs e s its' ++ M)) → E w') :
    RunV Try.prog (nilc (.pointer (some ⟨kb, 0, none⟩))) w (fun x119 w_121 =>
      RunV Try.prog (Instr.fieldAt 51 x119 fi) w_121 (fun x120 w_123 =>
      RunV Try.prog (Instr.loadAt t x120) w_123 (fun x121 w_125 =>
      RunV Try.prog (Builtin.len_ #[t] 3 #[x121]) w_125 (fun x122 w_127 =>
      FLoop (fun vs_128 w_129 k_130 =>
      ∀ σ_128 : Env, RunV Try.prog (bin BinOp.lss 3 false false (vs_128.getD 0 undef) x122) w_129 (fun x124 w_132 =>
      Cond x124 (RunV Try.prog (Instr.indexAt t x121 (vs_128.getD 0 undef)) w_132 (fun x126 w_134 =>
      RunV Try.prog (Instr.loadAt u x126) w_134 (fun x127 w_136 =>
      ∃ S : World → Prop, S (World.drew w_136) ∧ TakeP Try.prog (nilc (.pointer (some ⟨kb, 0, none⟩))) fun x129 =>
      TakeP Try.prog (Instr.fieldAt 51 x129 fi) fun x130 =>
      TakeP Try.prog (Builtin.len_ #[u] 3 #[x127]) fun x136 =>
      Take Try.prog (Instr.loadAt t x130) S fun x131 =>
      FCall Try.prog Fn.sluicelaw08_mark #[(vs_128.getD 0 undef), x136] (World.drew w_136) (fun x137 w_142 =>
      Keep S w_142 (fun S_143 =>
      TakeP Try.prog (Instr.build e #[(0, x137)]) fun x138 =>
      RunV Try.prog (Instr.buildSlice u 1 #[(0, x138)]) w_142 (fun x139 w_146 =>
      Keep S_143 w_146 (fun S_147 =>
      RunV Try.prog (Builtin.append_ #[u, u] u #[x127, x139]) w_146 (fun x140 w_149 =>
      Keep S_147 w_149 (fun S_150 =>
      TakeP Try.prog (Instr.indexAt t x131 (vs_128.getD 0 undef)) fun x141 =>
      RunU Try.prog (Instr.storeAt u x141 x140) w_149 (fun w_152 =>
      RunV Try.prog (bin BinOp.add 3 false true (vs_128.getD 0 undef) (Value.int IntKind.i64 1)) w_152 (fun x142 w_154 =>
      k_130 [x142] w_154) X) X)) X)) X)) X) X) X) (E w_132)) X) [(Value.int IntKind.i64 0)] w_127) X) X) X) X := by
  (repeat with_reducible (first | refine Red.to ?_ | (refine is_rload ?_; (first | refine rv_load H rfl ?_ | refine rv_load H.up1 rfl ?_ | refine rv_load H.up2 rfl ?_ | refine rv_load H.up3 rfl ?_ | refine rv_load H.up4 rfl ?_))))
  refine rv_load H hc ?_
  refine rv_len_rd (St.rd H.up1) ?_
  refine loop_of (fun vs w => ∃ pre post, vs = [.int .i64 (pre.length : Nat)] ∧ (pre ++ post).length = its.length ∧ OkR s (pre ++ post) ∧ (∀ q ∈ post, q.2.length ≤ 100) ∧ Std row (pre ++ post) ∧ St W w (cells kb 51 bc :: Sl u 1 v its.length (hd (pre ++ post)) :: (LLs e s (pre ++ post) ++ M)))
    (fun vs _ => match vs with | [.int _ i] => its.length - i.toNat | _ => 0) ⟨[], its, rfl, rfl, hits, hsm, hst, H⟩ ?_
  clear H
  rintro vs w kk ⟨pre, post, rfl, hn, hok, hpo, hstd, H⟩ hkk σ
  simp only [List.getD_cons_zero, List.getD_cons_succ]
  (repeat with_reducible (first | refine Red.to ?_ | (refine is_rload ?_; (first | refine rv_load H rfl ?_ | refine rv_load H.up1 rfl ?_ | refine rv_load H.up2 rfl ?_ | refine rv_load H.up3 rfl ?_ | refine rv_load H.up4 rfl ?_))))
  have hln := hn
  rw [List.length_append] at hln
  refine cond_split (fun h => ?_) (fun h => ?_)
  · have h : pre.length < its.length := by have := of_decide_eq_true h; omega
    obtain ⟨q, post', rfl⟩ : ∃ q post', post = q :: post' := by
      cases post with
      | nil => simp at hln; omega
      | cons q r => exact ⟨q, r, rfl⟩
    have hq : (hd (pre ++ q :: post'))[pre.length]? = some q.1 := hd_get
    obtain ⟨hq1, hq2⟩ := hok q (by simp)
    have hq3 := hpo q (by simp)
    have hqm := hstd pre.length q (by simp)
    have hhl : (hd (pre ++ q :: post')).length = its.length := by rw [hd_len, hn]
    have H : St W w (Sl e s q.1 q.2.length q.2.flatten :: cells kb 51 bc :: Sl u 1 v its.length (hd (pre ++ q :: post')) :: (LLs e s pre ++ (LLs e s post' ++ M))) := by
      have e : LLs e s (pre ++ q :: post') ++ M = LLs e s pre ++ Sl e s q.1 q.2.length q.2.flatten :: (LLs e s post' ++ M) := by simp [LLs]
      rw [e] at H
      exact (H.perm ((List.perm_middle.cons _).cons _)).up2
    refine rv_idx' H.up2.rd hhl hq ?_
    replace H := H.drew
    refine ⟨fun w => St W w [cells kb 51 bc], St.head H.up1, ?_⟩
    (repeat with_reducible (first | refine Red.to ?_ | (refine is_tload ?_; (first | refine tk_load (fun _ H => H) rfl ?_ | refine tk_load (fun _ H => H.up1) rfl ?_ | refine tk_load (fun _ H => H.up2) rfl ?_ | refine tk_load (fun _ H => H.up3) rfl ?_))))
    refine tp_len_rd H.rd ?_
    refine tk_load (fun _ h => h) hc ?_
    refine mark_spec (by omega) (by omega) ?_
    first | refine keep_same (St.head H.up1) ?_ | refine ⟨St.head H.up1, ?_⟩
    refine tp (fun w => hbuild _ w) ?_
    refine rv_build1 H (by simpa [Value.cells] using (hrow _).1) (by omega) ?_
    clear H
    intro g w1 H
    first | refine keep_same (St.head H.up2) ?_ | refine ⟨St.head H.up2, ?_⟩
    refine rv_append_cells (n := q.2.length) (m := 1) H (by simpa [Value.cells] using (hrow _).1) (by simpa [Value.cells] using (hrow _).2) (by unfold maxLen; omega) ?_ ?_
    · have : (q.2.length + 1) * b2 ≤ 101 * 1000 := Nat.mul_le_mul (by omega) hb2
      omega
    clear H
    intro v' w2 H _
    have hone := sl_one H
    first | refine keep_same (St.head H.up1) ?_ | refine ⟨St.head H.up1, ?_⟩
    refine rv_cell_set H.up2 h hone ?_
    intro p hp
    refine hp ?_
    clear H
    intro w3 H
    (repeat with_reducible (first | refine Red.to ?_ | (refine is_rload ?_; (first | refine rv_load H rfl ?_ | refine rv_load H.up1 rfl ?_ | refine rv_load H.up2 rfl ?_ | refine rv_load H.up3 rfl ?_ | refine rv_load H.up4 rfl ?_))))
    rw [i64_small (by omega) (by omega)]
    have hrows : q.2.flatten ++ (Value.agg (row (markI pre.length q.2.length)).toArray).cells.toList = (marks row pre.length (q.2.length + 1)).flatten := by
      rw [marks_succ, ← hqm]
      simp [Value.cells]
    rw [hrows] at H
    refine hkk _ _ ⟨pre ++ [(v', marks row pre.length (q.2.length + 1))], post', by simp, by simp; simp at hn; omega, ?_, fun q hq => hpo q (by simp [hq]), ?_, ?_⟩ (by simp; omega)
    · intro p hp
      simp only [List.append_assoc, List.mem_append, List.mem_cons, List.not_mem_nil, or_false, false_or] at hp
      rcases hp with hp | rfl | hp
      · exact hok p (by simp [hp])
      · exact ⟨marks_one hrow _ _, by simp only [marks_len]; omega⟩
      · exact hok p (by simp [hp])
    · intro i p hi
      rw [List.append_assoc, List.singleton_append] at hi
      by_cases hip : i = pre.length
      · subst hip
        rw [List.getElem?_append_right (by omega), Nat.sub_self, List.getElem?_cons_zero, Option.some.injEq] at hi
        subst hi
        simp only [marks_len]
      · refine hstd i p ?_
        by_cases hlt : i < pre.length
        · rw [List.getElem?_append_left hlt] at hi ⊢
          exact hi
        · rw [List.getElem?_append_right (by omega)] at hi ⊢
          obtain ⟨m, hm⟩ : ∃ m, i - pre.length = m + 1 := ⟨i - pre.length - 1, by omega⟩
          rw [hm, List.getElem?_cons_succ] at hi ⊢
          exact hi
    · have e1 : (hd (pre ++ q :: post')).set pre.length v' = hd (pre ++ [(v', marks row pre.length (q.2.length + 1))] ++ post') := by
        simp only [hd, List.map_append, List.map_cons, List.map_nil, List.append_assoc, List.singleton_append]
        rw [List.set_append_right _ _ (by simp), List.length_map, Nat.sub_self, List.set_cons_zero]
      have e : LLs e s (pre ++ [(v', marks row pre.length (q.2.length + 1))] ++ post') ++ M = LLs e s pre ++ Sl e s v' (q.2.length + 1) (marks row pre.length (q.2.length + 1)).flatten :: (LLs e s post' ++ M) := by simp [LLs, marks_len]
      rw [e, ← e1]
      exact H.up2.perm ((List.perm_middle.symm.cons _).cons _)
  · have hp : post = [] := by
      have := of_decide_eq_false h
      exact List.eq_nil_of_length_eq_zero (by omega)
    subst hp
    rw [List.append_nil] at hn hok hstd H
    refine hJ pre _ hn hok hstd ?_
    rw [hn]
    exact H
theorem standF {t u e s b1 b2 fi fo kb : Nat} {z1 z2 v : Value} {bc : List Value} {its : List It} [TSlice Try.prog t u 1 b1 z1] [TSlice Try.prog u e s b2 z2] [TCell Try.prog u] [TCell Try.prog t] [TAgg Try.prog e s] [TField Try.prog 51 fi fo] {row : Int → List Value}
    (hrow : ∀ i, (row i).length = s ∧ ∀ u ∈ row i, u.oneCell' = true) (hbuild : ∀ i w, (Instr.build e #[(0, .int .i64 i)]).run Try.prog w = .ok (.agg (row i).toArray) w)
    (hne : ∀ i w, (bin BinOp.neq e false false (.agg (row i).toArray) (.agg (row i).toArray)).run Try.prog w = .ok (.bool false) w) {E : World → Prop}
    (hits : OkR s its) (hst : Std row its) (hl : its.length ≤ 1000) (hc : bc[fo]? = some v) (H : St W w (cells kb 51 bc :: Sl u 1 v its.length (hd its) :: (LLs e s its ++ M)))
    (hJ : ∀ w', St W w' (cells kb 51 bc :: Sl u 1 v its.length (hd its) :: (LLs e s its ++ M)) → E w') :
    RunV Try.prog (nilc (.pointer (some ⟨kb, 0, none⟩))) w (fun x16 w_121 =>
      RunV Try.prog (Instr.fieldAt 51 x16 fi) w_121 (fun x17 w_123 =>
      RunV Try.prog (Instr.loadAt t x17) w_123 (fun x18 w_125 =>
      RunV Try.prog (Builtin.len_ #[t] 3 #[x18]) w_125 (fun x19 w_127 =>
      FLoop (fun vs_128 w_129 k_130 =>
      ∀ σ_128 : Env, RunV Try.prog (bin BinOp.lss 3 false false (vs_128.getD 0 undef) x19) w_129 (fun x21 w_132 =>
      Cond x21 (Share (fun vs_133 w_134 =>
      ∀ σ_133 : Env, RunV Try.prog (bin BinOp.add 3 false true (vs_128.getD 0 undef) (Value.int IntKind.i64 1)) w_134 (fun x40 w_136 =>
      k_130 [x40] w_136) X) (fun J_133 =>
      RunV Try.prog (Instr.indexAt t x18 (vs_128.getD 0 undef)) w_132 (fun x23 w_138 =>
      RunV Try.prog (Instr.loadAt u x23) w_138 (fun x24 w_140 =>
      RunV Try.prog (Builtin.len_ #[u] 3 #[x24]) w_140 (fun x26 w_142 =>
      FLoop (fun vs_143 w_144 k_145 =>
      ∀ σ_143 : Env, RunV Try.prog (bin BinOp.lss 3 false false (vs_143.getD 0 undef) x26) w_144 (fun x28 w_147 =>
      Cond x28 (∃ S : World → Prop, S (World.drew w_147) ∧ TakeP Try.prog (Instr.indexAt u x24 (vs_143.getD 0 undef)) fun x32 =>
      Take Try.prog (Instr.loadAt e x32) S fun x33 =>
      FCall Try.prog Fn.sluicelaw08_mark #[(vs_128.getD 0 undef), (vs_143.getD 0 undef)] (World.drew w_147) (fun x36 w_151 =>
      Keep S w_151 (fun S_152 =>
      TakeP Try.prog (Instr.build e #[(0, x36)]) fun x37 =>
      TakeP Try.prog (bin BinOp.neq e false false x33 x37) fun x38 =>
      Cond x38 (K (Value.bool false) w_151) (RunV Try.prog (bin BinOp.add 3 false true (vs_143.getD 0 undef) (Value.int IntKind.i64 1)) w_151 (fun x39 w_156 =>
      k_145 [x39] w_156) X))) X) (J_133 [] w_147)) X) [(Value.int IntKind.i64 0)] w_142) X) X) X)) (E w_132)) X) [(Value.int IntKind.i64 0)] w_127) X) X) X) X := by
  (repeat with_reducible (first | refine Red.to ?_ | (refine is_rload ?_; (first | refine rv_load H rfl ?_ | refine rv_load H.up1 rfl ?_ | refine rv_load H.up2 rfl ?_ | refine rv_load H.up3 rfl ?_ | refine rv_load H.up4 rfl ?_))))
  refine rv_load H hc ?_
  refine rv_len_rd (St.rd H.up1) ?_
  refine loop_of (fun vs w => ∃ i : Nat, vs = [.int .i64 i] ∧ i ≤ its.length ∧ St W w (cells kb 51 bc :: Sl u 1 v its.length (hd its) :: (LLs e s its ++ M)))
    (fun vs _ => match vs with | [.int _ i] => its.length - i.toNat | _ => 0) ⟨0, rfl, by omega, H⟩ ?_
  clear H
  rintro vs w kk ⟨i, rfl, hi, H⟩ hkk σ
  simp only [List.getD_cons_zero, List.getD_cons_succ]
  (repeat with_reducible (first | refine Red.to ?_ | (refine is_rload ?_; (first | refine rv_load H rfl ?_ | refine rv_load H.up1 rfl ?_ | refine rv_load H.up2 rfl ?_ | refine rv_load H.up3 rfl ?_ | refine rv_load H.up4 rfl ?_))))
  refine cond_split (fun h => ?_) (fun h => ?_)
  · have h : i < its.length := by have := of_decide_eq_true h; omega
    obtain ⟨q, hqi⟩ : ∃ q, its[i]? = some q := ⟨_, List.getElem?_eq_getElem h⟩
    have hq : (hd its)[i]? = some q.1 := by simp [hd, hqi]
    obtain ⟨hq1, hq2⟩ := hits q (List.mem_of_getElem? hqi)
    have hqm := hst i q hqi
    have split : ∀ {w}, St W w (cells kb 51 bc :: Sl u 1 v its.length (hd its) :: (LLs e s its ++ M)) → ∃ R, St W w (Sl e s q.1 q.2.length q.2.flatten :: R) := by
      intro w H
      obtain ⟨a, b, hab⟩ := List.append_of_mem (List.mem_of_getElem? hqi)
      have e : LLs e s its ++ M = LLs e s a ++ Sl e s q.1 q.2.length q.2.flatten :: (LLs e s b ++ M) := by rw [hab]; simp [LLs]
      rw [e] at H
      exact ⟨_, (H.perm ((List.perm_middle.cons _).cons _)).up2⟩
    refine share_of (fun vs w => vs = [] ∧ St W w (cells kb 51 bc :: Sl u 1 v its.length (hd its) :: (LLs e s its ++ M))) ?_ ?_
    · clear H
      rintro vs w ⟨rfl, H⟩ σ
      (repeat with_reducible (first | refine Red.to ?_ | (refine is_rload ?_; (first | refine rv_load H rfl ?_ | refine rv_load H.up1 rfl ?_ | refine rv_load H.up2 rfl ?_ | refine rv_load H.up3 rfl ?_ | refine rv_load H.up4 rfl ?_))))
      rw [i64_small (by omega) (by omega)]
      exact hkk _ _ ⟨i + 1, rfl, by omega, H⟩ (by simp; omega)
    intro J2 hJ2
    refine rv_idx' H.up1.rd (hd_len its) hq ?_
    obtain ⟨R0, H0⟩ := split H
    refine rv_len_rd H0.rd ?_
    clear H0
    refine loop_of (fun vs w => ∃ j : Nat, vs = [.int .i64 j] ∧ j ≤ q.2.length ∧ St W w (cells kb 51 bc :: Sl u 1 v its.length (hd its) :: (LLs e s its ++ M)))
      (fun vs _ => match vs with | [.int _ i] => q.2.length - i.toNat | _ => 0) ⟨0, rfl, by omega, H⟩ ?_
    clear H
    rintro vs w kk2 ⟨j, rfl, hj, H⟩ hkk2 σ
    simp only [List.getD_cons_zero, List.getD_cons_succ]
    (repeat with_reducible (first | refine Red.to ?_ | (refine is_rload ?_; (first | refine rv_load H rfl ?_ | refine rv_load H.up1 rfl ?_ | refine rv_load H.up2 rfl ?_ | refine rv_load H.up3 rfl ?_ | refine rv_load H.up4 rfl ?_))))
    refine cond_split (fun h => ?_) (fun h => ?_)
    · have hj2 : j < q.2.length := by have := of_decide_eq_true h; omega
      obtain ⟨R0, H0⟩ := split H
      obtain ⟨g, cap, hqv⟩ : ∃ g cap, q.1 = .slice (some ⟨g, 0, none⟩) q.2.length cap := by
        rcases H0.sl_form.2 with ⟨_, h0⟩ | ⟨g, cap, h, _⟩
        · omega
        · exact ⟨g, cap, h⟩
      have hr : q.2[j]? = some (row (markI i j)) := by
        rw [hqm]
        simp [marks, hj2]
      replace H := H.drew
      refine ⟨fun w => St W w (cells kb 51 bc :: Sl u 1 v its.length (hd its) :: (LLs e s its ++ M)), H, ?_⟩
      rw [hqv]
      refine tp_index (by omega) (by omega) ?_
      have ei : 0 + ((j : Nat) : Int).toNat * s = 0 + j * s := by simp
      rw [ei]
      refine tk (fun w h => run_row (cs := row (markI i j)) (hrow _).1 (fun k x hk => ?_)) ?_
      · obtain ⟨R1, H1⟩ := split h
        rw [Nat.zero_add]
        exact H1.sl_cells hqv _ _ (flat_get (fun r hr => (hq1 r hr).1) hr hk)
      refine mark_spec (by omega) (by omega) ?_
      first | refine keep_same (H) ?_ | refine ⟨H, ?_⟩
      refine tp (fun w => hbuild _ w) ?_
      refine tp (fun w => hne _ w) ?_
      refine cond_false' ?_
      (repeat with_reducible (first | refine Red.to ?_ | (refine is_rload ?_; (first | refine rv_load H rfl ?_ | refine rv_load H.up1 rfl ?_ | refine rv_load H.up2 rfl ?_ | refine rv_load H.up3 rfl ?_ | refine rv_load H.up4 rfl ?_))))
      rw [i64_small (by omega) (by omega)]
      exact hkk2 _ _ ⟨j + 1, rfl, by omega, H⟩ (by simp; omega)
    · exact hJ2 _ _ ⟨rfl, H⟩
  · exact hJ _ H
theorem standN {t u e s b1 b2 fi fo kb : Nat} {z1 z2 v : Value} {bc : List Value} {its : List It} [TSlice Try.prog t u 1 b1 z1] [TSlice Try.prog u e s b2 z2] [TCell Try.prog u] [TCell Try.prog t] [TField Try.prog 51 fi fo] [TField Try.prog e 0 0] {row : Int → List Value}
    (hrow : ∀ i, (row i).length = s ∧ ∀ u ∈ row i, u.oneCell' = true) (hr0 : ∀ i, (row i)[0]? = some (.int .i64 i)) {E : World → Prop}
    (hits : OkR s its) (hst : Std row its) (hl : its.length ≤ 1000) (hc : bc[fo]? = some v) (H : St W w (cells kb 51 bc :: Sl u 1 v its.length (hd its) :: (LLs e s its ++ M)))
    (hJ : ∀ w', St W w' (cells kb 51 bc :: Sl u 1 v its.length (hd its) :: (LLs e s its ++ M)) → E w') :
    RunV Try.prog (nilc (.pointer (some ⟨kb, 0, none⟩))) w (fun x16 w_121 =>
      RunV Try.prog (Instr.fieldAt 51 x16 fi) w_121 (fun x17 w_123 =>
      RunV Try.prog (Instr.loadAt t x17) w_123 (fun x18 w_125 =>
      RunV Try.prog (Builtin.len_ #[t] 3 #[x18]) w_125 (fun x19 w_127 =>
      FLoop (fun vs_128 w_129 k_130 =>
      ∀ σ_128 : Env, RunV Try.prog (bin BinOp.lss 3 false false (vs_128.getD 0 undef) x19) w_129 (fun x21 w_132 =>
      Cond x21 (Share (fun vs_133 w_134 =>
      ∀ σ_133 : Env, RunV Try.prog (bin BinOp.add 3 false true (vs_128.getD 0 undef) (Value.int IntKind.i64 1)) w_134 (fun x40 w_136 =>
      k_130 [x40] w_136) X) (fun J_133 =>
      RunV Try.prog (Instr.indexAt t x18 (vs_128.getD 0 undef)) w_132 (fun x23 w_138 =>
      RunV Try.prog (Instr.loadAt u x23) w_138 (fun x24 w_140 =>
      RunV Try.prog (Builtin.len_ #[u] 3 #[x24]) w_140 (fun x26 w_142 =>
      FLoop (fun vs_143 w_144 k_145 =>
      ∀ σ_143 : Env, RunV Try.prog (bin BinOp.lss 3 false false (vs_143.getD 0 undef) x26) w_144 (fun x28 w_147 =>
      Cond x28 (∃ S : World → Prop, S (World.drew w_147) ∧ TakeP Try.prog (Instr.indexAt u x24 (vs_143.getD 0 undef)) fun x32 =>
      TakeP Try.prog (Instr.fieldAt e x32 0) fun x85 =>
      Take Try.prog (Instr.loadAt 3 x85) S fun x33 =>
      FCall Try.prog Fn.sluicelaw08_mark #[(vs_128.getD 0 undef), (vs_143.getD 0 undef)] (World.drew w_147) (fun x36 w_151 =>
      Keep S w_151 (fun S_152 =>
      TakeP Try.prog (bin BinOp.neq 3 false false x33 x36) fun x38 =>
      Cond x38 (K (Value.bool false) w_151) (RunV Try.prog (bin BinOp.add 3 false true (vs_143.getD 0 undef) (Value.int IntKind.i64 1)) w_151 (fun x39 w_156 =>
      k_145 [x39] w_156) X))) X) (J_133 [] w_147)) X) [(Value.int IntKind.i64 0)] w_142) X) X) X)) (E w_132)) X) [(Value.int IntKind.i64 0)] w_127) X) X) X) X := by
  (repeat with_reducible (first | refine Red.to ?_ | (refine is_rload ?_; (first | refine rv_load H rfl ?_ | refine rv_load H.up1 rfl ?_ | refine rv_load H.up2 rfl ?_ | refine rv_load H.up3 rfl ?_ | refine rv_load H.up4 rfl ?_))))
  refine rv_load H hc ?_
  refine rv_len_rd (St.rd H.up1) ?_
  refine loop_of (fun vs w => ∃ i : Nat, vs = [.int .i64 i] ∧ i ≤ its.length ∧ St W w (cells kb 51 bc :: Sl u 1 v its.length (hd its) :: (LLs e s its ++ M)))
    (fun vs _ => match vs with | [.int _ i] => its.length - i.toNat | _ => 0) ⟨0, rfl, by omega, H⟩ ?_
  clear H
  rintro vs w kk ⟨i, rfl, hi, H⟩ hkk σ
  simp only [List.getD_cons_zero, List.getD_cons_succ]
  (repeat with_reducible (first | refine Red.to ?_ | (refine is_rload ?_; (first | refine rv_load H rfl ?_ | refine rv_load H.up1 rfl ?_ | refine rv_load H.up2 rfl ?_ | refine rv_load H.up3 rfl ?_ | refine rv_load H.up4 rfl ?_))))
  refine cond_split (fun h => ?_) (fun h => ?_)
  · have h : i < its.length := by have := of_decide_eq_true h; omega
    obtain ⟨q, hqi⟩ : ∃ q, its[i]? = some q := ⟨_, List.getElem?_eq_getElem h⟩
    have hq : (hd its)[i]? = some q.1 := by simp [hd, hqi]
    obtain ⟨hq1, hq2⟩ := hits q (List.mem_of_getElem? hqi)
    have hqm := hst i q hqi
    have split : ∀ {w}, St W w (cells kb 51 bc :: Sl u 1 v its.length (hd its) :: (LLs e s its ++ M)) → ∃ R, St W w (Sl e s q.1 q.2.length q.2.flatten :: R) := by
      intro w H
      obtain ⟨a, b, hab⟩ := List.append_of_mem (List.mem_of_getElem? hqi)
      have e : LLs e s its ++ M = LLs e s a ++ Sl e s q.1 q.2.length q.2.flatten :: (LLs e s b ++ M) := by rw [hab]; simp [LLs]
      rw [e] at H
      exact ⟨_, (H.perm ((List.perm_middle.cons _).cons _)).up2⟩
    refine share_of (fun vs w => vs = [] ∧ St W w (cells kb 51 bc :: Sl u 1 v its.length (hd its) :: (LLs e s its ++ M))) ?_ ?_
    · clear H
      rintro vs w ⟨rfl, H⟩ σ
      (repeat with_reducible (first | refine Red.to ?_ | (refine is_rload ?_; (first | refine rv_load H rfl ?_ | refine rv_load H.up1 rfl ?_ | refine rv_load H.up2 rfl ?_ | refine rv_load H.up3 rfl ?_ | refine rv_load H.up4 rfl ?_))))
      rw [i64_small (by omega) (by omega)]
      exact hkk _ _ ⟨i + 1, rfl, by omega, H⟩ (by simp; omega)
    intro J2 hJ2
    refine rv_idx' H.up1.rd (hd_len its) hq ?_
    obtain ⟨R0, H0⟩ := split H
    refine rv_len_rd H0.rd ?_
    clear H0
    refine loop_of (fun vs w => ∃ j : Nat, vs = [.int .i64 j] ∧ j ≤ q.2.length ∧ St W w (cells kb 51 bc :: Sl u 1 v its.length (hd its) :: (LLs e s its ++ M)))
      (fun vs _ => match vs with | [.int _ i] => q.2.length - i.toNat | _ => 0) ⟨0, rfl, by omega, H⟩ ?_
    clear H
    rintro vs w kk2 ⟨j, rfl, hj, H⟩ hkk2 σ
    simp only [List.getD_cons_zero, List.getD_cons_succ]
    (repeat with_reducible (first | refine Red.to ?_ | (refine is_rload ?_; (first | refine rv_load H rfl ?_ | refine rv_load H.up1 rfl ?_ | refine rv_load H.up2 rfl ?_ | refine rv_load H.up3 rfl ?_ | refine rv_load H.up4 rfl ?_))))
    refine cond_split (fun h => ?_) (fun h => ?_)
    · have hj2 : j < q.2.length := by have := of_decide_eq_true h; omega
      obtain ⟨R0, H0⟩ := split H
      obtain ⟨g, cap, hqv⟩ : ∃ g cap, q.1 = .slice (some ⟨g, 0, none⟩) q.2.length cap := by
        rcases H0.sl_form.2 with ⟨_, h0⟩ | ⟨g, cap, h, _⟩
        · omega
        · exact ⟨g, cap, h⟩
      have hr : q.2[j]? = some (row (markI i j)) := by
        rw [hqm]
        simp [marks, hj2]
      replace H := H.drew
      refine ⟨fun w => St W w (cells kb 51 bc :: Sl u 1 v its.length (hd its) :: (LLs e s its ++ M)), H, ?_⟩
      rw [hqv]
      refine tp_index (by omega) (by omega) ?_
      (repeat with_reducible (first | refine Red.to ?_ | (refine is_tload ?_; (first | refine tk_load (fun _ H => H) rfl ?_ | refine tk_load (fun _ H => H.up1) rfl ?_ | refine tk_load (fun _ H => H.up2) rfl ?_ | refine tk_load (fun _ H => H.up3) rfl ?_))))
      refine tk (v := .int .i64 (markI i j)) (fun w h => Ops.run_load ?_) ?_
      · obtain ⟨R1, H1⟩ := split h
        have := H1.sl_cells hqv _ _ (flat_get (k := 0) (fun r hr => (hq1 r hr).1) hr (hr0 _))
        simpa using this
      refine mark_spec (by omega) (by omega) ?_
      first | refine keep_same (H) ?_ | refine ⟨H, ?_⟩
      (repeat (first | (with_reducible (first | refine Red.to ?_ | (refine is_rload ?_; (first | refine rv_load H rfl ?_ | refine rv_load H.up1 rfl ?_ | refine rv_load H.up2 rfl ?_ | refine rv_load H.up3 rfl ?_ | refine rv_load H.up4 rfl ?_)) | (refine is_tload ?_; (first | refine tk_load (fun _ H => H) rfl ?_ | refine tk_load (fun _ H => H.up1) rfl ?_ | refine tk_load (fun _ H => H.up2) rfl ?_ | refine tk_load (fun _ H => H.up3) rfl ?_)))) | (refine Share.mk ?_) | (intro _) | (simp only [List.getD_cons_zero, List.getD_cons_succ, bne_self_eq_false])))
      rw [i64_small (by omega) (by omega)]
      exact hkk2 _ _ ⟨j + 1, rfl, by omega, H⟩ (by simp; omega)
    · exact hJ2 _ _ ⟨rfl, H⟩
  · exact hJ _ H
end
end Go.Proofs.Ytdmocobabpmoeaa
