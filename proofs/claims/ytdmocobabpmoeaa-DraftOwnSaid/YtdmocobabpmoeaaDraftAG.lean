
/-
  DraftOwn: the book's write, stands and add.
-/
import Derived.Test.YtdmocobabpmoeaaDraftAF
namespace Go.Proofs.Ytdmocobabpmoeaa
open Go.Vc Go.Sep Go.Ops
set_option linter.unusedVariables false
set_option linter.unusedSectionVars false
set_option linter.unusedSimpArgs false

def rowOp (i : Int) : List Value := [.int .i64 i, .int .u64 0]
def rowConn (i : Int) : List Value := [.int .i64 i, .int .i64 0, .int .u64 0, .int .u64 0, .int .u64 0]
def rowEdge (i : Int) : List Value := [.int .i64 i, .int .i64 0, .int .i64 0, .int .i64 0, .bool false]
def rowNode (i : Int) : List Value := [.int .i64 i, .int .i64 0, .int .i64 0, .slice none 0 0, .int .u64 0, .int .u64 0, .int .u64 0, .int .u64 0, .slice none 0 0, .bool false]
theorem okOp (i : Int) : (rowOp i).length = 2 ∧ ∀ u ∈ rowOp i, u.oneCell' = true := ⟨rfl, zone rfl⟩
theorem okConn (i : Int) : (rowConn i).length = 5 ∧ ∀ u ∈ rowConn i, u.oneCell' = true := ⟨rfl, zone rfl⟩
theorem okEdge (i : Int) : (rowEdge i).length = 5 ∧ ∀ u ∈ rowEdge i, u.oneCell' = true := ⟨rfl, zone rfl⟩
theorem okNode (i : Int) : (rowNode i).length = 10 ∧ ∀ u ∈ rowNode i, u.oneCell' = true := ⟨rfl, zone rfl⟩
theorem bOp (i : Int) (w : World) : (Instr.build 61 #[(0, .int .i64 i)]).run Try.prog w = .ok (.agg (rowOp i).toArray) w := by kernel_rfl
theorem bConn (i : Int) (w : World) : (Instr.build 63 #[(0, .int .i64 i)]).run Try.prog w = .ok (.agg (rowConn i).toArray) w := by kernel_rfl
theorem bEdge (i : Int) (w : World) : (Instr.build 65 #[(0, .int .i64 i)]).run Try.prog w = .ok (.agg (rowEdge i).toArray) w := by kernel_rfl
theorem bNode (i : Int) (w : World) : (Instr.build 59 #[(0, .int .i64 i)]).run Try.prog w = .ok (.agg (rowNode i).toArray) w := by kernel_rfl
theorem nOp (i : Int) (w : World) : (bin BinOp.neq 61 false false (.agg (rowOp i).toArray) (.agg (rowOp i).toArray)).run Try.prog w = .ok (.bool false) w := by
  have h := run_nea (P := Try.prog) (t := 61) (cx := false) (cy := false) (xs := (rowOp i).toArray) (ys := (rowOp i).toArray) (w := w) (b := (i == i) && (((0 : Int) == 0) && true)) (by kernel_rfl) (by kernel_rfl)
  rw [h]; simp
theorem nConn (i : Int) (w : World) : (bin BinOp.neq 63 false false (.agg (rowConn i).toArray) (.agg (rowConn i).toArray)).run Try.prog w = .ok (.bool false) w := by
  have h := run_nea (P := Try.prog) (t := 63) (cx := false) (cy := false) (xs := (rowConn i).toArray) (ys := (rowConn i).toArray) (w := w) (b := (i == i) && (((0 : Int) == 0) && ((((0 : Int) == 0) && (((0 : Int) == 0) && (((0 : Int) == 0) && true))) && true))) (by kernel_rfl) (by kernel_rfl)
  rw [h]; simp
theorem nEdge (i : Int) (w : World) : (bin BinOp.neq 65 false false (.agg (rowEdge i).toArray) (.agg (rowEdge i).toArray)).run Try.prog w = .ok (.bool false) w := by
  have h := run_nea (P := Try.prog) (t := 65) (cx := false) (cy := false) (xs := (rowEdge i).toArray) (ys := (rowEdge i).toArray) (w := w) (b := (i == i) && (((0 : Int) == 0) && (((0 : Int) == 0) && (((0 : Int) == 0) && ((false == false) && true))))) (by kernel_rfl) (by kernel_rfl)
  rw [h]; simp
section
variable {W w : World} {M L : List HProp} {K : Value → World → Prop} {KU : World → Prop} {X : XPost}
theorem St.upk {A B : HProp} {Ls : List HProp} (H : St W w (A :: B :: Sep.all Ls :: M)) : St W w (A :: B :: (Ls ++ M)) :=
  St.perm (St.all H.up2) (List.perm_append_comm_assoc Ls [A, B] M)
theorem St.pk {A B : HProp} {Ls : List HProp} (H : St W w (A :: B :: (Ls ++ M))) : St W w (A :: B :: Sep.all Ls :: M) :=
  (St.all_mk (St.perm H (List.perm_append_comm_assoc [A, B] Ls M))).dn2
/-- the book, and what it holds -/
def Book (kb : Nat) (vc vk vn vd : Value) (c k n d : List It) : List HProp :=
  [cells kb 51 [vc, vk, vn, vd], Sl 53 1 vc c.length (hd c), Sep.all (LLs 61 2 c), Sl 57 1 vk k.length (hd k), Sep.all (LLs 63 5 k), Sl 22 1 vn n.length (hd n), Sep.all (LLs 59 10 n), Sl 23 1 vd d.length (hd d), Sep.all (LLs 65 5 d)]
def Sm4 (c k n d : List It) : Prop := (∀ q ∈ c, q.2.length ≤ 100) ∧ (∀ q ∈ k, q.2.length ≤ 100) ∧ (∀ q ∈ n, q.2.length ≤ 100) ∧ (∀ q ∈ d, q.2.length ≤ 100)
def Ok4 (c k n d : List It) : Prop := (OkR 2 c ∧ c.length ≤ 1000) ∧ (OkR 5 k ∧ k.length ≤ 1000) ∧ (OkR 10 n ∧ n.length ≤ 1000) ∧ (OkR 5 d ∧ d.length ≤ 1000)
def St4 (c k n d : List It) : Prop := Std rowOp c ∧ Std rowConn k ∧ Std rowNode n ∧ Std rowEdge d
theorem ln_sm {a b : List It} (h : ln a = ln b) (hs : ∀ q ∈ b, q.2.length ≤ 100) : ∀ q ∈ a, q.2.length ≤ 100 := by
  intro q hq
  have : q.2.length ∈ ln a := List.mem_map.2 ⟨q, hq, rfl⟩
  rw [h] at this
  obtain ⟨p, hp, e⟩ := List.mem_map.1 this
  rw [← e]
  exact hs p hp
theorem ln_len {a b : List It} (h : ln a = ln b) : a.length = b.length := by simpa [ln] using congrArg List.length h
theorem write_spec {kb : Nat} {vc vk vn vd : Value} {c k n d : List It} (ok : Ok4 c k n d) (sm : Sm4 c k n d) (H : St W w (Book kb vc vk vn vd c k n d ++ M))
    (kk : ∀ c' k' n' d' w', Ok4 c' k' n' d' → St4 c' k' n' d' → St W w' (Book kb vc vk vn vd c' k' n' d' ++ M) → K (.tuple #[]) w') : FCall Try.prog Fn.sluicelaw08_Book_write #[.pointer (some ⟨kb, 0, none⟩)] w K X := by
  refine sluicelaw08_Book_write_call ?_
  unfold Sh.sluicelaw08_Book_write
  have okk := ok
  have smm := sm
  clear ok sm
  refine share_of (fun vs w => vs = [] ∧ ∃ c k n d, Ok4 c k n d ∧ Sm4 c k n d ∧ Std rowOp c ∧ St W w (cells kb 51 [vc, vk, vn, vd] :: Sl 57 1 vk k.length (hd k) :: Sep.all (LLs 63 5 k) :: Sl 22 1 vn n.length (hd n) :: Sep.all (LLs 59 10 n) :: Sl 23 1 vd d.length (hd d) :: Sep.all (LLs 65 5 d) :: Sl 53 1 vc c.length (hd c) :: Sep.all (LLs 61 2 c) :: M)) ?_ ?_
  rotate_left
  · intro J hJ1
    obtain ⟨⟨oc, lc⟩, ⟨ok, lk⟩, ⟨on, ln'⟩, ⟨od, ld⟩⟩ := okk
    obtain ⟨sc, sk, sn, sd⟩ := smm
    refine markF (row := rowOp) okOp bOp oc lc rfl (St.upk H) (fun z w1 e1 e2 oz tz H => ?_)
    have lz := ln_len e2
    have sz := ln_sm e2 sc
    have H := St.pm (P := [_, _, _, _, _, _, _, _, _]) [0, 3, 4, 5, 6, 7, 8, 1, 2] (St.pk H) rfl
    exact hJ1 _ _ ⟨rfl, z, k, n, d, ⟨⟨oz, by omega⟩, ⟨ok, lk⟩, ⟨on, ln'⟩, ⟨od, ld⟩⟩, ⟨sz, sk, sn, sd⟩, tz, H⟩
  clear H
  rintro vs w ⟨rfl, c, k, n, d, okk, smm, tc, H⟩ σ
  refine share_of (fun vs w => vs = [] ∧ ∃ c k n d, Ok4 c k n d ∧ Sm4 c k n d ∧ Std rowOp c ∧ Std rowConn k ∧ St W w (cells kb 51 [vc, vk, vn, vd] :: Sl 22 1 vn n.length (hd n) :: Sep.all (LLs 59 10 n) :: Sl 23 1 vd d.length (hd d) :: Sep.all (LLs 65 5 d) :: Sl 53 1 vc c.length (hd c) :: Sep.all (LLs 61 2 c) :: Sl 57 1 vk k.length (hd k) :: Sep.all (LLs 63 5 k) :: M)) ?_ ?_
  rotate_left
  · intro J hJ2
    obtain ⟨⟨oc, lc⟩, ⟨ok, lk⟩, ⟨on, ln'⟩, ⟨od, ld⟩⟩ := okk
    obtain ⟨sc, sk, sn, sd⟩ := smm
    refine markF (row := rowConn) okConn bConn ok lk rfl (St.upk H) (fun z w1 e1 e2 oz tz H => ?_)
    have lz := ln_len e2
    have sz := ln_sm e2 sk
    have H := St.pm (P := [_, _, _, _, _, _, _, _, _]) [0, 3, 4, 5, 6, 7, 8, 1, 2] (St.pk H) rfl
    exact hJ2 _ _ ⟨rfl, c, z, n, d, ⟨⟨oc, lc⟩, ⟨oz, by omega⟩, ⟨on, ln'⟩, ⟨od, ld⟩⟩, ⟨sc, sz, sn, sd⟩, tc, tz, H⟩
  clear H
  rintro vs w ⟨rfl, c, k, n, d, okk, smm, tc, tk, H⟩ σ
  refine share_of (fun vs w => vs = [] ∧ ∃ c k n d, Ok4 c k n d ∧ Sm4 c k n d ∧ Std rowOp c ∧ Std rowConn k ∧ Std rowNode n ∧ St W w (cells kb 51 [vc, vk, vn, vd] :: Sl 23 1 vd d.length (hd d) :: Sep.all (LLs 65 5 d) :: Sl 53 1 vc c.length (hd c) :: Sep.all (LLs 61 2 c) :: Sl 57 1 vk k.length (hd k) :: Sep.all (LLs 63 5 k) :: Sl 22 1 vn n.length (hd n) :: Sep.all (LLs 59 10 n) :: M)) ?_ ?_
  rotate_left
  · intro J hJ3
    obtain ⟨⟨oc, lc⟩, ⟨ok, lk⟩, ⟨on, ln'⟩, ⟨od, ld⟩⟩ := okk
    obtain ⟨sc, sk, sn, sd⟩ := smm
    refine markF (row := rowNode) okNode bNode on ln' rfl (St.upk H) (fun z w1 e1 e2 oz tz H => ?_)
    have lz := ln_len e2
    have sz := ln_sm e2 sn
    have H := St.pm (P := [_, _, _, _, _, _, _, _, _]) [0, 3, 4, 5, 6, 7, 8, 1, 2] (St.pk H) rfl
    exact hJ3 _ _ ⟨rfl, c, k, z, d, ⟨⟨oc, lc⟩, ⟨ok, lk⟩, ⟨oz, by omega⟩, ⟨od, ld⟩⟩, ⟨sc, sk, sz, sd⟩, tc, tk, tz, H⟩
  clear H
  rintro vs w ⟨rfl, c, k, n, d, okk, smm, tc, tk, tn, H⟩ σ
  refine share_of (fun vs w => vs = [] ∧ ∃ c k n d, Ok4 c k n d ∧ (∀ q ∈ c, q.2.length ≤ 100) ∧ (∀ q ∈ k, q.2.length ≤ 100) ∧ (∀ q ∈ n, q.2.length ≤ 100) ∧ (∀ q ∈ d, q.2.length ≤ 100) ∧ Std rowOp c ∧ Std rowConn k ∧ Std rowNode n ∧ Std rowEdge d ∧ St W w (cells kb 51 [vc, vk, vn, vd] :: Sl 53 1 vc c.length (hd c) :: Sep.all (LLs 61 2 c) :: Sl 57 1 vk k.length (hd k) :: Sep.all (LLs 63 5 k) :: Sl 22 1 vn n.length (hd n) :: Sep.all (LLs 59 10 n) :: Sl 23 1 vd d.length (hd d) :: Sep.all (LLs 65 5 d) :: M)) ?_ ?_
  rotate_left
  · intro J hJ4
    obtain ⟨⟨oc, lc⟩, ⟨ok, lk⟩, ⟨on, ln'⟩, ⟨od, ld⟩⟩ := okk
    obtain ⟨sc, sk, sn, sd⟩ := smm
    refine markF (row := rowEdge) okEdge bEdge od ld rfl (St.upk H) (fun z w1 e1 e2 oz tz H => ?_)
    have lz := ln_len e2
    have sz := ln_sm e2 sd
    have H := St.pm (P := [_, _, _, _, _, _, _, _, _]) [0, 3, 4, 5, 6, 7, 8, 1, 2] (St.pk H) rfl
    exact hJ4 _ _ ⟨rfl, c, k, n, z, ⟨⟨oc, lc⟩, ⟨ok, lk⟩, ⟨on, ln'⟩, ⟨oz, by omega⟩⟩, sc, sk, sn, sz, tc, tk, tn, tz, H⟩
  clear H
  rintro vs w ⟨rfl, c, k, n, d, okk, sc, sk, sn, sd, tc, tk, tn, td, H⟩ σ
  refine share_of (fun vs w => vs = [] ∧ ∃ c k n d, Ok4 c k n d ∧ (∀ q ∈ k, q.2.length ≤ 100) ∧ (∀ q ∈ n, q.2.length ≤ 100) ∧ (∀ q ∈ d, q.2.length ≤ 100) ∧ Std rowOp c ∧ Std rowConn k ∧ Std rowNode n ∧ Std rowEdge d ∧ St W w (cells kb 51 [vc, vk, vn, vd] :: Sl 57 1 vk k.length (hd k) :: Sep.all (LLs 63 5 k) :: Sl 22 1 vn n.length (hd n) :: Sep.all (LLs 59 10 n) :: Sl 23 1 vd d.length (hd d) :: Sep.all (LLs 65 5 d) :: Sl 53 1 vc c.length (hd c) :: Sep.all (LLs 61 2 c) :: M)) ?_ ?_
  rotate_left
  · intro J hJ5
    obtain ⟨⟨oc, lc⟩, ⟨ok, lk⟩, ⟨on, ln'⟩, ⟨od, ld⟩⟩ := okk
    refine growF (row := rowOp) (by omega) (by omega) okOp bOp oc sc tc lc rfl (St.upk H) (fun z w1 lz oz tz H => ?_)
    have H := St.pm (P := [_, _, _, _, _, _, _, _, _]) [0, 3, 4, 5, 6, 7, 8, 1, 2] (St.pk H) rfl
    exact hJ5 _ _ ⟨rfl, z, k, n, d, ⟨⟨oz, by omega⟩, ⟨ok, lk⟩, ⟨on, ln'⟩, ⟨od, ld⟩⟩, sk, sn, sd, tz, tk, tn, td, H⟩
  clear H
  rintro vs w ⟨rfl, c, k, n, d, okk, sk, sn, sd, tc, tk, tn, td, H⟩ σ
  refine share_of (fun vs w => vs = [] ∧ ∃ c k n d, Ok4 c k n d ∧ (∀ q ∈ n, q.2.length ≤ 100) ∧ (∀ q ∈ d, q.2.length ≤ 100) ∧ Std rowOp c ∧ Std rowConn k ∧ Std rowNode n ∧ Std rowEdge d ∧ St W w (cells kb 51 [vc, vk, vn, vd] :: Sl 22 1 vn n.length (hd n) :: Sep.all (LLs 59 10 n) :: Sl 23 1 vd d.length (hd d) :: Sep.all (LLs 65 5 d) :: Sl 53 1 vc c.length (hd c) :: Sep.all (LLs 61 2 c) :: Sl 57 1 vk k.length (hd k) :: Sep.all (LLs 63 5 k) :: M)) ?_ ?_
  rotate_left
  · intro J hJ6
    obtain ⟨⟨oc, lc⟩, ⟨ok, lk⟩, ⟨on, ln'⟩, ⟨od, ld⟩⟩ := okk
    refine growF (row := rowConn) (by omega) (by omega) okConn bConn ok sk tk lk rfl (St.upk H) (fun z w1 lz oz tz H => ?_)
    have H := St.pm (P := [_, _, _, _, _, _, _, _, _]) [0, 3, 4, 5, 6, 7, 8, 1, 2] (St.pk H) rfl
    exact hJ6 _ _ ⟨rfl, c, z, n, d, ⟨⟨oc, lc⟩, ⟨oz, by omega⟩, ⟨on, ln'⟩, ⟨od, ld⟩⟩, sn, sd, tc, tz, tn, td, H⟩
  clear H
  rintro vs w ⟨rfl, c, k, n, d, okk, sn, sd, tc, tk, tn, td, H⟩ σ
  refine share_of (fun vs w => vs = [] ∧ ∃ c k n d, Ok4 c k n d ∧ (∀ q ∈ d, q.2.length ≤ 100) ∧ Std rowOp c ∧ Std rowConn k ∧ Std rowNode n ∧ Std rowEdge d ∧ St W w (cells kb 51 [vc, vk, vn, vd] :: Sl 23 1 vd d.length (hd d) :: Sep.all (LLs 65 5 d) :: Sl 53 1 vc c.length (hd c) :: Sep.all (LLs 61 2 c) :: Sl 57 1 vk k.length (hd k) :: Sep.all (LLs 63 5 k) :: Sl 22 1 vn n.length (hd n) :: Sep.all (LLs 59 10 n) :: M)) ?_ ?_
  rotate_left
  · intro J hJ7
    obtain ⟨⟨oc, lc⟩, ⟨ok, lk⟩, ⟨on, ln'⟩, ⟨od, ld⟩⟩ := okk
    refine growF (row := rowNode) (by omega) (by omega) okNode bNode on sn tn ln' rfl (St.upk H) (fun z w1 lz oz tz H => ?_)
    have H := St.pm (P := [_, _, _, _, _, _, _, _, _]) [0, 3, 4, 5, 6, 7, 8, 1, 2] (St.pk H) rfl
    exact hJ7 _ _ ⟨rfl, c, k, z, d, ⟨⟨oc, lc⟩, ⟨ok, lk⟩, ⟨oz, by omega⟩, ⟨od, ld⟩⟩, sd, tc, tk, tz, td, H⟩
  clear H
  rintro vs w ⟨rfl, c, k, n, d, okk, sd, tc, tk, tn, td, H⟩ σ
  obtain ⟨⟨oc, lc⟩, ⟨ok, lk⟩, ⟨on, ln'⟩, ⟨od, ld⟩⟩ := okk
  refine growF (row := rowEdge) (by omega) (by omega) okEdge bEdge od sd td ld rfl (St.upk H) (fun z w1 lz oz tz H => ?_)
  have H := St.pm (P := [_, _, _, _, _, _, _, _, _]) [0, 3, 4, 5, 6, 7, 8, 1, 2] (St.pk H) rfl
  exact kk c k n z w1 ⟨⟨oc, lc⟩, ⟨ok, lk⟩, ⟨on, ln'⟩, ⟨oz, by omega⟩⟩ ⟨tc, tk, tn, tz⟩ H
theorem stands_spec {kb : Nat} {vc vk vn vd : Value} {c k n d : List It} (ok : Ok4 c k n d) (st : St4 c k n d) (H : St W w (Book kb vc vk vn vd c k n d ++ M))
    (kk : ∀ w', St W w' (Book kb vc vk vn vd c k n d ++ M) → K (.bool true) w') : FCall Try.prog Fn.sluicelaw08_Book_stands #[.pointer (some ⟨kb, 0, none⟩)] w K X := by
  refine sluicelaw08_Book_stands_call ?_
  unfold Sh.sluicelaw08_Book_stands
  obtain ⟨⟨oc, lc⟩, ⟨ok, lk⟩, ⟨on, ln'⟩, ⟨od, ld⟩⟩ := ok
  obtain ⟨tc, tk', tn, td⟩ := st
  have H1 : St W w (cells kb 51 [vc, vk, vn, vd] :: Sl 53 1 vc c.length (hd c) :: Sep.all (LLs 61 2 c) :: Sl 57 1 vk k.length (hd k) :: Sep.all (LLs 63 5 k) :: Sl 22 1 vn n.length (hd n) :: Sep.all (LLs 59 10 n) :: Sl 23 1 vd d.length (hd d) :: Sep.all (LLs 65 5 d) :: M) := H
  clear H
  refine share_of (fun vs w => vs = [] ∧ St W w (cells kb 51 [vc, vk, vn, vd] :: Sl 57 1 vk k.length (hd k) :: Sep.all (LLs 63 5 k) :: Sl 22 1 vn n.length (hd n) :: Sep.all (LLs 59 10 n) :: Sl 23 1 vd d.length (hd d) :: Sep.all (LLs 65 5 d) :: Sl 53 1 vc c.length (hd c) :: Sep.all (LLs 61 2 c) :: M)) ?_ ?_
  rotate_left
  · intro J hJ
    refine standF (row := rowOp) okOp bOp nOp oc tc lc rfl (St.upk H1) (fun w1 H => ?_)
    exact hJ _ _ ⟨rfl, St.pm (P := [_, _, _, _, _, _, _, _, _]) [0, 3, 4, 5, 6, 7, 8, 1, 2] (St.pk H) rfl⟩
  clear H1
  rintro vs w ⟨rfl, H1⟩ σ
  refine share_of (fun vs w => vs = [] ∧ St W w (cells kb 51 [vc, vk, vn, vd] :: Sl 22 1 vn n.length (hd n) :: Sep.all (LLs 59 10 n) :: Sl 23 1 vd d.length (hd d) :: Sep.all (LLs 65 5 d) :: Sl 53 1 vc c.length (hd c) :: Sep.all (LLs 61 2 c) :: Sl 57 1 vk k.length (hd k) :: Sep.all (LLs 63 5 k) :: M)) ?_ ?_
  rotate_left
  · intro J hJ
    refine standF (row := rowConn) okConn bConn nConn ok tk' lk rfl (St.upk H1) (fun w1 H => ?_)
    exact hJ _ _ ⟨rfl, St.pm (P := [_, _, _, _, _, _, _, _, _]) [0, 3, 4, 5, 6, 7, 8, 1, 2] (St.pk H) rfl⟩
  clear H1
  rintro vs w ⟨rfl, H1⟩ σ
  refine share_of (fun vs w => vs = [] ∧ St W w (cells kb 51 [vc, vk, vn, vd] :: Sl 23 1 vd d.length (hd d) :: Sep.all (LLs 65 5 d) :: Sl 53 1 vc c.length (hd c) :: Sep.all (LLs 61 2 c) :: Sl 57 1 vk k.length (hd k) :: Sep.all (LLs 63 5 k) :: Sl 22 1 vn n.length (hd n) :: Sep.all (LLs 59 10 n) :: M)) ?_ ?_
  rotate_left
  · intro J hJ
    refine standN (row := rowNode) (s := 10) okNode (fun _ => rfl) on tn ln' rfl (St.upk H1) (fun w1 H => ?_)
    exact hJ _ _ ⟨rfl, St.pm (P := [_, _, _, _, _, _, _, _, _]) [0, 3, 4, 5, 6, 7, 8, 1, 2] (St.pk H) rfl⟩
  clear H1
  rintro vs w ⟨rfl, H1⟩ σ
  refine standF (row := rowEdge) okEdge bEdge nEdge od td ld rfl (St.upk H1) (fun w1 H => ?_)
  exact kk _ (St.pm (P := [_, _, _, _, _, _, _, _, _]) [0, 3, 4, 5, 6, 7, 8, 1, 2] (St.pk H) rfl)
/-- the book as it is filled: the lists' heads alone -/
def Heads (kb : Nat) (vc vk vn vd : Value) (c k n d : List Value) : List HProp :=
  [cells kb 51 [vc, vk, vn, vd], Sl 53 1 vc c.length c, Sl 57 1 vk k.length k, Sl 22 1 vn n.length n, Sl 23 1 vd d.length d]
theorem add_spec {kb : Nat} {vc vk vn vd : Value} {c k n d : List Value} {g : GraphV} (lc : c.length ≤ 1000) (lk : k.length ≤ 1000) (lN : n.length ≤ 1000) (ld : d.length ≤ 1000) (hg : g.nodes.length ≤ 100) (R : GKn W M g) (H : St W w (Heads kb vc vk vn vd c k n d ++ M))
    (kk : ∀ vc' vk' vn' vd' w', St W w' (Heads kb vc' vk' vn' vd' (c ++ g.nodes.map NodeV.cv) (k ++ g.nodes.map NodeV.kv) (n ++ [g.nv]) (d ++ [g.ev]) ++ M) → K (.tuple #[]) w') : FCall Try.prog Fn.sluicelaw08_Book_add #[.pointer (some ⟨kb, 0, none⟩), .agg g.cs.toArray] w K X := by
  refine sluicelaw08_Book_add_call ?_
  unfold Sh.sluicelaw08_Book_add
  refine rv_box (c := g.cs) H rfl ?_
  clear H
  intro b3 w1 H
  simp only [GraphV.cs] at H
  have RM : ∀ {w} {A B C D E F : HProp}, St W w (A :: B :: C :: D :: E :: F :: M) → GRd w g := fun h => R _ h.drop.drop.drop.drop.drop.drop
  refine share_of (fun vs w => vs = [] ∧ ∃ vc vk, St W w (cells b3 25 [.int .i64 g.ar, g.nv, g.ev] :: (Heads kb vc vk vn vd (c ++ g.nodes.map NodeV.cv) (k ++ g.nodes.map NodeV.kv) n d ++ M))) ?_ ?_
  · clear H
    rintro vs w ⟨rfl, vc', vk', H⟩ σ
    have H : St W w (cells b3 25 [.int .i64 g.ar, g.nv, g.ev] :: cells kb 51 [vc', vk', vn, vd] :: Sl 53 1 vc' (c ++ g.nodes.map NodeV.cv).length (c ++ g.nodes.map NodeV.cv) :: Sl 57 1 vk' (k ++ g.nodes.map NodeV.kv).length (k ++ g.nodes.map NodeV.kv) :: Sl 22 1 vn n.length n :: Sl 23 1 vd d.length d :: M) := H
    have G := RM H
    obtain ⟨p1, n1, c1, hnv⟩ := rd0_form G.1
    obtain ⟨p2, n2, c2, hev⟩ := rd0_form G.2.1
    clear G
    replace H := H.drew
    refine ⟨fun w => St W w [cells b3 25 [.int .i64 g.ar, g.nv, g.ev], cells kb 51 [vc', vk', vn, vd]], (St.two H), ?_⟩
    (repeat with_reducible (first | refine Red.to ?_ | (refine is_tload ?_; (first | refine tk_load (fun _ H => H) rfl ?_ | refine tk_load (fun _ H => H.up1) rfl ?_ | refine tk_load (fun _ H => H.up2) rfl ?_ | refine tk_load (fun _ H => H.up3) rfl ?_))))
    (repeat with_reducible (first | refine Red.to ?_ | (refine is_rload ?_; (first | refine rv_load H rfl ?_ | refine rv_load H.up1 rfl ?_ | refine rv_load H.up2 rfl ?_ | refine rv_load H.up3 rfl ?_ | refine rv_load H.up4 rfl ?_))))
    first | refine keep_same ((St.two H)) ?_ | refine ⟨(St.two H), ?_⟩
    refine rv_build1 H (by rw [hnv]; rfl) (by omega) ?_
    clear H
    intro g4 w2 H
    have e4 : g.nv.cells.toList = [g.nv] := by rw [hnv]; rfl
    rw [e4] at H
    first | refine keep_same ((St.two H.drop)) ?_ | refine ⟨(St.two H.drop), ?_⟩
    refine rv_append_cells (n := n.length) (m := 1) (St.pm (P := [_, _, _, _, _, _]) [0, 5, 1, 2, 3, 4] H rfl) rfl (by rw [hnv]; exact zone rfl) (by unfold maxLen; omega) (by omega) ?_
    clear H
    intro vn' w3 H _
    have hone := sl_one H
    (repeat with_reducible (first | refine Red.to ?_ | (refine is_tload ?_; (first | refine tk_load (fun _ H => H) rfl ?_ | refine tk_load (fun _ H => H.up1) rfl ?_ | refine tk_load (fun _ H => H.up2) rfl ?_ | refine tk_load (fun _ H => H.up3) rfl ?_))))
    refine ru_store H.up2 (by simp) hone ?_
    clear H
    intro w4 H
    simp only [List.set_cons_succ, List.set_cons_zero] at H
    have H : St W w4 (cells b3 25 [.int .i64 g.ar, g.nv, g.ev] :: cells kb 51 [vc', vk', vn', vd] :: Sl 53 1 vc' (c ++ g.nodes.map NodeV.cv).length (c ++ g.nodes.map NodeV.cv) :: Sl 57 1 vk' (k ++ g.nodes.map NodeV.kv).length (k ++ g.nodes.map NodeV.kv) :: Sl 22 1 vn' (n.length + 1) (n ++ [g.nv]) :: Sl 23 1 vd d.length d :: M) := St.pm (P := [_, _, _, _, _]) [2, 0, 3, 4, 1] H rfl
    replace H := H.drew
    refine ⟨fun w => St W w [cells b3 25 [.int .i64 g.ar, g.nv, g.ev], cells kb 51 [vc', vk', vn', vd]], (St.two H), ?_⟩
    (repeat with_reducible (first | refine Red.to ?_ | (refine is_tload ?_; (first | refine tk_load (fun _ H => H) rfl ?_ | refine tk_load (fun _ H => H.up1) rfl ?_ | refine tk_load (fun _ H => H.up2) rfl ?_ | refine tk_load (fun _ H => H.up3) rfl ?_))))
    (repeat with_reducible (first | refine Red.to ?_ | (refine is_rload ?_; (first | refine rv_load H rfl ?_ | refine rv_load H.up1 rfl ?_ | refine rv_load H.up2 rfl ?_ | refine rv_load H.up3 rfl ?_ | refine rv_load H.up4 rfl ?_))))
    first | refine keep_same ((St.two H)) ?_ | refine ⟨(St.two H), ?_⟩
    refine rv_build1 H (by rw [hev]; rfl) (by omega) ?_
    clear H
    intro g5 w5 H
    have e5 : g.ev.cells.toList = [g.ev] := by rw [hev]; rfl
    rw [e5] at H
    first | refine keep_same ((St.two H.drop)) ?_ | refine ⟨(St.two H.drop), ?_⟩
    refine rv_append_cells (n := d.length) (m := 1) (St.pm (P := [_, _, _, _, _, _, _]) [0, 6, 1, 2, 3, 4, 5] H rfl) rfl (by rw [hev]; exact zone rfl) (by unfold maxLen; omega) (by omega) ?_
    clear H
    intro vd' w6 H _
    have hone := sl_one H
    (repeat with_reducible (first | refine Red.to ?_ | (refine is_tload ?_; (first | refine tk_load (fun _ H => H) rfl ?_ | refine tk_load (fun _ H => H.up1) rfl ?_ | refine tk_load (fun _ H => H.up2) rfl ?_ | refine tk_load (fun _ H => H.up3) rfl ?_))))
    refine ru_store H.up2 (by simp) hone ?_
    clear H
    intro w7 H
    simp only [List.set_cons_succ, List.set_cons_zero] at H
    refine kk vc' vk' vn' vd' _ ?_
    have H := (St.pm (P := [_, _, _, _, _, _]) [2, 0, 3, 4, 5, 1] H rfl).drop
    have l1 : (n ++ [g.nv]).length = n.length + 1 := by simp
    have l2 : (d ++ [g.ev]).length = d.length + 1 := by simp
    unfold Heads
    rw [l1, l2]
    exact H
  intro J hJ
  have H : St W w1 (cells b3 25 [.int .i64 g.ar, g.nv, g.ev] :: cells kb 51 [vc, vk, vn, vd] :: Sl 53 1 vc c.length c :: Sl 57 1 vk k.length k :: Sl 22 1 vn n.length n :: Sl 23 1 vd d.length d :: M) := H
  (repeat with_reducible (first | refine Red.to ?_ | (refine is_rload ?_; (first | refine rv_load H rfl ?_ | refine rv_load H.up1 rfl ?_ | refine rv_load H.up2 rfl ?_ | refine rv_load H.up3 rfl ?_ | refine rv_load H.up4 rfl ?_))))
  refine rv_len_rd0 (RM H).1 ?_
  refine loop_of (fun vs w => ∃ (i : Nat) (vc vk : Value), vs = [.int .i64 i] ∧ i ≤ g.nodes.length ∧ St W w (cells b3 25 [.int .i64 g.ar, g.nv, g.ev] :: cells kb 51 [vc, vk, vn, vd] :: Sl 53 1 vc (c.length + i) (c ++ (g.nodes.take i).map NodeV.cv) :: Sl 57 1 vk (k.length + i) (k ++ (g.nodes.take i).map NodeV.kv) :: Sl 22 1 vn n.length n :: Sl 23 1 vd d.length d :: M)) (fun vs _ => match vs with | [.int _ i] => g.nodes.length - i.toNat | _ => 0) ⟨0, vc, vk, rfl, by omega, by simpa using H⟩ ?_
  clear H
  rintro vs w kk2 ⟨i, vc, vk, rfl, hi, H⟩ hkk σ
  simp only [List.getD_cons_zero, List.getD_cons_succ]
  (repeat with_reducible (first | refine Red.to ?_ | (refine is_rload ?_; (first | refine rv_load H rfl ?_ | refine rv_load H.up1 rfl ?_ | refine rv_load H.up2 rfl ?_ | refine rv_load H.up3 rfl ?_ | refine rv_load H.up4 rfl ?_))))
  refine cond_split (fun hc => ?_) (fun hc => ?_)
  · have hlt : i < g.nodes.length := by have := of_decide_eq_true hc; omega
    obtain ⟨o, ho⟩ : ∃ o, g.nodes[i]? = some o := ⟨_, List.getElem?_eq_getElem hlt⟩
    have G := RM H
    obtain ⟨gg, off, cap, hv, hcell⟩ := Kn0.form (fun w h => (R w h).1) H.drop.drop.drop.drop.drop.drop (by omega)
    obtain ⟨r1, r2⟩ := G.2.2 o (List.mem_of_getElem? ho)
    refine rv_row (cs := o.cs) H hv hlt (fun j v hj => hcell w H.drop.drop.drop.drop.drop.drop _ v (fl_get NodeV.len _ i j o v ho hj)) (by rfl) (by rfl) (NodeV.one ⟨r1, r2⟩) ?_
    obtain ⟨p1, n1, c1, hcv⟩ := rd0_form r1
    obtain ⟨p2, n2, c2, hkv⟩ := rd0_form r2
    clear H G r1 r2 hcell
    intro b5 w2 H
    simp only [NodeV.cs] at H
    replace H := H.drew
    refine ⟨fun w => St W w [cells b5 59 [.int .i64 o.kd, .int .i64 o.ins, .int .i64 o.outs, o.cv, .int .u64 o.a, .int .u64 o.b, .int .u64 o.c, .int .u64 o.bd, o.kv, .bool o.st], cells b3 25 [.int .i64 g.ar, g.nv, g.ev], cells kb 51 [vc, vk, vn, vd]], (St.three H), ?_⟩
    (repeat with_reducible (first | refine Red.to ?_ | (refine is_tload ?_; (first | refine tk_load (fun _ H => H) rfl ?_ | refine tk_load (fun _ H => H.up1) rfl ?_ | refine tk_load (fun _ H => H.up2) rfl ?_ | refine tk_load (fun _ H => H.up3) rfl ?_))))
    (repeat with_reducible (first | refine Red.to ?_ | (refine is_rload ?_; (first | refine rv_load H rfl ?_ | refine rv_load H.up1 rfl ?_ | refine rv_load H.up2 rfl ?_ | refine rv_load H.up3 rfl ?_ | refine rv_load H.up4 rfl ?_))))
    first | refine keep_same ((St.three H)) ?_ | refine ⟨(St.three H), ?_⟩
    refine rv_build1 H (by rw [hcv]; rfl) (by omega) ?_
    clear H
    intro g4 w3 H
    have e4 : o.cv.cells.toList = [o.cv] := by rw [hcv]; rfl
    rw [e4] at H
    first | refine keep_same ((St.three H.drop)) ?_ | refine ⟨(St.three H.drop), ?_⟩
    refine rv_append_cells (n := c.length + i) (m := 1) (St.pm (P := [_, _, _, _, _]) [0, 4, 1, 2, 3] H rfl) rfl (by rw [hcv]; exact zone rfl) (by unfold maxLen; omega) (by omega) ?_
    clear H
    intro vc' w4 H _
    have hone := sl_one H
    (repeat with_reducible (first | refine Red.to ?_ | (refine is_tload ?_; (first | refine tk_load (fun _ H => H) rfl ?_ | refine tk_load (fun _ H => H.up1) rfl ?_ | refine tk_load (fun _ H => H.up2) rfl ?_ | refine tk_load (fun _ H => H.up3) rfl ?_))))
    refine ru_store H.up3 (by simp) hone ?_
    clear H
    intro w5 H
    simp only [List.set_cons_succ, List.set_cons_zero] at H
    have H : St W w5 (cells b5 59 [.int .i64 o.kd, .int .i64 o.ins, .int .i64 o.outs, o.cv, .int .u64 o.a, .int .u64 o.b, .int .u64 o.c, .int .u64 o.bd, o.kv, .bool o.st] :: cells b3 25 [.int .i64 g.ar, g.nv, g.ev] :: cells kb 51 [vc', vk, vn, vd] :: Sl 53 1 vc' (c.length + i + 1) (c ++ (g.nodes.take i).map NodeV.cv ++ [o.cv]) :: Sl 57 1 vk (k.length + i) (k ++ (g.nodes.take i).map NodeV.kv) :: Sl 22 1 vn n.length n :: Sl 23 1 vd d.length d :: M) := St.pm (P := [_, _, _, _]) [2, 3, 0, 1] H rfl
    replace H := H.drew
    refine ⟨fun w => St W w [cells b5 59 [.int .i64 o.kd, .int .i64 o.ins, .int .i64 o.outs, o.cv, .int .u64 o.a, .int .u64 o.b, .int .u64 o.c, .int .u64 o.bd, o.kv, .bool o.st], cells b3 25 [.int .i64 g.ar, g.nv, g.ev], cells kb 51 [vc', vk, vn, vd]], (St.three H), ?_⟩
    (repeat with_reducible (first | refine Red.to ?_ | (refine is_tload ?_; (first | refine tk_load (fun _ H => H) rfl ?_ | refine tk_load (fun _ H => H.up1) rfl ?_ | refine tk_load (fun _ H => H.up2) rfl ?_ | refine tk_load (fun _ H => H.up3) rfl ?_))))
    (repeat with_reducible (first | refine Red.to ?_ | (refine is_rload ?_; (first | refine rv_load H rfl ?_ | refine rv_load H.up1 rfl ?_ | refine rv_load H.up2 rfl ?_ | refine rv_load H.up3 rfl ?_ | refine rv_load H.up4 rfl ?_))))
    first | refine keep_same ((St.three H)) ?_ | refine ⟨(St.three H), ?_⟩
    refine rv_build1 H (by rw [hkv]; rfl) (by omega) ?_
    clear H
    intro g5 w6 H
    have e5 : o.kv.cells.toList = [o.kv] := by rw [hkv]; rfl
    rw [e5] at H
    first | refine keep_same ((St.three H.drop)) ?_ | refine ⟨(St.three H.drop), ?_⟩
    refine rv_append_cells (n := k.length + i) (m := 1) (St.pm (P := [_, _, _, _, _, _]) [0, 5, 1, 2, 3, 4] H rfl) rfl (by rw [hkv]; exact zone rfl) (by unfold maxLen; omega) (by omega) ?_
    clear H
    intro vk' w7 H _
    have hone := sl_one H
    (repeat with_reducible (first | refine Red.to ?_ | (refine is_tload ?_; (first | refine tk_load (fun _ H => H) rfl ?_ | refine tk_load (fun _ H => H.up1) rfl ?_ | refine tk_load (fun _ H => H.up2) rfl ?_ | refine tk_load (fun _ H => H.up3) rfl ?_))))
    refine ru_store H.up3 (by simp) hone ?_
    clear H
    intro w8 H
    simp only [List.set_cons_succ, List.set_cons_zero] at H
    (repeat with_reducible (first | refine Red.to ?_ | (refine is_rload ?_; (first | refine rv_load H rfl ?_ | refine rv_load H.up1 rfl ?_ | refine rv_load H.up2 rfl ?_ | refine rv_load H.up3 rfl ?_ | refine rv_load H.up4 rfl ?_))))
    rw [i64_small (by omega) (by omega)]
    refine hkk _ _ ⟨i + 1, vc', vk', rfl, by omega, ?_⟩ (by simp; omega)
    have H := (St.pm (P := [_, _, _, _, _]) [2, 3, 0, 4, 1] H rfl).drop
    have t1 : (g.nodes.take (i + 1)).map NodeV.cv = (g.nodes.take i).map NodeV.cv ++ [o.cv] := by rw [List.take_add_one, ho]; simp
    have t2 : (g.nodes.take (i + 1)).map NodeV.kv = (g.nodes.take i).map NodeV.kv ++ [o.kv] := by rw [List.take_add_one, ho]; simp
    rw [t1, t2, ← List.append_assoc, ← List.append_assoc]
    exact H
  · have hi : i = g.nodes.length := by have := of_decide_eq_false hc; omega
    subst hi
    rw [List.take_length] at H
    refine hJ _ _ ⟨rfl, vc, vk, ?_⟩
    have l1 : (c ++ g.nodes.map NodeV.cv).length = c.length + g.nodes.length := by simp
    have l2 : (k ++ g.nodes.map NodeV.kv).length = k.length + g.nodes.length := by simp
    unfold Heads
    rw [l1, l2]
    exact H
end
end Go.Proofs.Ytdmocobabpmoeaa
