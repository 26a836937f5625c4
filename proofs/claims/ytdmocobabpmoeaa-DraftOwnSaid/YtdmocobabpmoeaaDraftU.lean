/-
  The law's helper roomy: a graph anew, one element more in each list's spare room.
-/
import Derived.Test.YtdmocobabpmoeaaDraftT
namespace Go.Proofs.Ytdmocobabpmoeaa
open Go.Vc Go.Sep Go.Ops
set_option linter.unusedVariables false
set_option linter.unusedSectionVars false
set_option linter.unusedSimpArgs false

/-- a list of its own, and z in the place behind it -/
def Rm (e s : Nat) (v : Value) (n : Nat) (xs z : List Value) : HProp := fun h => ∃ g cap, v = .slice (some ⟨g, 0, none⟩) n cap ∧ Sl e s (.slice (some ⟨g, 0, none⟩) (n + 1) cap) (n + 1) (xs ++ z) h
def Rx (w : World) (v : Value) (n s : Nat) (z : List Value) : Prop := ∃ g cap, v = .slice (some ⟨g, 0, none⟩) n cap ∧ n + 1 ≤ cap ∧ ∀ j u, z[j]? = some u → w.cell? ⟨g, n * s + j, none⟩ = some u
section
variable {W w : World} {L : List HProp} {K : Value → World → Prop} {KU : World → Prop} {X : XPost}
theorem Rm.rx {e s n : Nat} {v : Value} {xs z : List Value} (H : St W w (Rm e s v n xs z :: L)) (hx : xs.length = n * s) : Rx w v n s z ∧ Rd w v n xs := by
  obtain ⟨hb, a, d, hd, ha, hdn, hsa, hsd, hA, hL⟩ := St.cons_iff.1 H
  obtain ⟨g, cap, rfl, hs⟩ := hA
  have H' : St W w (Sl e s (.slice (some ⟨g, 0, none⟩) (n + 1) cap) (n + 1) (xs ++ z) :: L) := St.cons_iff.2 ⟨hb, a, d, hd, ha, hdn, hsa, hsd, hs, hL⟩
  have hc := H'.sl_cells rfl
  have hn : n + 1 ≤ cap := by
    rcases H'.sl_form.2 with ⟨h, _⟩ | ⟨g', cap', h, h1, _⟩
    · cases h
    · cases h; exact h1
  refine ⟨⟨g, cap, rfl, hn, fun j u hj => ?_⟩, .inr ⟨g, 0, cap, rfl, by omega, fun j u hj => ?_⟩⟩
  · exact hc _ _ (by rw [List.getElem?_append_right (by omega), hx]; simpa using hj)
  · rw [Nat.zero_add]
    exact hc _ _ (by rw [List.getElem?_append_left (List.getElem?_eq_some_iff.1 hj).1]; exact hj)
theorem room_app {t e s b ty : Nat} {zv : Value} [TSlice Try.prog t e s b zv] {x : Value} {n g : Nat} {xs z : List Value} (H : St W w (Sl e s x n xs :: cells g e z :: L)) (hz : z.length = s) (h1 : ∀ u ∈ z, u.oneCell' = true)
    (hm : n + 1 ≤ maxLen) (hb : (n + 1) * b ≤ 140737488355328)
    (k : ∀ g' cap w', n + 1 ≤ cap → St W w' (Rm e s (.slice (some ⟨g', 0, none⟩) n cap) n xs z :: L) → K (.slice (some ⟨g', 0, none⟩) (n + 1) cap) w') : RunV Try.prog (Builtin.append_ #[t, t] ty #[x, .slice (some ⟨g, 0, none⟩) 1 1]) w K X := by
  refine rv_append_cells H.up1 (by omega) h1 hm hb ?_
  clear H
  intro v' w' H _
  rcases H.sl_form.2 with ⟨_, h⟩ | ⟨g', cap, rfl, h, _⟩
  · omega
  · exact k g' cap w' h (H.mono fun h hh => ⟨g', cap, rfl, hh⟩)
/-- The two lists, made in whichever order. -/
theorem tree3 {t e s b : Nat} {zv : Value} [TSlice Try.prog t e s b zv] {S : World → Prop} {J : List Value → World → Prop} {z v : Value} {n : Nat} {cs : List Value} {X0 X1 X2 X3 X4 X5 X6 X7 : XPost} (hS : ∀ w, St W w L → S w)
    (H : St W w L) (R : Kn0 W L v n cs) (hl : cs.length = n * s) (h1 : ∀ u ∈ cs, u.oneCell' = true) (hm : n ≤ maxLen) (hb : n * b ≤ 140737488355328) (hz : z.cells.size = s) (hzs : s ≤ 16777216)
    (hJ : ∀ x g w', St W w' (Sl e s x n cs :: cells g e z.cells.toList :: L) → J [x, .slice (some ⟨g, 0, none⟩) 1 1] w') :
    (RunV Try.prog (Instr.buildSlice t 0 #[]) w (fun x18 w1 => (S w1 ∧ ((RunV Try.prog (Builtin.append_ #[t, t] t #[x18, v]) w1 (fun x21 w2 => (S w2 ∧ ((RunV Try.prog (Instr.buildSlice t 1 #[(0, z)]) w2 (fun x23 w3 => (S w3 ∧ J [x21, x23] w3)) X0) ∧ True))) X1) ∧ ((RunV Try.prog (Instr.buildSlice t 1 #[(0, z)]) w1 (fun x23 w2 => (S w2 ∧ ((RunV Try.prog (Builtin.append_ #[t, t] t #[x18, v]) w2 (fun x21 w3 => (S w3 ∧ J [x21, x23] w3)) X2) ∧ True))) X3) ∧ True)))) X4)
      ∧ ((RunV Try.prog (Instr.buildSlice t 1 #[(0, z)]) w (fun x23 w1 => (S w1 ∧ ((RunV Try.prog (Instr.buildSlice t 0 #[]) w1 (fun x18 w2 => (S w2 ∧ ((RunV Try.prog (Builtin.append_ #[t, t] t #[x18, v]) w2 (fun x21 w3 => (S w3 ∧ J [x21, x23] w3)) X5) ∧ True))) X6) ∧ True))) X7) ∧ True) := by
  refine ⟨?_, ?_, trivial⟩
  · refine rv_build0 H ?_
    clear H
    intro g0 w1 H
    have H := H.sl_of_cells (size := s) (n := 0) (cap := 0) (by simp) (by omega) (by unfold maxLen; omega)
    refine ⟨hS _ H.drop, ?_, ?_, trivial⟩
    · refine rv_append_rd0 H (R _ H.drop) hl h1 (by omega) (by simpa using hb) ?_
      clear H
      intro y w2 H _
      refine ⟨hS _ H.drop, ?_, trivial⟩
      refine rv_build1 H hz hzs ?_
      clear H
      intro g w3 H
      refine ⟨hS _ H.drop.drop, hJ _ _ _ ?_⟩
      have H := H.up1
      simpa using H
    · refine rv_build1 H hz hzs ?_
      clear H
      intro g w2 H
      refine ⟨hS _ H.drop.drop, ?_, trivial⟩
      refine rv_append_rd0 H.up1 (R _ H.drop.drop) hl h1 (by omega) (by simpa using hb) ?_
      clear H
      intro y w3 H _
      refine ⟨hS _ H.drop.drop, hJ _ _ _ ?_⟩
      simpa using H
  · refine rv_build1 H hz hzs ?_
    clear H
    intro g w1 H
    refine ⟨hS _ H.drop, ?_, trivial⟩
    refine rv_build0 H ?_
    clear H
    intro g0 w2 H
    have H := H.sl_of_cells (size := s) (n := 0) (cap := 0) (by simp) (by omega) (by unfold maxLen; omega)
    refine ⟨hS _ H.drop.drop, ?_, trivial⟩
    refine rv_append_rd0 H (R _ H.drop.drop) hl h1 (by omega) (by simpa using hb) ?_
    clear H
    intro y w3 H _
    refine ⟨hS _ H.drop.drop, hJ _ _ _ ?_⟩
    simpa using H
theorem tree2 {t e s b : Nat} {zv : Value} [TSlice Try.prog t e s b zv] {S : World → Prop} {J : List Value → World → Prop} {z v : Value} {n : Nat} {cs : List Value} {X0 X1 X2 X3 : XPost} (hS : ∀ w, St W w L → S w)
    (H : St W w L) (R : Kn0 W L v n cs) (hl : cs.length = n * s) (h1 : ∀ u ∈ cs, u.oneCell' = true) (hm : n ≤ maxLen) (hb : n * b ≤ 140737488355328) (hz : z.cells.size = s) (hzs : s ≤ 16777216)
    (hJ : ∀ x g w', St W w' (Sl e s x n cs :: cells g e z.cells.toList :: L) → J [x, .slice (some ⟨g, 0, none⟩) 1 1] w') :
    (RunV Try.prog (Builtin.append_ #[t, t] t #[.slice none 0 0, v]) w (fun x21 w2 => (S w2 ∧ ((RunV Try.prog (Instr.buildSlice t 1 #[(0, z)]) w2 (fun x23 w3 => (S w3 ∧ J [x21, x23] w3)) X0) ∧ True))) X1)
      ∧ ((RunV Try.prog (Instr.buildSlice t 1 #[(0, z)]) w (fun x23 w2 => (S w2 ∧ ((RunV Try.prog (Builtin.append_ #[t, t] t #[.slice none 0 0, v]) w2 (fun x21 w3 => (S w3 ∧ J [x21, x23] w3)) X2) ∧ True))) X3) ∧ True) := by
  refine ⟨?_, ?_, trivial⟩
  · refine rv_append_rd0 (H.sl_nil e s) (R _ H) hl h1 (by omega) (by simpa using hb) ?_
    clear H
    intro y w2 H _
    refine ⟨hS _ H.drop, ?_, trivial⟩
    refine rv_build1 H hz hzs ?_
    clear H
    intro g w3 H
    refine ⟨hS _ H.drop.drop, hJ _ _ _ ?_⟩
    have H := H.up1
    simpa using H
  · refine rv_build1 H hz hzs ?_
    clear H
    intro g w2 H
    refine ⟨hS _ H.drop, ?_, trivial⟩
    refine rv_append_rd0 (H.sl_nil e s) (R _ H.drop) hl h1 (by omega) (by simpa using hb) ?_
    clear H
    intro y w3 H _
    refine ⟨hS _ H.drop.drop, hJ _ _ _ ?_⟩
    simpa using H
end
def zOp : List Value := [.int .i64 (-77), .int .u64 0]
def zConn : List Value := [.int .i64 (-77), .int .i64 0, .int .u64 0, .int .u64 0, .int .u64 0]
def zEdge : List Value := [.int .i64 (-77), .int .i64 0, .int .i64 0, .int .i64 0, .bool false]
def zNode : List Value := [.int .i64 (-77), .int .i64 0, .int .i64 0, .slice none 0 0, .int .u64 0, .int .u64 0, .int .u64 0, .int .u64 0, .slice none 0 0, .bool false]
def RNodes (l : List NodeV) : List HProp := l.flatMap fun n => [Rm 61 2 n.cv n.code.length (fl OpD.cs n.code) zOp, Rm 63 5 n.kv n.conns.length (fl ConnD.cs n.conns) zConn]
def RoomG (g : GraphV) : List HProp := Rm 59 10 g.nv g.nodes.length (fl NodeV.cs g.nodes) zNode :: Rm 65 5 g.ev g.edges.length (fl EdgeD.cs g.edges) zEdge :: RNodes g.nodes
section
variable {W w : World} {L : List HProp} {K : Value → World → Prop} {KU : World → Prop} {X : XPost}
theorem rnodes_in {ns : List NodeV} {n : NodeV} : (Rm 61 2 n.cv n.code.length (fl OpD.cs n.code) zOp :: Rm 63 5 n.kv n.conns.length (fl ConnD.cs n.conns) zConn :: (RNodes ns ++ L)).Perm (RNodes (ns ++ [n]) ++ L) := by
  have e : RNodes (ns ++ [n]) = RNodes ns ++ [Rm 61 2 n.cv n.code.length (fl OpD.cs n.code) zOp, Rm 63 5 n.kv n.conns.length (fl ConnD.cs n.conns) zConn] := by simp [RNodes]
  rw [e]
  exact List.Perm.append_right L (l₁ := [Rm 61 2 n.cv n.code.length (fl OpD.cs n.code) zOp, Rm 63 5 n.kv n.conns.length (fl ConnD.cs n.conns) zConn] ++ RNodes ns) List.perm_append_comm
theorem fl_one {α : Type} {f : α → List Value} (h : ∀ x, ∀ u ∈ f x, u.oneCell' = true) (l : List α) : ∀ u ∈ fl f l, u.oneCell' = true := by
  intro u hu
  obtain ⟨x, _, hx⟩ := List.mem_flatMap.1 hu
  exact h x u hx
theorem zone {z : List Value} (h : z.all (·.oneCell') = true) : ∀ u ∈ z, u.oneCell' = true := by
  intro u hu
  exact List.all_eq_true.1 h u hu
end
end Go.Proofs.Ytdmocobabpmoeaa
