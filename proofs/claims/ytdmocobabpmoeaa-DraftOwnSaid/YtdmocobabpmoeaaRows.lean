/-
  No cell of these rows narrows 'for every input' (looked for: loops, veiled, ifaces, maps, wideKeys, modest, calm, conditions, laid).
  DERIVED. THE GIVEN ROWS OF THIS SEAT. 5 by the template 'for every input the law returns true; each argument reads behind the call as it read before'; 0 by the template 'total and deterministic' (their statements: YtdmocobabpmoeaaTotals.lean).
  GIVEN WITH THE SEED: the statements are not yours to turn. If you find one false, say at which input.
  Laid BY PROGRAM, IN A SANDBOX (cutbox-rows.mjs): the forced cells as the released guide's own fill.sh prints them over the translation b7e0f29cce621f19… (all of the seat's roots in one cut). By AI agents, Wed Nov 11 2026. No macro, syntax, notation, axiom, sorry.
-/
import Derived.Test.YtdmocobabpmoeaaChecked
import GoSem.Claim
import GoSem.ClaimJoined
import GoSem.ClaimMapViews
import Derived.JoinedTies
import Derived.KernelRfl
namespace Go.Proofs.Ytdmocobabpmoeaa
/- THE CELL 'sum', in the pinned program and in every row, IS THE sha256 OF THE DUMP (.gsa) THAT YtdmocobabpmoeaaProg.lean LOADS. Nothing in Lean hashes anything: it is a label: what it is worth is what the hold of that sum in a sandbox is worth. -/
noncomputable def Try.pinned : Pinned := { name := "ytdmocobabpmoeaa", sum := "b7e0f29cce621f1980881733e6739857f6deb1728b14620e01d73fdc8c986f9b", checked := Try.checked }
namespace Rows
def none {H : Type} : Left H := { results := [], args := [] }

/-- 'sluicelaw08.DraftPuts': WHATEVER THE INPUT: true; the input reads as it did. -/
def draftPutsSpec : ChangeSpec := { name := "draftPuts", fn := fun _ => fun
  | [d1, d2] => { results := [.lit (.bool true)], args := [d1, d2] }
  | _ => none }
def draftPutsRow : OpenClaim := { program := "ytdmocobabpmoeaa", sum := "b7e0f29cce621f1980881733e6739857f6deb1728b14620e01d73fdc8c986f9b", func := "sluice/sluicelaw08.DraftPuts", spec := "draftPuts", unfollowed := true, recurses := true, apart := false }
def DraftPutsSaid : Prop := draftPutsRow.holds Try.pinned (OpenSpec.ofChange draftPutsSpec)

/-- ITS FALSE NEIGHBOUR: 'it returns false'. Refute it at one input. -/
def draftPutsWrong : ChangeSpec := { name := "draftPuts", fn := fun _ => fun
  | [d1, d2] => { results := [.lit (.bool false)], args := [d1, d2] }
  | _ => none }
def DraftPutsWrongFalsely : Prop := draftPutsRow.holds Try.pinned (OpenSpec.ofChange draftPutsWrong)

/-- 'sluicelaw08.DraftGets': WHATEVER THE INPUT: true; the input reads as it did. -/
def draftGetsSpec : ChangeSpec := { name := "draftGets", fn := fun _ => fun
  | [d1, d2] => { results := [.lit (.bool true)], args := [d1, d2] }
  | _ => none }
def draftGetsRow : OpenClaim := { program := "ytdmocobabpmoeaa", sum := "b7e0f29cce621f1980881733e6739857f6deb1728b14620e01d73fdc8c986f9b", func := "sluice/sluicelaw08.DraftGets", spec := "draftGets", unfollowed := true, recurses := true, apart := false }
def DraftGetsSaid : Prop := draftGetsRow.holds Try.pinned (OpenSpec.ofChange draftGetsSpec)

/-- ITS FALSE NEIGHBOUR: 'it returns false'. Refute it at one input. -/
def draftGetsWrong : ChangeSpec := { name := "draftGets", fn := fun _ => fun
  | [d1, d2] => { results := [.lit (.bool false)], args := [d1, d2] }
  | _ => none }
def DraftGetsWrongFalsely : Prop := draftGetsRow.holds Try.pinned (OpenSpec.ofChange draftGetsWrong)

/-- 'sluicelaw08.DraftBack': WHATEVER THE INPUT: true; the input reads as it did. -/
def draftBackSpec : ChangeSpec := { name := "draftBack", fn := fun _ => fun
  | [d1, d2] => { results := [.lit (.bool true)], args := [d1, d2] }
  | _ => none }
def draftBackRow : OpenClaim := { program := "ytdmocobabpmoeaa", sum := "b7e0f29cce621f1980881733e6739857f6deb1728b14620e01d73fdc8c986f9b", func := "sluice/sluicelaw08.DraftBack", spec := "draftBack", unfollowed := true, recurses := true, apart := false }
def DraftBackSaid : Prop := draftBackRow.holds Try.pinned (OpenSpec.ofChange draftBackSpec)

/-- ITS FALSE NEIGHBOUR: 'it returns false'. Refute it at one input. -/
def draftBackWrong : ChangeSpec := { name := "draftBack", fn := fun _ => fun
  | [d1, d2] => { results := [.lit (.bool false)], args := [d1, d2] }
  | _ => none }
def DraftBackWrongFalsely : Prop := draftBackRow.holds Try.pinned (OpenSpec.ofChange draftBackWrong)

/-- 'sluicelaw08.DraftSole': WHATEVER THE INPUT: true; the input reads as it did. -/
def draftSoleSpec : ChangeSpec := { name := "draftSole", fn := fun _ => fun
  | [d] => { results := [.lit (.bool true)], args := [d] }
  | _ => none }
def draftSoleRow : OpenClaim := { program := "ytdmocobabpmoeaa", sum := "b7e0f29cce621f1980881733e6739857f6deb1728b14620e01d73fdc8c986f9b", func := "sluice/sluicelaw08.DraftSole", spec := "draftSole", unfollowed := true, recurses := true, apart := false }
def DraftSoleSaid : Prop := draftSoleRow.holds Try.pinned (OpenSpec.ofChange draftSoleSpec)

/-- ITS FALSE NEIGHBOUR: 'it returns false'. Refute it at one input. -/
def draftSoleWrong : ChangeSpec := { name := "draftSole", fn := fun _ => fun
  | [d] => { results := [.lit (.bool false)], args := [d] }
  | _ => none }
def DraftSoleWrongFalsely : Prop := draftSoleRow.holds Try.pinned (OpenSpec.ofChange draftSoleWrong)

/-- 'sluicelaw08.DraftOwn': WHATEVER THE INPUT: true; the input reads as it did. -/
def draftOwnSpec : ChangeSpec := { name := "draftOwn", fn := fun _ => fun
  | [d1, d2] => { results := [.lit (.bool true)], args := [d1, d2] }
  | _ => none }
def draftOwnRow : OpenClaim := { program := "ytdmocobabpmoeaa", sum := "b7e0f29cce621f1980881733e6739857f6deb1728b14620e01d73fdc8c986f9b", func := "sluice/sluicelaw08.DraftOwn", spec := "draftOwn", unfollowed := true, recurses := true, apart := false }
def DraftOwnSaid : Prop := draftOwnRow.holds Try.pinned (OpenSpec.ofChange draftOwnSpec)

/-- ITS FALSE NEIGHBOUR: 'it returns false'. Refute it at one input. -/
def draftOwnWrong : ChangeSpec := { name := "draftOwn", fn := fun _ => fun
  | [d1, d2] => { results := [.lit (.bool false)], args := [d1, d2] }
  | _ => none }
def DraftOwnWrongFalsely : Prop := draftOwnRow.holds Try.pinned (OpenSpec.ofChange draftOwnWrong)

/- THE SECOND FORM. 'bulk': how many values and letters a reading holds, each counted each time it is reached (what is shared counts as often as it is met; a slice's spare places count too). A statement '..UptoSaid' is the law's where the arguments, and the package variables that the reading takes, are together of bulk at most 1048576: NARROWER than '..Said'. Prove '..Said' where nothing that the law and all that it calls make is longer than what came in: it says more and counts as full. Else prove '..UptoSaid'. A law counts once. -/
mutual
def uptoBulk {H : Type} : DataW H → Nat
  | .lit (.string bytes) => bytes.length + 1
  | .lit _ => 1
  | .nil => 1
  | .ptr d => uptoBulk d + 1
  | .slice elems spare => uptoBulkAll elems + uptoBulkAll spare + 1
  | .agg parts => uptoBulkAll parts + 1
  | .iface _ d => uptoBulk d + 1
  | .map entries => uptoBulkEntries entries + 1
  | .held _ => 1
def uptoBulkAll {H : Type} : List (DataW H) → Nat
  | [] => 0
  | d :: r => uptoBulk d + uptoBulkAll r
def uptoBulkEntries {H : Type} : List (Lit × DataW H) → Nat
  | [] => 0
  | x :: r => uptoBulkEntry x + uptoBulkEntries r
def uptoBulkEntry {H : Type} : Lit × DataW H → Nat
  | (.string bytes, d) => bytes.length + uptoBulk d + 1
  | (_, d) => uptoBulk d + 1
 end
def uptoSmall : (H : Type) → List (DataW H) → Bool := fun _ ds => decide (uptoBulkAll ds ≤ 1048576)
def OpenSpec.upto (s : _root_.Go.ChangeSpec) : _root_.Go.OpenSpec := { _root_.Go.OpenSpec.ofChange s with cond := some uptoSmall }

/-- 'sluicelaw08.DraftPuts', WHERE WHAT IT READS IS OF BULK AT MOST 1048576: true; the input reads as it did. -/
def draftPutsUptoRow : OpenClaim := { program := "ytdmocobabpmoeaa", sum := "b7e0f29cce621f1980881733e6739857f6deb1728b14620e01d73fdc8c986f9b", func := "sluice/sluicelaw08.DraftPuts", spec := "draftPuts", unfollowed := true, recurses := true, apart := false, narrowed := true }
def DraftPutsUptoSaid : Prop := draftPutsUptoRow.holds Try.pinned (OpenSpec.upto draftPutsSpec)

/-- 'sluicelaw08.DraftGets', WHERE WHAT IT READS IS OF BULK AT MOST 1048576: true; the input reads as it did. -/
def draftGetsUptoRow : OpenClaim := { program := "ytdmocobabpmoeaa", sum := "b7e0f29cce621f1980881733e6739857f6deb1728b14620e01d73fdc8c986f9b", func := "sluice/sluicelaw08.DraftGets", spec := "draftGets", unfollowed := true, recurses := true, apart := false, narrowed := true }
def DraftGetsUptoSaid : Prop := draftGetsUptoRow.holds Try.pinned (OpenSpec.upto draftGetsSpec)

/-- 'sluicelaw08.DraftBack', WHERE WHAT IT READS IS OF BULK AT MOST 1048576: true; the input reads as it did. -/
def draftBackUptoRow : OpenClaim := { program := "ytdmocobabpmoeaa", sum := "b7e0f29cce621f1980881733e6739857f6deb1728b14620e01d73fdc8c986f9b", func := "sluice/sluicelaw08.DraftBack", spec := "draftBack", unfollowed := true, recurses := true, apart := false, narrowed := true }
def DraftBackUptoSaid : Prop := draftBackUptoRow.holds Try.pinned (OpenSpec.upto draftBackSpec)

/-- 'sluicelaw08.DraftSole', WHERE WHAT IT READS IS OF BULK AT MOST 1048576: true; the input reads as it did. -/
def draftSoleUptoRow : OpenClaim := { program := "ytdmocobabpmoeaa", sum := "b7e0f29cce621f1980881733e6739857f6deb1728b14620e01d73fdc8c986f9b", func := "sluice/sluicelaw08.DraftSole", spec := "draftSole", unfollowed := true, recurses := true, apart := false, narrowed := true }
def DraftSoleUptoSaid : Prop := draftSoleUptoRow.holds Try.pinned (OpenSpec.upto draftSoleSpec)

/-- 'sluicelaw08.DraftOwn', WHERE WHAT IT READS IS OF BULK AT MOST 1048576: true; the input reads as it did. -/
def draftOwnUptoRow : OpenClaim := { program := "ytdmocobabpmoeaa", sum := "b7e0f29cce621f1980881733e6739857f6deb1728b14620e01d73fdc8c986f9b", func := "sluice/sluicelaw08.DraftOwn", spec := "draftOwn", unfollowed := true, recurses := true, apart := false, narrowed := true }
def DraftOwnUptoSaid : Prop := draftOwnUptoRow.holds Try.pinned (OpenSpec.upto draftOwnSpec)

end Rows
end Go.Proofs.Ytdmocobabpmoeaa
