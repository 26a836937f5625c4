
/-
  Bytes as text, and what package wire says of nil objects and of a first small run ('taken').
-/
import Derived.Test.YtdmocobabpmoeaaWireC
namespace Go.Proofs.Ytdmocobabpmoeaa
open Go.Vc Go.Sep Go.Ops
set_option linter.unusedVariables false
set_option linter.unusedSectionVars false
set_option linter.unusedSimpArgs false

/-- bytes as text -/
def txt (bs : List UInt8) : ByteArray := ⟨bs.toArray⟩
theorem txt_list (bs : List UInt8) : (txt bs).toList = bs := by rw [ByteArray.toList_eq]; simp [txt]
theorem txt_nums (bs : List UInt8) : strOfNums (bs.map fun b => (b.toNat : Int)) = txt bs := by
  have : (bs.map fun b => (b.toNat : Int)).map (fun i => UInt8.ofNat i.toNat) = bs := by
    rw [List.map_map]
    conv => rhs; rw [← List.map_id bs]
    refine List.map_congr_left fun b _ => ?_
    simp
  simp only [strOfNums, txt]
  congr 1
  simpa using congrArg List.toArray this
section
variable {W w : World} {L : List HProp} {K : Value → World → Prop} {X : XPost}
theorem run_str {v : Value} {bs : List UInt8} (R : Rd w v bs.length (bv bs)) : (convert 27 9 v).run Try.prog w = .ok (.string (txt bs)) w := by
  rcases R with ⟨rfl, h, _⟩ | ⟨g, off, cap, rfl, hn, hc⟩
  · have : bs = [] := List.eq_nil_of_length_eq_zero h
    subst this
    exact run_bytes_str_nil (e := 5) (by kernel_rfl)
  · rw [← txt_nums]
    refine run_bytes_str (e := 5) (by kernel_rfl) (by simp) ?_
    intro j hj
    refine hc j _ ?_
    simp [bv, hj]
theorem rv_str {v : Value} {bs : List UInt8} (R : Rd w v bs.length (bv bs)) (k : K (.string (txt bs)) w) : RunV Try.prog (convert 27 9 v) w K X := rv (run_str R) k
theorem eql_txt {a b : List UInt8} : ((txt a).toList == (txt b).toList) = decide (a = b) := by
  rw [txt_list, txt_list]
  by_cases h : a = b <;> simp [h]

theorem nz : ((((0 : Nat) : Int)) != 0) = false := rfl
theorem ez : ((((0 : Nat) : Int)) == 0) = true := rfl
end
end Go.Proofs.Ytdmocobabpmoeaa
