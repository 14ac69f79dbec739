/-
  NARROWER THAN 'FOR EVERY INPUT', by the rows' own cells (each row's printed sentence says how): SimplifyAtoms: loops.
  DERIVED. THE GIVEN ROWS OF THIS SEAT. 2 by the template 'for every input the law returns true; each argument reads behind the call as it read before'; 0 by the template 'total and deterministic' (their statements: YtkpmcldbcljkfaaTotals.lean).
  GIVEN WITH THE SEED: the statements are not yours to turn. If you find one false, say at which input.
  Laid BY PROGRAM, IN A SANDBOX (cutbox-rows.mjs): the forced cells as the released guide's own fill.sh prints them over the translation 9393ccc9dbb86ddc… (all of the seat's roots in one cut). By AI agents, Wed Nov 11 2026. No macro, syntax, notation, axiom, sorry.
-/
import Derived.Test.YtkpmcldbcljkfaaChecked
import GoSem.Claim
import GoSem.ClaimJoined
import GoSem.ClaimMapViews
import Derived.JoinedTies
import Derived.KernelRfl
namespace Go.Proofs.Ytkpmcldbcljkfaa
/- THE CELL 'sum', in the pinned program and in every row, IS THE sha256 OF THE DUMP (.gsa) THAT YtkpmcldbcljkfaaProg.lean LOADS. Nothing in Lean hashes anything: it is a label: what it is worth is what the hold of that sum in a sandbox is worth. -/
noncomputable def Try.pinned : Pinned := { name := "ytkpmcldbcljkfaa", sum := "9393ccc9dbb86ddc50e6c3a0ead4ee3ac3c184c9037d7c09dd92881489015304", checked := Try.checked }
namespace Rows
def none {H : Type} : Left H := { results := [], args := [] }

/-- 'cylinderlaw39.SimplifyAtoms': WHATEVER THE INPUT: true; the input reads as it did. -/
def simplifyAtomsSpec : ChangeSpec := { name := "simplifyAtoms", fn := fun _ => fun
  | [d1, d2, d3] => { results := [.lit (.bool true)], args := [d1, d2, d3] }
  | _ => none }
def simplifyAtomsRow : OpenClaim := { program := "ytkpmcldbcljkfaa", sum := "9393ccc9dbb86ddc50e6c3a0ead4ee3ac3c184c9037d7c09dd92881489015304", func := "cylinder/cylinderlaw39.SimplifyAtoms", spec := "simplifyAtoms", unfollowed := true, recurses := true, named := ["math/bits.overflowError", "math/bits.divideError"], loops := true, apart := false }
def SimplifyAtomsSaid : Prop := simplifyAtomsRow.holds Try.pinned (OpenSpec.ofChange simplifyAtomsSpec)

/-- ITS FALSE NEIGHBOUR: 'it returns false'. Refute it at one input. -/
def simplifyAtomsWrong : ChangeSpec := { name := "simplifyAtoms", fn := fun _ => fun
  | [d1, d2, d3] => { results := [.lit (.bool false)], args := [d1, d2, d3] }
  | _ => none }
def SimplifyAtomsWrongFalsely : Prop := simplifyAtomsRow.holds Try.pinned (OpenSpec.ofChange simplifyAtomsWrong)

/-- 'cylinderlaw39.SimplifyRelations': WHATEVER THE INPUT: true; the input reads as it did. -/
def simplifyRelationsSpec : ChangeSpec := { name := "simplifyRelations", fn := fun _ => fun
  | [d1, d2] => { results := [.lit (.bool true)], args := [d1, d2] }
  | _ => none }
def simplifyRelationsRow : OpenClaim := { program := "ytkpmcldbcljkfaa", sum := "9393ccc9dbb86ddc50e6c3a0ead4ee3ac3c184c9037d7c09dd92881489015304", func := "cylinder/cylinderlaw39.SimplifyRelations", spec := "simplifyRelations", unfollowed := true, recurses := true, named := ["math/bits.overflowError", "math/bits.divideError"], apart := false }
def SimplifyRelationsSaid : Prop := simplifyRelationsRow.holds Try.pinned (OpenSpec.ofChange simplifyRelationsSpec)

/-- ITS FALSE NEIGHBOUR: 'it returns false'. Refute it at one input. -/
def simplifyRelationsWrong : ChangeSpec := { name := "simplifyRelations", fn := fun _ => fun
  | [d1, d2] => { results := [.lit (.bool false)], args := [d1, d2] }
  | _ => none }
def SimplifyRelationsWrongFalsely : Prop := simplifyRelationsRow.holds Try.pinned (OpenSpec.ofChange simplifyRelationsWrong)

/- THE SECOND FORM. 'bulk': how many values and letters a reading holds, each counted each time it is reached (what is shared counts as often as it is met; a slice's spare places count too). A statement '..UptoSaid' is the law's where the arguments, and the package variables that the reading takes, are together of bulk at most 1048576: NARROWER than '..Said'. Prove '..Said' where nothing that the law and all that it calls make is longer than what came in: it says more and counts as full. Else prove '..UptoSaid'. A law counts once. -/
mutual
def uptoBulk {H : Type} : DataW H → Nat
  | .lit (.string bytes) => bytes.length + 1
  | .lit _ => 1
  | .nil => 1
  | .ptr d => uptoBulk d + 1
  | .slice elems spare => uptoBulkAll elems + uptoBulkAll spare + 1
  | .agg parts => uptoBulkAll parts + 1
  | .iface _ d => uptoBulk d + 1
  | .map entries => uptoBulkEntries entries + 1
  | .held _ => 1
def uptoBulkAll {H : Type} : List (DataW H) → Nat
  | [] => 0
  | d :: r => uptoBulk d + uptoBulkAll r
def uptoBulkEntries {H : Type} : List (Lit × DataW H) → Nat
  | [] => 0
  | x :: r => uptoBulkEntry x + uptoBulkEntries r
def uptoBulkEntry {H : Type} : Lit × DataW H → Nat
  | (.string bytes, d) => bytes.length + uptoBulk d + 1
  | (_, d) => uptoBulk d + 1
 end
def uptoSmall : (H : Type) → List (DataW H) → Bool := fun _ ds => decide (uptoBulkAll ds ≤ 1048576)
def OpenSpec.upto (s : _root_.Go.ChangeSpec) : _root_.Go.OpenSpec := { _root_.Go.OpenSpec.ofChange s with cond := some uptoSmall }

/-- 'cylinderlaw39.SimplifyAtoms', WHERE WHAT IT READS IS OF BULK AT MOST 1048576: true; the input reads as it did. -/
def simplifyAtomsUptoRow : OpenClaim := { program := "ytkpmcldbcljkfaa", sum := "9393ccc9dbb86ddc50e6c3a0ead4ee3ac3c184c9037d7c09dd92881489015304", func := "cylinder/cylinderlaw39.SimplifyAtoms", spec := "simplifyAtoms", unfollowed := true, recurses := true, named := ["math/bits.overflowError", "math/bits.divideError"], loops := true, apart := false, narrowed := true }
def SimplifyAtomsUptoSaid : Prop := simplifyAtomsUptoRow.holds Try.pinned (OpenSpec.upto simplifyAtomsSpec)

/-- 'cylinderlaw39.SimplifyRelations', WHERE WHAT IT READS IS OF BULK AT MOST 1048576: true; the input reads as it did. -/
def simplifyRelationsUptoRow : OpenClaim := { program := "ytkpmcldbcljkfaa", sum := "9393ccc9dbb86ddc50e6c3a0ead4ee3ac3c184c9037d7c09dd92881489015304", func := "cylinder/cylinderlaw39.SimplifyRelations", spec := "simplifyRelations", unfollowed := true, recurses := true, named := ["math/bits.overflowError", "math/bits.divideError"], apart := false, narrowed := true }
def SimplifyRelationsUptoSaid : Prop := simplifyRelationsUptoRow.holds Try.pinned (OpenSpec.upto simplifyRelationsSpec)

end Rows
end Go.Proofs.Ytkpmcldbcljkfaa
