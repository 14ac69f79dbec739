/-
  NARROWER THAN 'FOR EVERY INPUT', by the rows' own cells (each row's printed sentence says how): SimplifyAtoms: loops.
  DERIVED. THE GIVEN ROWS OF THIS SEAT. 9 by the template 'for every input the law returns true; each argument reads behind the call as it read before'; 0 by the template 'total and deterministic' (their statements: YtcbnpddeiaccbaaTotals.lean).
  GIVEN WITH THE SEED: the statements are not yours to turn. If you find one false, say at which input.
  Laid BY PROGRAM, IN A SANDBOX (cutbox-rows.mjs): the forced cells as the released guide's own fill.sh prints them over the translation da288f64ac8526f2… (all of the seat's roots in one cut). By AI agents, Wed Nov 11 2026. No macro, syntax, notation, axiom, sorry.
-/
import Derived.Test.YtcbnpddeiaccbaaChecked
import GoSem.Claim
import GoSem.ClaimJoined
import GoSem.ClaimMapViews
import Derived.JoinedTies
import Derived.KernelRfl
namespace Go.Proofs.Ytcbnpddeiaccbaa
/- THE CELL 'sum', in the pinned program and in every row, IS THE sha256 OF THE DUMP (.gsa) THAT YtcbnpddeiaccbaaProg.lean LOADS. Nothing in Lean hashes anything: it is a label: what it is worth is what the hold of that sum in a sandbox is worth. -/
noncomputable def Try.pinned : Pinned := { name := "ytcbnpddeiaccbaa", sum := "da288f64ac8526f2ac68067002edfca4bfb89b1ba5085b5a5aa3f40c49b65778", checked := Try.checked }
namespace Rows
def none {H : Type} : Left H := { results := [], args := [] }

/-- 'cylinderlaw39.SimplifyAtoms': WHATEVER THE INPUT: true; the input reads as it did. -/
def simplifyAtomsSpec : ChangeSpec := { name := "simplifyAtoms", fn := fun _ => fun
  | [d1, d2, d3] => { results := [.lit (.bool true)], args := [d1, d2, d3] }
  | _ => none }
def simplifyAtomsRow : OpenClaim := { program := "ytcbnpddeiaccbaa", sum := "da288f64ac8526f2ac68067002edfca4bfb89b1ba5085b5a5aa3f40c49b65778", func := "cylinder/cylinderlaw39.SimplifyAtoms", spec := "simplifyAtoms", unfollowed := true, recurses := true, named := ["math/bits.overflowError", "math/bits.divideError"], loops := true, apart := false }
def SimplifyAtomsSaid : Prop := simplifyAtomsRow.holds Try.pinned (OpenSpec.ofChange simplifyAtomsSpec)

/-- ITS FALSE NEIGHBOUR: 'it returns false'. Refute it at one input. -/
def simplifyAtomsWrong : ChangeSpec := { name := "simplifyAtoms", fn := fun _ => fun
  | [d1, d2, d3] => { results := [.lit (.bool false)], args := [d1, d2, d3] }
  | _ => none }
def SimplifyAtomsWrongFalsely : Prop := simplifyAtomsRow.holds Try.pinned (OpenSpec.ofChange simplifyAtomsWrong)

/-- 'cylinderlaw39.SimplifyRelations': WHATEVER THE INPUT: true; the input reads as it did. -/
def simplifyRelationsSpec : ChangeSpec := { name := "simplifyRelations", fn := fun _ => fun
  | [d1, d2] => { results := [.lit (.bool true)], args := [d1, d2] }
  | _ => none }
def simplifyRelationsRow : OpenClaim := { program := "ytcbnpddeiaccbaa", sum := "da288f64ac8526f2ac68067002edfca4bfb89b1ba5085b5a5aa3f40c49b65778", func := "cylinder/cylinderlaw39.SimplifyRelations", spec := "simplifyRelations", unfollowed := true, recurses := true, named := ["math/bits.overflowError", "math/bits.divideError"], apart := false }
def SimplifyRelationsSaid : Prop := simplifyRelationsRow.holds Try.pinned (OpenSpec.ofChange simplifyRelationsSpec)

/-- ITS FALSE NEIGHBOUR: 'it returns false'. Refute it at one input. -/
def simplifyRelationsWrong : ChangeSpec := { name := "simplifyRelations", fn := fun _ => fun
  | [d1, d2] => { results := [.lit (.bool false)], args := [d1, d2] }
  | _ => none }
def SimplifyRelationsWrongFalsely : Prop := simplifyRelationsRow.holds Try.pinned (OpenSpec.ofChange simplifyRelationsWrong)

/-- 'cylinderlaw24.PseudoExact': WHATEVER THE INPUT: true; the input reads as it did. -/
def pseudoExactSpec : ChangeSpec := { name := "pseudoExact", fn := fun _ => fun
  | [d1, d2, d3] => { results := [.lit (.bool true)], args := [d1, d2, d3] }
  | _ => none }
def pseudoExactRow : OpenClaim := { program := "ytcbnpddeiaccbaa", sum := "da288f64ac8526f2ac68067002edfca4bfb89b1ba5085b5a5aa3f40c49b65778", func := "cylinder/cylinderlaw24.PseudoExact", spec := "pseudoExact", unfollowed := true, recurses := true, named := ["math/bits.overflowError", "math/bits.divideError"], apart := false }
def PseudoExactSaid : Prop := pseudoExactRow.holds Try.pinned (OpenSpec.ofChange pseudoExactSpec)

/-- ITS FALSE NEIGHBOUR: 'it returns false'. Refute it at one input. -/
def pseudoExactWrong : ChangeSpec := { name := "pseudoExact", fn := fun _ => fun
  | [d1, d2, d3] => { results := [.lit (.bool false)], args := [d1, d2, d3] }
  | _ => none }
def PseudoExactWrongFalsely : Prop := pseudoExactRow.holds Try.pinned (OpenSpec.ofChange pseudoExactWrong)

/-- 'cylinderlaw24.PseudoDivides': WHATEVER THE INPUT: true; the input reads as it did. -/
def pseudoDividesSpec : ChangeSpec := { name := "pseudoDivides", fn := fun _ => fun
  | [d1, d2, d3] => { results := [.lit (.bool true)], args := [d1, d2, d3] }
  | _ => none }
def pseudoDividesRow : OpenClaim := { program := "ytcbnpddeiaccbaa", sum := "da288f64ac8526f2ac68067002edfca4bfb89b1ba5085b5a5aa3f40c49b65778", func := "cylinder/cylinderlaw24.PseudoDivides", spec := "pseudoDivides", unfollowed := true, recurses := true, named := ["math/bits.overflowError", "math/bits.divideError"], apart := false }
def PseudoDividesSaid : Prop := pseudoDividesRow.holds Try.pinned (OpenSpec.ofChange pseudoDividesSpec)

/-- ITS FALSE NEIGHBOUR: 'it returns false'. Refute it at one input. -/
def pseudoDividesWrong : ChangeSpec := { name := "pseudoDivides", fn := fun _ => fun
  | [d1, d2, d3] => { results := [.lit (.bool false)], args := [d1, d2, d3] }
  | _ => none }
def PseudoDividesWrongFalsely : Prop := pseudoDividesRow.holds Try.pinned (OpenSpec.ofChange pseudoDividesWrong)

/-- 'cylinderlaw24.PseudoInexact': WHATEVER THE INPUT: true; the input reads as it did. -/
def pseudoInexactSpec : ChangeSpec := { name := "pseudoInexact", fn := fun _ => fun
  | [d1, d2, d3] => { results := [.lit (.bool true)], args := [d1, d2, d3] }
  | _ => none }
def pseudoInexactRow : OpenClaim := { program := "ytcbnpddeiaccbaa", sum := "da288f64ac8526f2ac68067002edfca4bfb89b1ba5085b5a5aa3f40c49b65778", func := "cylinder/cylinderlaw24.PseudoInexact", spec := "pseudoInexact", unfollowed := true, recurses := true, named := ["math/bits.overflowError", "math/bits.divideError"], apart := false }
def PseudoInexactSaid : Prop := pseudoInexactRow.holds Try.pinned (OpenSpec.ofChange pseudoInexactSpec)

/-- ITS FALSE NEIGHBOUR: 'it returns false'. Refute it at one input. -/
def pseudoInexactWrong : ChangeSpec := { name := "pseudoInexact", fn := fun _ => fun
  | [d1, d2, d3] => { results := [.lit (.bool false)], args := [d1, d2, d3] }
  | _ => none }
def PseudoInexactWrongFalsely : Prop := pseudoInexactRow.holds Try.pinned (OpenSpec.ofChange pseudoInexactWrong)

/-- 'cylinderlaw24.PseudoMultiplicity': WHATEVER THE INPUT: true; the input reads as it did. -/
def pseudoMultiplicitySpec : ChangeSpec := { name := "pseudoMultiplicity", fn := fun _ => fun
  | [d1, d2, d3] => { results := [.lit (.bool true)], args := [d1, d2, d3] }
  | _ => none }
def pseudoMultiplicityRow : OpenClaim := { program := "ytcbnpddeiaccbaa", sum := "da288f64ac8526f2ac68067002edfca4bfb89b1ba5085b5a5aa3f40c49b65778", func := "cylinder/cylinderlaw24.PseudoMultiplicity", spec := "pseudoMultiplicity", unfollowed := true, recurses := true, named := ["math/bits.overflowError", "math/bits.divideError"], apart := false }
def PseudoMultiplicitySaid : Prop := pseudoMultiplicityRow.holds Try.pinned (OpenSpec.ofChange pseudoMultiplicitySpec)

/-- ITS FALSE NEIGHBOUR: 'it returns false'. Refute it at one input. -/
def pseudoMultiplicityWrong : ChangeSpec := { name := "pseudoMultiplicity", fn := fun _ => fun
  | [d1, d2, d3] => { results := [.lit (.bool false)], args := [d1, d2, d3] }
  | _ => none }
def PseudoMultiplicityWrongFalsely : Prop := pseudoMultiplicityRow.holds Try.pinned (OpenSpec.ofChange pseudoMultiplicityWrong)

/-- 'cylinderlaw24.PseudoForms': WHATEVER THE INPUT: true; the input reads as it did. -/
def pseudoFormsSpec : ChangeSpec := { name := "pseudoForms", fn := fun _ => fun
  | [d1, d2, d3] => { results := [.lit (.bool true)], args := [d1, d2, d3] }
  | _ => none }
def pseudoFormsRow : OpenClaim := { program := "ytcbnpddeiaccbaa", sum := "da288f64ac8526f2ac68067002edfca4bfb89b1ba5085b5a5aa3f40c49b65778", func := "cylinder/cylinderlaw24.PseudoForms", spec := "pseudoForms", unfollowed := true, recurses := true, named := ["math/bits.overflowError", "math/bits.divideError"], apart := false }
def PseudoFormsSaid : Prop := pseudoFormsRow.holds Try.pinned (OpenSpec.ofChange pseudoFormsSpec)

/-- ITS FALSE NEIGHBOUR: 'it returns false'. Refute it at one input. -/
def pseudoFormsWrong : ChangeSpec := { name := "pseudoForms", fn := fun _ => fun
  | [d1, d2, d3] => { results := [.lit (.bool false)], args := [d1, d2, d3] }
  | _ => none }
def PseudoFormsWrongFalsely : Prop := pseudoFormsRow.holds Try.pinned (OpenSpec.ofChange pseudoFormsWrong)

/-- 'cylinderlaw24.PseudoWithout': WHATEVER THE INPUT: true; the input reads as it did. -/
def pseudoWithoutSpec : ChangeSpec := { name := "pseudoWithout", fn := fun _ => fun
  | [d1, d2] => { results := [.lit (.bool true)], args := [d1, d2] }
  | _ => none }
def pseudoWithoutRow : OpenClaim := { program := "ytcbnpddeiaccbaa", sum := "da288f64ac8526f2ac68067002edfca4bfb89b1ba5085b5a5aa3f40c49b65778", func := "cylinder/cylinderlaw24.PseudoWithout", spec := "pseudoWithout", unfollowed := true, recurses := true, named := ["math/bits.overflowError", "math/bits.divideError"], apart := false }
def PseudoWithoutSaid : Prop := pseudoWithoutRow.holds Try.pinned (OpenSpec.ofChange pseudoWithoutSpec)

/-- ITS FALSE NEIGHBOUR: 'it returns false'. Refute it at one input. -/
def pseudoWithoutWrong : ChangeSpec := { name := "pseudoWithout", fn := fun _ => fun
  | [d1, d2] => { results := [.lit (.bool false)], args := [d1, d2] }
  | _ => none }
def PseudoWithoutWrongFalsely : Prop := pseudoWithoutRow.holds Try.pinned (OpenSpec.ofChange pseudoWithoutWrong)

/-- 'cylinderlaw24.PseudoDivide': WHATEVER THE INPUT: true; the input reads as it did. -/
def pseudoDivideSpec : ChangeSpec := { name := "pseudoDivide", fn := fun _ => fun
  | [d1, d2, d3] => { results := [.lit (.bool true)], args := [d1, d2, d3] }
  | _ => none }
def pseudoDivideRow : OpenClaim := { program := "ytcbnpddeiaccbaa", sum := "da288f64ac8526f2ac68067002edfca4bfb89b1ba5085b5a5aa3f40c49b65778", func := "cylinder/cylinderlaw24.PseudoDivide", spec := "pseudoDivide", unfollowed := true, recurses := true, named := ["math/bits.overflowError", "math/bits.divideError"], apart := false }
def PseudoDivideSaid : Prop := pseudoDivideRow.holds Try.pinned (OpenSpec.ofChange pseudoDivideSpec)

/-- ITS FALSE NEIGHBOUR: 'it returns false'. Refute it at one input. -/
def pseudoDivideWrong : ChangeSpec := { name := "pseudoDivide", fn := fun _ => fun
  | [d1, d2, d3] => { results := [.lit (.bool false)], args := [d1, d2, d3] }
  | _ => none }
def PseudoDivideWrongFalsely : Prop := pseudoDivideRow.holds Try.pinned (OpenSpec.ofChange pseudoDivideWrong)

/- THE SECOND FORM. 'bulk': how many values and letters a reading holds, each counted each time it is reached (what is shared counts as often as it is met; a slice's spare places count too). A statement '..UptoSaid' is the law's where the arguments, and the package variables that the reading takes, are together of bulk at most 1048576: NARROWER than '..Said'. Prove '..Said' where nothing that the law and all that it calls make is longer than what came in: it says more and counts as full. Else prove '..UptoSaid'. A law counts once. -/
mutual
def uptoBulk {H : Type} : DataW H → Nat
  | .lit (.string bytes) => bytes.length + 1
  | .lit _ => 1
  | .nil => 1
  | .ptr d => uptoBulk d + 1
  | .slice elems spare => uptoBulkAll elems + uptoBulkAll spare + 1
  | .agg parts => uptoBulkAll parts + 1
  | .iface _ d => uptoBulk d + 1
  | .map entries => uptoBulkEntries entries + 1
  | .held _ => 1
def uptoBulkAll {H : Type} : List (DataW H) → Nat
  | [] => 0
  | d :: r => uptoBulk d + uptoBulkAll r
def uptoBulkEntries {H : Type} : List (Lit × DataW H) → Nat
  | [] => 0
  | x :: r => uptoBulkEntry x + uptoBulkEntries r
def uptoBulkEntry {H : Type} : Lit × DataW H → Nat
  | (.string bytes, d) => bytes.length + uptoBulk d + 1
  | (_, d) => uptoBulk d + 1
 end
def uptoSmall : (H : Type) → List (DataW H) → Bool := fun _ ds => decide (uptoBulkAll ds ≤ 1048576)
def OpenSpec.upto (s : _root_.Go.ChangeSpec) : _root_.Go.OpenSpec := { _root_.Go.OpenSpec.ofChange s with cond := some uptoSmall }

/-- 'cylinderlaw39.SimplifyAtoms', WHERE WHAT IT READS IS OF BULK AT MOST 1048576: true; the input reads as it did. -/
def simplifyAtomsUptoRow : OpenClaim := { program := "ytcbnpddeiaccbaa", sum := "da288f64ac8526f2ac68067002edfca4bfb89b1ba5085b5a5aa3f40c49b65778", func := "cylinder/cylinderlaw39.SimplifyAtoms", spec := "simplifyAtoms", unfollowed := true, recurses := true, named := ["math/bits.overflowError", "math/bits.divideError"], loops := true, apart := false, narrowed := true }
def SimplifyAtomsUptoSaid : Prop := simplifyAtomsUptoRow.holds Try.pinned (OpenSpec.upto simplifyAtomsSpec)

/-- 'cylinderlaw39.SimplifyRelations', WHERE WHAT IT READS IS OF BULK AT MOST 1048576: true; the input reads as it did. -/
def simplifyRelationsUptoRow : OpenClaim := { program := "ytcbnpddeiaccbaa", sum := "da288f64ac8526f2ac68067002edfca4bfb89b1ba5085b5a5aa3f40c49b65778", func := "cylinder/cylinderlaw39.SimplifyRelations", spec := "simplifyRelations", unfollowed := true, recurses := true, named := ["math/bits.overflowError", "math/bits.divideError"], apart := false, narrowed := true }
def SimplifyRelationsUptoSaid : Prop := simplifyRelationsUptoRow.holds Try.pinned (OpenSpec.upto simplifyRelationsSpec)

/-- 'cylinderlaw24.PseudoExact', WHERE WHAT IT READS IS OF BULK AT MOST 1048576: true; the input reads as it did. -/
def pseudoExactUptoRow : OpenClaim := { program := "ytcbnpddeiaccbaa", sum := "da288f64ac8526f2ac68067002edfca4bfb89b1ba5085b5a5aa3f40c49b65778", func := "cylinder/cylinderlaw24.PseudoExact", spec := "pseudoExact", unfollowed := true, recurses := true, named := ["math/bits.overflowError", "math/bits.divideError"], apart := false, narrowed := true }
def PseudoExactUptoSaid : Prop := pseudoExactUptoRow.holds Try.pinned (OpenSpec.upto pseudoExactSpec)

/-- 'cylinderlaw24.PseudoDivides', WHERE WHAT IT READS IS OF BULK AT MOST 1048576: true; the input reads as it did. -/
def pseudoDividesUptoRow : OpenClaim := { program := "ytcbnpddeiaccbaa", sum := "da288f64ac8526f2ac68067002edfca4bfb89b1ba5085b5a5aa3f40c49b65778", func := "cylinder/cylinderlaw24.PseudoDivides", spec := "pseudoDivides", unfollowed := true, recurses := true, named := ["math/bits.overflowError", "math/bits.divideError"], apart := false, narrowed := true }
def PseudoDividesUptoSaid : Prop := pseudoDividesUptoRow.holds Try.pinned (OpenSpec.upto pseudoDividesSpec)

/-- 'cylinderlaw24.PseudoInexact', WHERE WHAT IT READS IS OF BULK AT MOST 1048576: true; the input reads as it did. -/
def pseudoInexactUptoRow : OpenClaim := { program := "ytcbnpddeiaccbaa", sum := "da288f64ac8526f2ac68067002edfca4bfb89b1ba5085b5a5aa3f40c49b65778", func := "cylinder/cylinderlaw24.PseudoInexact", spec := "pseudoInexact", unfollowed := true, recurses := true, named := ["math/bits.overflowError", "math/bits.divideError"], apart := false, narrowed := true }
def PseudoInexactUptoSaid : Prop := pseudoInexactUptoRow.holds Try.pinned (OpenSpec.upto pseudoInexactSpec)

/-- 'cylinderlaw24.PseudoMultiplicity', WHERE WHAT IT READS IS OF BULK AT MOST 1048576: true; the input reads as it did. -/
def pseudoMultiplicityUptoRow : OpenClaim := { program := "ytcbnpddeiaccbaa", sum := "da288f64ac8526f2ac68067002edfca4bfb89b1ba5085b5a5aa3f40c49b65778", func := "cylinder/cylinderlaw24.PseudoMultiplicity", spec := "pseudoMultiplicity", unfollowed := true, recurses := true, named := ["math/bits.overflowError", "math/bits.divideError"], apart := false, narrowed := true }
def PseudoMultiplicityUptoSaid : Prop := pseudoMultiplicityUptoRow.holds Try.pinned (OpenSpec.upto pseudoMultiplicitySpec)

/-- 'cylinderlaw24.PseudoForms', WHERE WHAT IT READS IS OF BULK AT MOST 1048576: true; the input reads as it did. -/
def pseudoFormsUptoRow : OpenClaim := { program := "ytcbnpddeiaccbaa", sum := "da288f64ac8526f2ac68067002edfca4bfb89b1ba5085b5a5aa3f40c49b65778", func := "cylinder/cylinderlaw24.PseudoForms", spec := "pseudoForms", unfollowed := true, recurses := true, named := ["math/bits.overflowError", "math/bits.divideError"], apart := false, narrowed := true }
def PseudoFormsUptoSaid : Prop := pseudoFormsUptoRow.holds Try.pinned (OpenSpec.upto pseudoFormsSpec)

/-- 'cylinderlaw24.PseudoWithout', WHERE WHAT IT READS IS OF BULK AT MOST 1048576: true; the input reads as it did. -/
def pseudoWithoutUptoRow : OpenClaim := { program := "ytcbnpddeiaccbaa", sum := "da288f64ac8526f2ac68067002edfca4bfb89b1ba5085b5a5aa3f40c49b65778", func := "cylinder/cylinderlaw24.PseudoWithout", spec := "pseudoWithout", unfollowed := true, recurses := true, named := ["math/bits.overflowError", "math/bits.divideError"], apart := false, narrowed := true }
def PseudoWithoutUptoSaid : Prop := pseudoWithoutUptoRow.holds Try.pinned (OpenSpec.upto pseudoWithoutSpec)

/-- 'cylinderlaw24.PseudoDivide', WHERE WHAT IT READS IS OF BULK AT MOST 1048576: true; the input reads as it did. -/
def pseudoDivideUptoRow : OpenClaim := { program := "ytcbnpddeiaccbaa", sum := "da288f64ac8526f2ac68067002edfca4bfb89b1ba5085b5a5aa3f40c49b65778", func := "cylinder/cylinderlaw24.PseudoDivide", spec := "pseudoDivide", unfollowed := true, recurses := true, named := ["math/bits.overflowError", "math/bits.divideError"], apart := false, narrowed := true }
def PseudoDivideUptoSaid : Prop := pseudoDivideUptoRow.holds Try.pinned (OpenSpec.upto pseudoDivideSpec)

end Rows
end Go.Proofs.Ytcbnpddeiaccbaa
