/-
  NARROWER THAN 'FOR EVERY INPUT', by the rows' own cells (each row's printed sentence says how): TranslateDoes: loops, laid · TranslatePuts: laid · TranslateWitness: laid · TranslateStable: laid.
  DERIVED. THE GIVEN ROWS OF THIS SEAT. 4 by the template 'for every input the law returns true; each argument reads behind the call as it read before'; 0 by the template 'total and deterministic' (their statements: YtjfkhhfdfebpeaaGreatDoorTotals.lean).
  GIVEN WITH THE SEED: the statements are not yours to turn. If you find one false, say at which input.
  Laid BY PROGRAM, IN A SANDBOX (cutbox-rows.mjs): the forced cells as the released guide's own fill.sh prints them over the translation 92e9baa5a1c49cff… (all of the seat's roots in one cut). By AI agents, Wed Nov 11 2026. No macro, syntax, notation, axiom, sorry.
-/
import Derived.Test.YtjfkhhfdfebpeaaGreatDoorChecked
import GoSem.Claim
import GoSem.ClaimJoined
import GoSem.ClaimMapViews
import Derived.JoinedTies
import Derived.KernelRfl
namespace Go.Proofs.YtjfkhhfdfebpeaaGreatDoor
/- THE CELL 'sum', in the pinned program and in every row, IS THE sha256 OF THE DUMP (.gsa) THAT YtjfkhhfdfebpeaaGreatDoorProg.lean LOADS. Nothing in Lean hashes anything: it is a label: what it is worth is what the hold of that sum in a sandbox is worth. -/
noncomputable def Tryz.pinned : Pinned := { name := "ytjfkhhfdfebpeaagreatdoor", sum := "92e9baa5a1c49cff6207afc6f13d47ace93ede545433ac3b155dab4c81a1e5c5", checked := Tryz.checked }
namespace Rows
def none {H : Type} : Left H := { results := [], args := [] }

/- WHAT THE LISTED PACKAGE-LEVEL VARIABLES READ AS WHEN THE CALL BEGINS. Each datum BY PROGRAM (the guide's laid-datum.mjs) off the statement by which the dump's own 'gosem.cut.vars' lays the variable. In a bare row this is a premise. The card (YtjfkhhfdfebpeaaGreatDoorCards.lean) ties it to the program's text. -/
def laid_proofprograms_tree_arities {H : Type} : DataW H := .agg [.lit (.int .i64 0), .lit (.int .i64 0), .lit (.int .i64 1), .lit (.int .i64 2), .lit (.int .i64 0), .lit (.int .i64 1), .lit (.int .i64 3), .lit (.int .i64 0), .lit (.int .i64 2), .lit (.int .i64 3), .lit (.int .i64 2), .lit (.int .i64 1), .lit (.int .i64 1), .lit (.int .i64 0)]
def laid_proofprograms_tree_rules {H : Type} : DataW H := .agg [.agg [.lit (.bool false), .lit (.bool false), .lit (.int .i64 0), .lit (.int .i64 0), .lit (.int .i64 0), .lit (.int .i64 0), .lit (.int .i64 0), .lit (.int .i64 0)], .agg [.lit (.bool true), .lit (.bool false), .lit (.int .i64 0), .lit (.int .i64 0), .lit (.int .i64 0), .lit (.int .i64 0), .lit (.int .i64 0), .lit (.int .i64 0)], .agg [.lit (.bool true), .lit (.bool false), .lit (.int .i64 0), .lit (.int .i64 0), .lit (.int .i64 0), .lit (.int .i64 0), .lit (.int .i64 0), .lit (.int .i64 0)], .agg [.lit (.bool false), .lit (.bool false), .lit (.int .i64 0), .lit (.int .i64 0), .lit (.int .i64 2), .lit (.int .i64 0), .lit (.int .i64 0), .lit (.int .i64 0)], .agg [.lit (.bool false), .lit (.bool false), .lit (.int .i64 0), .lit (.int .i64 0), .lit (.int .i64 1), .lit (.int .i64 0), .lit (.int .i64 0), .lit (.int .i64 0)], .agg [.lit (.bool false), .lit (.bool false), .lit (.int .i64 0), .lit (.int .i64 0), .lit (.int .i64 1), .lit (.int .i64 0), .lit (.int .i64 0), .lit (.int .i64 0)], .agg [.lit (.bool false), .lit (.bool false), .lit (.int .i64 0), .lit (.int .i64 1), .lit (.int .i64 1), .lit (.int .i64 0), .lit (.int .i64 0), .lit (.int .i64 1)], .agg [.lit (.bool false), .lit (.bool false), .lit (.int .i64 0), .lit (.int .i64 0), .lit (.int .i64 2), .lit (.int .i64 0), .lit (.int .i64 0), .lit (.int .i64 0)], .agg [.lit (.bool false), .lit (.bool true), .lit (.int .i64 0), .lit (.int .i64 0), .lit (.int .i64 1), .lit (.int .i64 0), .lit (.int .i64 1), .lit (.int .i64 0)], .agg [.lit (.bool false), .lit (.bool false), .lit (.int .i64 1), .lit (.int .i64 0), .lit (.int .i64 1), .lit (.int .i64 0), .lit (.int .i64 0), .lit (.int .i64 0)], .agg [.lit (.bool false), .lit (.bool false), .lit (.int .i64 1), .lit (.int .i64 1), .lit (.int .i64 1), .lit (.int .i64 0), .lit (.int .i64 0), .lit (.int .i64 0)], .agg [.lit (.bool false), .lit (.bool false), .lit (.int .i64 0), .lit (.int .i64 0), .lit (.int .i64 2), .lit (.int .i64 0), .lit (.int .i64 1), .lit (.int .i64 1)], .agg [.lit (.bool false), .lit (.bool true), .lit (.int .i64 0), .lit (.int .i64 0), .lit (.int .i64 1), .lit (.int .i64 0), .lit (.int .i64 1), .lit (.int .i64 0)], .agg [.lit (.bool false), .lit (.bool false), .lit (.int .i64 1), .lit (.int .i64 0), .lit (.int .i64 1), .lit (.int .i64 0), .lit (.int .i64 0), .lit (.int .i64 0)], .agg [.lit (.bool false), .lit (.bool false), .lit (.int .i64 1), .lit (.int .i64 1), .lit (.int .i64 1), .lit (.int .i64 0), .lit (.int .i64 0), .lit (.int .i64 0)], .agg [.lit (.bool false), .lit (.bool false), .lit (.int .i64 0), .lit (.int .i64 0), .lit (.int .i64 2), .lit (.int .i64 0), .lit (.int .i64 1), .lit (.int .i64 1)], .agg [.lit (.bool false), .lit (.bool false), .lit (.int .i64 1), .lit (.int .i64 1), .lit (.int .i64 2), .lit (.int .i64 1), .lit (.int .i64 1), .lit (.int .i64 1)], .agg [.lit (.bool false), .lit (.bool false), .lit (.int .i64 1), .lit (.int .i64 1), .lit (.int .i64 2), .lit (.int .i64 1), .lit (.int .i64 2), .lit (.int .i64 1)], .agg [.lit (.bool false), .lit (.bool false), .lit (.int .i64 1), .lit (.int .i64 0), .lit (.int .i64 0), .lit (.int .i64 0), .lit (.int .i64 0), .lit (.int .i64 0)], .agg [.lit (.bool false), .lit (.bool false), .lit (.int .i64 0), .lit (.int .i64 1), .lit (.int .i64 2), .lit (.int .i64 1), .lit (.int .i64 0), .lit (.int .i64 0)], .agg [.lit (.bool false), .lit (.bool false), .lit (.int .i64 0), .lit (.int .i64 0), .lit (.int .i64 1), .lit (.int .i64 0), .lit (.int .i64 0), .lit (.int .i64 0)]]

/-- 'proofprogramslaw20.TranslateDoes': WHATEVER THE INPUT: true; the input reads as it did. -/
def translateDoesSpec : ChangeSpec := { name := "translateDoes", fn := fun _ => fun
  | [d1, d2, d3] => { results := [.lit (.bool true)], args := [d1, d2, d3] }
  | _ => none }
def translateDoesRow : OpenClaim := { program := "ytjfkhhfdfebpeaagreatdoor", sum := "92e9baa5a1c49cff6207afc6f13d47ace93ede545433ac3b155dab4c81a1e5c5", func := "proofprograms/proofprogramslaw20.TranslateDoes", spec := "translateDoes", unfollowed := true, recurses := true, named := ["proofprograms/tree.arities"], loops := true, apart := false, laid := [("proofprograms/tree.arities", laid_proofprograms_tree_arities)] }
def TranslateDoesSaid : Prop := translateDoesRow.holds Tryz.pinned (OpenSpec.ofChange translateDoesSpec)

/-- ITS FALSE NEIGHBOUR: 'it returns false'. Refute it at one input. -/
def translateDoesWrong : ChangeSpec := { name := "translateDoes", fn := fun _ => fun
  | [d1, d2, d3] => { results := [.lit (.bool false)], args := [d1, d2, d3] }
  | _ => none }
def TranslateDoesWrongFalsely : Prop := translateDoesRow.holds Tryz.pinned (OpenSpec.ofChange translateDoesWrong)

/-- 'proofprogramslaw20.TranslatePuts': WHATEVER THE INPUT: true; the input reads as it did. -/
def translatePutsSpec : ChangeSpec := { name := "translatePuts", fn := fun _ => fun
  | [d] => { results := [.lit (.bool true)], args := [d] }
  | _ => none }
def translatePutsRow : OpenClaim := { program := "ytjfkhhfdfebpeaagreatdoor", sum := "92e9baa5a1c49cff6207afc6f13d47ace93ede545433ac3b155dab4c81a1e5c5", func := "proofprograms/proofprogramslaw20.TranslatePuts", spec := "translatePuts", unfollowed := true, recurses := true, named := ["proofprograms/tree.arities"], apart := false, laid := [("proofprograms/tree.arities", laid_proofprograms_tree_arities)] }
def TranslatePutsSaid : Prop := translatePutsRow.holds Tryz.pinned (OpenSpec.ofChange translatePutsSpec)

/-- ITS FALSE NEIGHBOUR: 'it returns false'. Refute it at one input. -/
def translatePutsWrong : ChangeSpec := { name := "translatePuts", fn := fun _ => fun
  | [d] => { results := [.lit (.bool false)], args := [d] }
  | _ => none }
def TranslatePutsWrongFalsely : Prop := translatePutsRow.holds Tryz.pinned (OpenSpec.ofChange translatePutsWrong)

/-- 'proofprogramslaw20.TranslateWitness': WHATEVER THE INPUT: true; the input reads as it did. -/
def translateWitnessSpec : ChangeSpec := { name := "translateWitness", fn := fun _ => fun
  | [d] => { results := [.lit (.bool true)], args := [d] }
  | _ => none }
def translateWitnessRow : OpenClaim := { program := "ytjfkhhfdfebpeaagreatdoor", sum := "92e9baa5a1c49cff6207afc6f13d47ace93ede545433ac3b155dab4c81a1e5c5", func := "proofprograms/proofprogramslaw20.TranslateWitness", spec := "translateWitness", unfollowed := true, recurses := true, named := ["proofprograms/tree.arities", "proofprograms/tree.rules"], apart := false, laid := [("proofprograms/tree.rules", laid_proofprograms_tree_rules), ("proofprograms/tree.arities", laid_proofprograms_tree_arities)] }
def TranslateWitnessSaid : Prop := translateWitnessRow.holds Tryz.pinned (OpenSpec.ofChange translateWitnessSpec)

/-- ITS FALSE NEIGHBOUR: 'it returns false'. Refute it at one input. -/
def translateWitnessWrong : ChangeSpec := { name := "translateWitness", fn := fun _ => fun
  | [d] => { results := [.lit (.bool false)], args := [d] }
  | _ => none }
def TranslateWitnessWrongFalsely : Prop := translateWitnessRow.holds Tryz.pinned (OpenSpec.ofChange translateWitnessWrong)

/-- 'proofprogramslaw20.TranslateStable': WHATEVER THE INPUT: true; the input reads as it did. -/
def translateStableSpec : ChangeSpec := { name := "translateStable", fn := fun _ => fun
  | [d] => { results := [.lit (.bool true)], args := [d] }
  | _ => none }
def translateStableRow : OpenClaim := { program := "ytjfkhhfdfebpeaagreatdoor", sum := "92e9baa5a1c49cff6207afc6f13d47ace93ede545433ac3b155dab4c81a1e5c5", func := "proofprograms/proofprogramslaw20.TranslateStable", spec := "translateStable", unfollowed := true, recurses := true, named := ["proofprograms/tree.arities", "proofprograms/tree.rules"], apart := false, laid := [("proofprograms/tree.rules", laid_proofprograms_tree_rules), ("proofprograms/tree.arities", laid_proofprograms_tree_arities)] }
def TranslateStableSaid : Prop := translateStableRow.holds Tryz.pinned (OpenSpec.ofChange translateStableSpec)

/-- ITS FALSE NEIGHBOUR: 'it returns false'. Refute it at one input. -/
def translateStableWrong : ChangeSpec := { name := "translateStable", fn := fun _ => fun
  | [d] => { results := [.lit (.bool false)], args := [d] }
  | _ => none }
def TranslateStableWrongFalsely : Prop := translateStableRow.holds Tryz.pinned (OpenSpec.ofChange translateStableWrong)

/- THE SECOND FORM. 'bulk': how many values and letters a reading holds, each counted each time it is reached (what is shared counts as often as it is met; a slice's spare places count too). A statement '..UptoSaid' is the law's where the arguments, and the package variables that the reading takes, are together of bulk at most 1048576: NARROWER than '..Said'. Prove '..Said' where nothing that the law and all that it calls make is longer than what came in: it says more and counts as full. Else prove '..UptoSaid'. A law counts once. -/
mutual
def uptoBulk {H : Type} : DataW H → Nat
  | .lit (.string bytes) => bytes.length + 1
  | .lit _ => 1
  | .nil => 1
  | .ptr d => uptoBulk d + 1
  | .slice elems spare => uptoBulkAll elems + uptoBulkAll spare + 1
  | .agg parts => uptoBulkAll parts + 1
  | .iface _ d => uptoBulk d + 1
  | .map entries => uptoBulkEntries entries + 1
  | .held _ => 1
def uptoBulkAll {H : Type} : List (DataW H) → Nat
  | [] => 0
  | d :: r => uptoBulk d + uptoBulkAll r
def uptoBulkEntries {H : Type} : List (Lit × DataW H) → Nat
  | [] => 0
  | x :: r => uptoBulkEntry x + uptoBulkEntries r
def uptoBulkEntry {H : Type} : Lit × DataW H → Nat
  | (.string bytes, d) => bytes.length + uptoBulk d + 1
  | (_, d) => uptoBulk d + 1
 end
def uptoSmall : (H : Type) → List (DataW H) → Bool := fun _ ds => decide (uptoBulkAll ds ≤ 1048576)
def OpenSpec.upto (s : _root_.Go.ChangeSpec) : _root_.Go.OpenSpec := { _root_.Go.OpenSpec.ofChange s with cond := some uptoSmall }

/-- 'proofprogramslaw20.TranslateDoes', WHERE WHAT IT READS IS OF BULK AT MOST 1048576: true; the input reads as it did. -/
def translateDoesUptoRow : OpenClaim := { program := "ytjfkhhfdfebpeaagreatdoor", sum := "92e9baa5a1c49cff6207afc6f13d47ace93ede545433ac3b155dab4c81a1e5c5", func := "proofprograms/proofprogramslaw20.TranslateDoes", spec := "translateDoes", unfollowed := true, recurses := true, named := ["proofprograms/tree.arities"], loops := true, apart := false, laid := [("proofprograms/tree.arities", laid_proofprograms_tree_arities)], narrowed := true }
def TranslateDoesUptoSaid : Prop := translateDoesUptoRow.holds Tryz.pinned (OpenSpec.upto translateDoesSpec)

/-- 'proofprogramslaw20.TranslatePuts', WHERE WHAT IT READS IS OF BULK AT MOST 1048576: true; the input reads as it did. -/
def translatePutsUptoRow : OpenClaim := { program := "ytjfkhhfdfebpeaagreatdoor", sum := "92e9baa5a1c49cff6207afc6f13d47ace93ede545433ac3b155dab4c81a1e5c5", func := "proofprograms/proofprogramslaw20.TranslatePuts", spec := "translatePuts", unfollowed := true, recurses := true, named := ["proofprograms/tree.arities"], apart := false, laid := [("proofprograms/tree.arities", laid_proofprograms_tree_arities)], narrowed := true }
def TranslatePutsUptoSaid : Prop := translatePutsUptoRow.holds Tryz.pinned (OpenSpec.upto translatePutsSpec)

/-- 'proofprogramslaw20.TranslateWitness', WHERE WHAT IT READS IS OF BULK AT MOST 1048576: true; the input reads as it did. -/
def translateWitnessUptoRow : OpenClaim := { program := "ytjfkhhfdfebpeaagreatdoor", sum := "92e9baa5a1c49cff6207afc6f13d47ace93ede545433ac3b155dab4c81a1e5c5", func := "proofprograms/proofprogramslaw20.TranslateWitness", spec := "translateWitness", unfollowed := true, recurses := true, named := ["proofprograms/tree.arities", "proofprograms/tree.rules"], apart := false, laid := [("proofprograms/tree.rules", laid_proofprograms_tree_rules), ("proofprograms/tree.arities", laid_proofprograms_tree_arities)], narrowed := true }
def TranslateWitnessUptoSaid : Prop := translateWitnessUptoRow.holds Tryz.pinned (OpenSpec.upto translateWitnessSpec)

/-- 'proofprogramslaw20.TranslateStable', WHERE WHAT IT READS IS OF BULK AT MOST 1048576: true; the input reads as it did. -/
def translateStableUptoRow : OpenClaim := { program := "ytjfkhhfdfebpeaagreatdoor", sum := "92e9baa5a1c49cff6207afc6f13d47ace93ede545433ac3b155dab4c81a1e5c5", func := "proofprograms/proofprogramslaw20.TranslateStable", spec := "translateStable", unfollowed := true, recurses := true, named := ["proofprograms/tree.arities", "proofprograms/tree.rules"], apart := false, laid := [("proofprograms/tree.rules", laid_proofprograms_tree_rules), ("proofprograms/tree.arities", laid_proofprograms_tree_arities)], narrowed := true }
def TranslateStableUptoSaid : Prop := translateStableUptoRow.holds Tryz.pinned (OpenSpec.upto translateStableSpec)

end Rows
end Go.Proofs.YtjfkhhfdfebpeaaGreatDoor
