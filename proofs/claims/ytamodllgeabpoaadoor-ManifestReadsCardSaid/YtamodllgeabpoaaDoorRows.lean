/-
  NARROWER THAN 'FOR EVERY INPUT', by the rows' own cells (each row's printed sentence says how): ManifestChecks: laid · ManifestReads: laid · ManifestOne: laid · ManifestLent: laid · ManifestAgain: laid · ManifestStroke: laid.
  DERIVED. THE GIVEN ROWS OF THIS SEAT. 6 by the template 'for every input the law returns true; each argument reads behind the call as it read before'; 0 by the template 'total and deterministic' (their statements: YtamodllgeabpoaaDoorTotals.lean).
  GIVEN WITH THE SEED: the statements are not yours to turn. If you find one false, say at which input.
  Laid BY PROGRAM, IN A SANDBOX (cutbox-rows.mjs): the forced cells as the released guide's own fill.sh prints them over the translation 533b4d8e2543fadc… (all of the seat's roots in one cut). By AI agents, Wed Nov 11 2026. No macro, syntax, notation, axiom, sorry.
-/
import Derived.Test.YtamodllgeabpoaaDoorChecked
import GoSem.Claim
import GoSem.ClaimJoined
import GoSem.ClaimMapViews
import Derived.JoinedTies
import Derived.KernelRfl
namespace Go.Proofs.YtamodllgeabpoaaDoor
/- THE CELL 'sum', in the pinned program and in every row, IS THE sha256 OF THE DUMP (.gsa) THAT YtamodllgeabpoaaDoorProg.lean LOADS. Nothing in Lean hashes anything: it is a label: what it is worth is what the hold of that sum in a sandbox is worth. -/
noncomputable def Tryd.pinned : Pinned := { name := "ytamodllgeabpoaadoor", sum := "533b4d8e2543fadc8cf09a59ff57f85be36ed42bd271fa0916e351883e8eedd2", checked := Tryd.checked }
namespace Rows
def none {H : Type} : Left H := { results := [], args := [] }

/- WHAT THE LISTED PACKAGE-LEVEL VARIABLES READ AS WHEN THE CALL BEGINS. Each datum BY PROGRAM (the guide's laid-datum.mjs) off the statement by which the dump's own 'gosem.cut.vars' lays the variable. In a bare row this is a premise. The card (YtamodllgeabpoaaDoorCards.lean) ties it to the program's text. -/
def laid_annals_wire_table {H : Type} : DataW H := .agg [.lit (.int .u32 0), .lit (.int .u32 498536548), .lit (.int .u32 997073096), .lit (.int .u32 651767980), .lit (.int .u32 1994146192), .lit (.int .u32 1802195444), .lit (.int .u32 1303535960), .lit (.int .u32 1342533948), .lit (.int .u32 3988292384), .lit (.int .u32 4027552580), .lit (.int .u32 3604390888), .lit (.int .u32 3412177804), .lit (.int .u32 2607071920), .lit (.int .u32 2262029012), .lit (.int .u32 2685067896), .lit (.int .u32 3183342108)]

/-- 'annalslaw8.ManifestChecks': WHATEVER THE INPUT: true; the input reads as it did. -/
def manifestChecksSpec : ChangeSpec := { name := "manifestChecks", fn := fun _ => fun
  | [d] => { results := [.lit (.bool true)], args := [d] }
  | _ => none }
def manifestChecksRow : OpenClaim := { program := "ytamodllgeabpoaadoor", sum := "533b4d8e2543fadc8cf09a59ff57f85be36ed42bd271fa0916e351883e8eedd2", func := "annals/annalslaw8.ManifestChecks", spec := "manifestChecks", named := ["annals/wire.table"], apart := false, laid := [("annals/wire.table", laid_annals_wire_table)] }
def ManifestChecksSaid : Prop := manifestChecksRow.holds Tryd.pinned (OpenSpec.ofChange manifestChecksSpec)

/-- ITS FALSE NEIGHBOUR: 'it returns false'. Refute it at one input. -/
def manifestChecksWrong : ChangeSpec := { name := "manifestChecks", fn := fun _ => fun
  | [d] => { results := [.lit (.bool false)], args := [d] }
  | _ => none }
def ManifestChecksWrongFalsely : Prop := manifestChecksRow.holds Tryd.pinned (OpenSpec.ofChange manifestChecksWrong)

/-- 'annalslaw8.ManifestReads': WHATEVER THE INPUT: true; the input reads as it did. -/
def manifestReadsSpec : ChangeSpec := { name := "manifestReads", fn := fun _ => fun
  | [d] => { results := [.lit (.bool true)], args := [d] }
  | _ => none }
def manifestReadsRow : OpenClaim := { program := "ytamodllgeabpoaadoor", sum := "533b4d8e2543fadc8cf09a59ff57f85be36ed42bd271fa0916e351883e8eedd2", func := "annals/annalslaw8.ManifestReads", spec := "manifestReads", named := ["annals/wire.table"], apart := false, laid := [("annals/wire.table", laid_annals_wire_table)] }
def ManifestReadsSaid : Prop := manifestReadsRow.holds Tryd.pinned (OpenSpec.ofChange manifestReadsSpec)

/-- ITS FALSE NEIGHBOUR: 'it returns false'. Refute it at one input. -/
def manifestReadsWrong : ChangeSpec := { name := "manifestReads", fn := fun _ => fun
  | [d] => { results := [.lit (.bool false)], args := [d] }
  | _ => none }
def ManifestReadsWrongFalsely : Prop := manifestReadsRow.holds Tryd.pinned (OpenSpec.ofChange manifestReadsWrong)

/-- 'annalslaw8.ManifestOne': WHATEVER THE INPUT: true; the input reads as it did. -/
def manifestOneSpec : ChangeSpec := { name := "manifestOne", fn := fun _ => fun
  | [d1, d2] => { results := [.lit (.bool true)], args := [d1, d2] }
  | _ => none }
def manifestOneRow : OpenClaim := { program := "ytamodllgeabpoaadoor", sum := "533b4d8e2543fadc8cf09a59ff57f85be36ed42bd271fa0916e351883e8eedd2", func := "annals/annalslaw8.ManifestOne", spec := "manifestOne", named := ["annals/wire.table"], apart := false, laid := [("annals/wire.table", laid_annals_wire_table)] }
def ManifestOneSaid : Prop := manifestOneRow.holds Tryd.pinned (OpenSpec.ofChange manifestOneSpec)

/-- ITS FALSE NEIGHBOUR: 'it returns false'. Refute it at one input. -/
def manifestOneWrong : ChangeSpec := { name := "manifestOne", fn := fun _ => fun
  | [d1, d2] => { results := [.lit (.bool false)], args := [d1, d2] }
  | _ => none }
def ManifestOneWrongFalsely : Prop := manifestOneRow.holds Tryd.pinned (OpenSpec.ofChange manifestOneWrong)

/-- 'annalslaw8.ManifestLent': WHATEVER THE INPUT: true; the input reads as it did. -/
def manifestLentSpec : ChangeSpec := { name := "manifestLent", fn := fun _ => fun
  | [d1, d2] => { results := [.lit (.bool true)], args := [d1, d2] }
  | _ => none }
def manifestLentRow : OpenClaim := { program := "ytamodllgeabpoaadoor", sum := "533b4d8e2543fadc8cf09a59ff57f85be36ed42bd271fa0916e351883e8eedd2", func := "annals/annalslaw8.ManifestLent", spec := "manifestLent", inPlace := ["maps.clone"], unfollowed := true, recurses := true, named := ["annals/wire.table"], apart := false, laid := [("annals/wire.table", laid_annals_wire_table)] }
def ManifestLentSaid : Prop := manifestLentRow.holds Tryd.pinned (OpenSpec.ofChange manifestLentSpec)

/-- ITS FALSE NEIGHBOUR: 'it returns false'. Refute it at one input. -/
def manifestLentWrong : ChangeSpec := { name := "manifestLent", fn := fun _ => fun
  | [d1, d2] => { results := [.lit (.bool false)], args := [d1, d2] }
  | _ => none }
def ManifestLentWrongFalsely : Prop := manifestLentRow.holds Tryd.pinned (OpenSpec.ofChange manifestLentWrong)

/-- 'annalslaw8.ManifestAgain': WHATEVER THE INPUT: true; the input reads as it did. -/
def manifestAgainSpec : ChangeSpec := { name := "manifestAgain", fn := fun _ => fun
  | [d1, d2, d3] => { results := [.lit (.bool true)], args := [d1, d2, d3] }
  | _ => none }
def manifestAgainRow : OpenClaim := { program := "ytamodllgeabpoaadoor", sum := "533b4d8e2543fadc8cf09a59ff57f85be36ed42bd271fa0916e351883e8eedd2", func := "annals/annalslaw8.ManifestAgain", spec := "manifestAgain", inPlace := ["maps.clone"], unfollowed := true, recurses := true, named := ["annals/wire.table"], apart := false, laid := [("annals/wire.table", laid_annals_wire_table)] }
def ManifestAgainSaid : Prop := manifestAgainRow.holds Tryd.pinned (OpenSpec.ofChange manifestAgainSpec)

/-- ITS FALSE NEIGHBOUR: 'it returns false'. Refute it at one input. -/
def manifestAgainWrong : ChangeSpec := { name := "manifestAgain", fn := fun _ => fun
  | [d1, d2, d3] => { results := [.lit (.bool false)], args := [d1, d2, d3] }
  | _ => none }
def ManifestAgainWrongFalsely : Prop := manifestAgainRow.holds Tryd.pinned (OpenSpec.ofChange manifestAgainWrong)

/-- 'annalslaw8.ManifestStroke': WHATEVER THE INPUT: true; the input reads as it did. -/
def manifestStrokeSpec : ChangeSpec := { name := "manifestStroke", fn := fun _ => fun
  | [d1, d2, d3, d4, d5, d6, d7] => { results := [.lit (.bool true)], args := [d1, d2, d3, d4, d5, d6, d7] }
  | _ => none }
def manifestStrokeRow : OpenClaim := { program := "ytamodllgeabpoaadoor", sum := "533b4d8e2543fadc8cf09a59ff57f85be36ed42bd271fa0916e351883e8eedd2", func := "annals/annalslaw8.ManifestStroke", spec := "manifestStroke", inPlace := ["maps.clone"], unfollowed := true, recurses := true, named := ["annals/wire.table"], apart := false, laid := [("annals/wire.table", laid_annals_wire_table)] }
def ManifestStrokeSaid : Prop := manifestStrokeRow.holds Tryd.pinned (OpenSpec.ofChange manifestStrokeSpec)

/-- ITS FALSE NEIGHBOUR: 'it returns false'. Refute it at one input. -/
def manifestStrokeWrong : ChangeSpec := { name := "manifestStroke", fn := fun _ => fun
  | [d1, d2, d3, d4, d5, d6, d7] => { results := [.lit (.bool false)], args := [d1, d2, d3, d4, d5, d6, d7] }
  | _ => none }
def ManifestStrokeWrongFalsely : Prop := manifestStrokeRow.holds Tryd.pinned (OpenSpec.ofChange manifestStrokeWrong)

/- THE SECOND FORM. 'bulk': how many values and letters a reading holds, each counted each time it is reached (what is shared counts as often as it is met; a slice's spare places count too). A statement '..UptoSaid' is the law's where the arguments, and the package variables that the reading takes, are together of bulk at most 1048576: NARROWER than '..Said'. Prove '..Said' where nothing that the law and all that it calls make is longer than what came in: it says more and counts as full. Else prove '..UptoSaid'. A law counts once. -/
mutual
def uptoBulk {H : Type} : DataW H → Nat
  | .lit (.string bytes) => bytes.length + 1
  | .lit _ => 1
  | .nil => 1
  | .ptr d => uptoBulk d + 1
  | .slice elems spare => uptoBulkAll elems + uptoBulkAll spare + 1
  | .agg parts => uptoBulkAll parts + 1
  | .iface _ d => uptoBulk d + 1
  | .map entries => uptoBulkEntries entries + 1
  | .held _ => 1
def uptoBulkAll {H : Type} : List (DataW H) → Nat
  | [] => 0
  | d :: r => uptoBulk d + uptoBulkAll r
def uptoBulkEntries {H : Type} : List (Lit × DataW H) → Nat
  | [] => 0
  | x :: r => uptoBulkEntry x + uptoBulkEntries r
def uptoBulkEntry {H : Type} : Lit × DataW H → Nat
  | (.string bytes, d) => bytes.length + uptoBulk d + 1
  | (_, d) => uptoBulk d + 1
 end
def uptoSmall : (H : Type) → List (DataW H) → Bool := fun _ ds => decide (uptoBulkAll ds ≤ 1048576)
def OpenSpec.upto (s : _root_.Go.ChangeSpec) : _root_.Go.OpenSpec := { _root_.Go.OpenSpec.ofChange s with cond := some uptoSmall }

/-- 'annalslaw8.ManifestChecks', WHERE WHAT IT READS IS OF BULK AT MOST 1048576: true; the input reads as it did. -/
def manifestChecksUptoRow : OpenClaim := { program := "ytamodllgeabpoaadoor", sum := "533b4d8e2543fadc8cf09a59ff57f85be36ed42bd271fa0916e351883e8eedd2", func := "annals/annalslaw8.ManifestChecks", spec := "manifestChecks", named := ["annals/wire.table"], apart := false, laid := [("annals/wire.table", laid_annals_wire_table)], narrowed := true }
def ManifestChecksUptoSaid : Prop := manifestChecksUptoRow.holds Tryd.pinned (OpenSpec.upto manifestChecksSpec)

/-- 'annalslaw8.ManifestReads', WHERE WHAT IT READS IS OF BULK AT MOST 1048576: true; the input reads as it did. -/
def manifestReadsUptoRow : OpenClaim := { program := "ytamodllgeabpoaadoor", sum := "533b4d8e2543fadc8cf09a59ff57f85be36ed42bd271fa0916e351883e8eedd2", func := "annals/annalslaw8.ManifestReads", spec := "manifestReads", named := ["annals/wire.table"], apart := false, laid := [("annals/wire.table", laid_annals_wire_table)], narrowed := true }
def ManifestReadsUptoSaid : Prop := manifestReadsUptoRow.holds Tryd.pinned (OpenSpec.upto manifestReadsSpec)

/-- 'annalslaw8.ManifestOne', WHERE WHAT IT READS IS OF BULK AT MOST 1048576: true; the input reads as it did. -/
def manifestOneUptoRow : OpenClaim := { program := "ytamodllgeabpoaadoor", sum := "533b4d8e2543fadc8cf09a59ff57f85be36ed42bd271fa0916e351883e8eedd2", func := "annals/annalslaw8.ManifestOne", spec := "manifestOne", named := ["annals/wire.table"], apart := false, laid := [("annals/wire.table", laid_annals_wire_table)], narrowed := true }
def ManifestOneUptoSaid : Prop := manifestOneUptoRow.holds Tryd.pinned (OpenSpec.upto manifestOneSpec)

/-- 'annalslaw8.ManifestLent', WHERE WHAT IT READS IS OF BULK AT MOST 1048576: true; the input reads as it did. -/
def manifestLentUptoRow : OpenClaim := { program := "ytamodllgeabpoaadoor", sum := "533b4d8e2543fadc8cf09a59ff57f85be36ed42bd271fa0916e351883e8eedd2", func := "annals/annalslaw8.ManifestLent", spec := "manifestLent", inPlace := ["maps.clone"], unfollowed := true, recurses := true, named := ["annals/wire.table"], apart := false, laid := [("annals/wire.table", laid_annals_wire_table)], narrowed := true }
def ManifestLentUptoSaid : Prop := manifestLentUptoRow.holds Tryd.pinned (OpenSpec.upto manifestLentSpec)

/-- 'annalslaw8.ManifestAgain', WHERE WHAT IT READS IS OF BULK AT MOST 1048576: true; the input reads as it did. -/
def manifestAgainUptoRow : OpenClaim := { program := "ytamodllgeabpoaadoor", sum := "533b4d8e2543fadc8cf09a59ff57f85be36ed42bd271fa0916e351883e8eedd2", func := "annals/annalslaw8.ManifestAgain", spec := "manifestAgain", inPlace := ["maps.clone"], unfollowed := true, recurses := true, named := ["annals/wire.table"], apart := false, laid := [("annals/wire.table", laid_annals_wire_table)], narrowed := true }
def ManifestAgainUptoSaid : Prop := manifestAgainUptoRow.holds Tryd.pinned (OpenSpec.upto manifestAgainSpec)

/-- 'annalslaw8.ManifestStroke', WHERE WHAT IT READS IS OF BULK AT MOST 1048576: true; the input reads as it did. -/
def manifestStrokeUptoRow : OpenClaim := { program := "ytamodllgeabpoaadoor", sum := "533b4d8e2543fadc8cf09a59ff57f85be36ed42bd271fa0916e351883e8eedd2", func := "annals/annalslaw8.ManifestStroke", spec := "manifestStroke", inPlace := ["maps.clone"], unfollowed := true, recurses := true, named := ["annals/wire.table"], apart := false, laid := [("annals/wire.table", laid_annals_wire_table)], narrowed := true }
def ManifestStrokeUptoSaid : Prop := manifestStrokeUptoRow.holds Tryd.pinned (OpenSpec.upto manifestStrokeSpec)

end Rows
end Go.Proofs.YtamodllgeabpoaaDoor
