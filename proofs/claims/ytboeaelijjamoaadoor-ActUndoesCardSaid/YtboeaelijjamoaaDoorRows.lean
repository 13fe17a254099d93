/-
  NARROWER THAN 'FOR EVERY INPUT', by the rows' own cells (each row's printed sentence says how): ActKeeps: laid · ActParts: laid · ActRoom: laid · ActUndoes: laid · ActPlans: laid.
  DERIVED. THE GIVEN ROWS OF THIS SEAT. 5 by the template 'for every input the law returns true; each argument reads behind the call as it read before'; 0 by the template 'total and deterministic' (their statements: YtboeaelijjamoaaDoorTotals.lean).
  GIVEN WITH THE SEED: the statements are not yours to turn. If you find one false, say at which input.
  Laid BY PROGRAM, IN A SANDBOX (cutbox-rows.mjs): the forced cells as the released guide's own fill.sh prints them over the translation efadf48168e816fe… (all of the seat's roots in one cut). By AI agents, Wed Nov 11 2026. No macro, syntax, notation, axiom, sorry.
-/
import Derived.Test.YtboeaelijjamoaaDoorChecked
import GoSem.PinnedTables
import GoSem.Claim
import GoSem.ClaimJoined
import GoSem.ClaimMapViews
import Derived.JoinedTies
import Derived.KernelRfl
namespace Go.Proofs.YtboeaelijjamoaaDoor
/- THE CELL 'sum', in the pinned program and in every row, IS THE sha256 OF THE DUMP (.gsa) THAT YtboeaelijjamoaaDoorProg.lean LOADS. Nothing in Lean hashes anything: it is a label: what it is worth is what the hold of that sum in a sandbox is worth. -/
noncomputable def Tryd.pinned : Pinned := { name := "ytboeaelijjamoaadoor", sum := "efadf48168e816febeb4049d4e1575cd6be64c3e283f0097a18a654834ac41cd", checked := Tryd.checked }
namespace Rows
def none {H : Type} : Left H := { results := [], args := [] }

/- WHAT THE LISTED PACKAGE-LEVEL VARIABLES READ AS WHEN THE CALL BEGINS. Each datum BY PROGRAM (the guide's laid-datum.mjs) off the statement by which the dump's own 'gosem.cut.vars' lays the variable. In a bare row this is a premise. The card (YtboeaelijjamoaaDoorCards.lean) ties it to the program's text. -/
def laid_unicode_utf8_acceptRanges {H : Type} : DataW H := .agg [.agg [.lit (.int .u8 128), .lit (.int .u8 191)], .agg [.lit (.int .u8 160), .lit (.int .u8 191)], .agg [.lit (.int .u8 128), .lit (.int .u8 159)], .agg [.lit (.int .u8 144), .lit (.int .u8 191)], .agg [.lit (.int .u8 128), .lit (.int .u8 143)], .agg [.lit (.int .u8 0), .lit (.int .u8 0)], .agg [.lit (.int .u8 0), .lit (.int .u8 0)], .agg [.lit (.int .u8 0), .lit (.int .u8 0)], .agg [.lit (.int .u8 0), .lit (.int .u8 0)], .agg [.lit (.int .u8 0), .lit (.int .u8 0)], .agg [.lit (.int .u8 0), .lit (.int .u8 0)], .agg [.lit (.int .u8 0), .lit (.int .u8 0)], .agg [.lit (.int .u8 0), .lit (.int .u8 0)], .agg [.lit (.int .u8 0), .lit (.int .u8 0)], .agg [.lit (.int .u8 0), .lit (.int .u8 0)], .agg [.lit (.int .u8 0), .lit (.int .u8 0)]]
/-- One of Go's own tables, pinned by name: the form's constant. -/
def laid_unicode_utf8_first : DataW Unit := Go.Pinned.utf8First

/-- 'carpetbaglaw11.ActKeeps': WHATEVER THE INPUT: true; the input reads as it did. -/
def actKeepsSpec : ChangeSpec := { name := "actKeeps", fn := fun _ => fun
  | [d1, d2, d3, d4] => { results := [.lit (.bool true)], args := [d1, d2, d3, d4] }
  | _ => none }
def actKeepsRow : OpenClaim := { program := "ytboeaelijjamoaadoor", sum := "efadf48168e816febeb4049d4e1575cd6be64c3e283f0097a18a654834ac41cd", func := "carpetbag/carpetbaglaw11.ActKeeps", spec := "actKeeps", inPlace := ["internal/bytealg.CountString", "internal/bytealg.IndexByteString", "internal/bytealg.IndexString", "internal/bytealg.abigen_runtime_cmpstring", "slices.overlaps[carpetbag/api.File]"], unfollowed := true, recurses := true, named := ["unicode/utf8.first", "unicode/utf8.acceptRanges", "internal/bytealg.MaxLen"], apart := false, laid := [("unicode/utf8.acceptRanges", laid_unicode_utf8_acceptRanges), ("unicode/utf8.first", laid_unicode_utf8_first)] }
def ActKeepsSaid : Prop := actKeepsRow.holds Tryd.pinned (OpenSpec.ofChange actKeepsSpec)

/-- ITS FALSE NEIGHBOUR: 'it returns false'. Refute it at one input. -/
def actKeepsWrong : ChangeSpec := { name := "actKeeps", fn := fun _ => fun
  | [d1, d2, d3, d4] => { results := [.lit (.bool false)], args := [d1, d2, d3, d4] }
  | _ => none }
def ActKeepsWrongFalsely : Prop := actKeepsRow.holds Tryd.pinned (OpenSpec.ofChange actKeepsWrong)

/-- 'carpetbaglaw11.ActParts': WHATEVER THE INPUT: true; the input reads as it did. -/
def actPartsSpec : ChangeSpec := { name := "actParts", fn := fun _ => fun
  | [d1, d2, d3] => { results := [.lit (.bool true)], args := [d1, d2, d3] }
  | _ => none }
def actPartsRow : OpenClaim := { program := "ytboeaelijjamoaadoor", sum := "efadf48168e816febeb4049d4e1575cd6be64c3e283f0097a18a654834ac41cd", func := "carpetbag/carpetbaglaw11.ActParts", spec := "actParts", inPlace := ["internal/bytealg.CountString", "internal/bytealg.IndexByteString", "internal/bytealg.IndexString", "internal/bytealg.abigen_runtime_cmpstring", "slices.overlaps[carpetbag/api.File]"], unfollowed := true, recurses := true, named := ["unicode/utf8.first", "unicode/utf8.acceptRanges", "internal/bytealg.MaxLen"], apart := false, laid := [("unicode/utf8.acceptRanges", laid_unicode_utf8_acceptRanges), ("unicode/utf8.first", laid_unicode_utf8_first)] }
def ActPartsSaid : Prop := actPartsRow.holds Tryd.pinned (OpenSpec.ofChange actPartsSpec)

/-- ITS FALSE NEIGHBOUR: 'it returns false'. Refute it at one input. -/
def actPartsWrong : ChangeSpec := { name := "actParts", fn := fun _ => fun
  | [d1, d2, d3] => { results := [.lit (.bool false)], args := [d1, d2, d3] }
  | _ => none }
def ActPartsWrongFalsely : Prop := actPartsRow.holds Tryd.pinned (OpenSpec.ofChange actPartsWrong)

/-- 'carpetbaglaw11.ActRoom': WHATEVER THE INPUT: true; the input reads as it did. -/
def actRoomSpec : ChangeSpec := { name := "actRoom", fn := fun _ => fun
  | [d1, d2, d3, d4] => { results := [.lit (.bool true)], args := [d1, d2, d3, d4] }
  | _ => none }
def actRoomRow : OpenClaim := { program := "ytboeaelijjamoaadoor", sum := "efadf48168e816febeb4049d4e1575cd6be64c3e283f0097a18a654834ac41cd", func := "carpetbag/carpetbaglaw11.ActRoom", spec := "actRoom", inPlace := ["internal/bytealg.CountString", "internal/bytealg.IndexByteString", "internal/bytealg.IndexString", "internal/bytealg.abigen_runtime_cmpstring", "slices.overlaps[carpetbag/api.File]"], unfollowed := true, recurses := true, named := ["unicode/utf8.first", "unicode/utf8.acceptRanges", "internal/bytealg.MaxLen"], apart := false, laid := [("unicode/utf8.acceptRanges", laid_unicode_utf8_acceptRanges), ("unicode/utf8.first", laid_unicode_utf8_first)] }
def ActRoomSaid : Prop := actRoomRow.holds Tryd.pinned (OpenSpec.ofChange actRoomSpec)

/-- ITS FALSE NEIGHBOUR: 'it returns false'. Refute it at one input. -/
def actRoomWrong : ChangeSpec := { name := "actRoom", fn := fun _ => fun
  | [d1, d2, d3, d4] => { results := [.lit (.bool false)], args := [d1, d2, d3, d4] }
  | _ => none }
def ActRoomWrongFalsely : Prop := actRoomRow.holds Tryd.pinned (OpenSpec.ofChange actRoomWrong)

/-- 'carpetbaglaw11.ActUndoes': WHATEVER THE INPUT: true; the input reads as it did. -/
def actUndoesSpec : ChangeSpec := { name := "actUndoes", fn := fun _ => fun
  | [d1, d2] => { results := [.lit (.bool true)], args := [d1, d2] }
  | _ => none }
def actUndoesRow : OpenClaim := { program := "ytboeaelijjamoaadoor", sum := "efadf48168e816febeb4049d4e1575cd6be64c3e283f0097a18a654834ac41cd", func := "carpetbag/carpetbaglaw11.ActUndoes", spec := "actUndoes", inPlace := ["internal/bytealg.CountString", "internal/bytealg.IndexByteString", "internal/bytealg.IndexString", "internal/bytealg.abigen_runtime_cmpstring", "slices.overlaps[carpetbag/api.File]"], unfollowed := true, recurses := true, named := ["unicode/utf8.first", "unicode/utf8.acceptRanges", "internal/bytealg.MaxLen"], apart := false, laid := [("unicode/utf8.acceptRanges", laid_unicode_utf8_acceptRanges), ("unicode/utf8.first", laid_unicode_utf8_first)] }
def ActUndoesSaid : Prop := actUndoesRow.holds Tryd.pinned (OpenSpec.ofChange actUndoesSpec)

/-- ITS FALSE NEIGHBOUR: 'it returns false'. Refute it at one input. -/
def actUndoesWrong : ChangeSpec := { name := "actUndoes", fn := fun _ => fun
  | [d1, d2] => { results := [.lit (.bool false)], args := [d1, d2] }
  | _ => none }
def ActUndoesWrongFalsely : Prop := actUndoesRow.holds Tryd.pinned (OpenSpec.ofChange actUndoesWrong)

/-- 'carpetbaglaw11.ActPlans': WHATEVER THE INPUT: true; the input reads as it did. -/
def actPlansSpec : ChangeSpec := { name := "actPlans", fn := fun _ => fun
  | [d1, d2] => { results := [.lit (.bool true)], args := [d1, d2] }
  | _ => none }
def actPlansRow : OpenClaim := { program := "ytboeaelijjamoaadoor", sum := "efadf48168e816febeb4049d4e1575cd6be64c3e283f0097a18a654834ac41cd", func := "carpetbag/carpetbaglaw11.ActPlans", spec := "actPlans", inPlace := ["internal/bytealg.CountString", "internal/bytealg.IndexByteString", "internal/bytealg.IndexString", "internal/bytealg.abigen_runtime_cmpstring", "slices.overlaps[carpetbag/api.File]"], unfollowed := true, recurses := true, named := ["unicode/utf8.first", "unicode/utf8.acceptRanges", "internal/bytealg.MaxLen"], apart := false, laid := [("unicode/utf8.acceptRanges", laid_unicode_utf8_acceptRanges), ("unicode/utf8.first", laid_unicode_utf8_first)] }
def ActPlansSaid : Prop := actPlansRow.holds Tryd.pinned (OpenSpec.ofChange actPlansSpec)

/-- ITS FALSE NEIGHBOUR: 'it returns false'. Refute it at one input. -/
def actPlansWrong : ChangeSpec := { name := "actPlans", fn := fun _ => fun
  | [d1, d2] => { results := [.lit (.bool false)], args := [d1, d2] }
  | _ => none }
def ActPlansWrongFalsely : Prop := actPlansRow.holds Tryd.pinned (OpenSpec.ofChange actPlansWrong)

/- THE SECOND FORM. 'bulk': how many values and letters a reading holds, each counted each time it is reached (what is shared counts as often as it is met; a slice's spare places count too). A statement '..UptoSaid' is the law's where the arguments, and the package variables that the reading takes, are together of bulk at most 1048576: NARROWER than '..Said'. Prove '..Said' where nothing that the law and all that it calls make is longer than what came in: it says more and counts as full. Else prove '..UptoSaid'. A law counts once. -/
mutual
def uptoBulk {H : Type} : DataW H → Nat
  | .lit (.string bytes) => bytes.length + 1
  | .lit _ => 1
  | .nil => 1
  | .ptr d => uptoBulk d + 1
  | .slice elems spare => uptoBulkAll elems + uptoBulkAll spare + 1
  | .agg parts => uptoBulkAll parts + 1
  | .iface _ d => uptoBulk d + 1
  | .map entries => uptoBulkEntries entries + 1
  | .held _ => 1
def uptoBulkAll {H : Type} : List (DataW H) → Nat
  | [] => 0
  | d :: r => uptoBulk d + uptoBulkAll r
def uptoBulkEntries {H : Type} : List (Lit × DataW H) → Nat
  | [] => 0
  | x :: r => uptoBulkEntry x + uptoBulkEntries r
def uptoBulkEntry {H : Type} : Lit × DataW H → Nat
  | (.string bytes, d) => bytes.length + uptoBulk d + 1
  | (_, d) => uptoBulk d + 1
 end
def uptoSmall : (H : Type) → List (DataW H) → Bool := fun _ ds => decide (uptoBulkAll ds ≤ 1048576)
def OpenSpec.upto (s : _root_.Go.ChangeSpec) : _root_.Go.OpenSpec := { _root_.Go.OpenSpec.ofChange s with cond := some uptoSmall }

/-- 'carpetbaglaw11.ActKeeps', WHERE WHAT IT READS IS OF BULK AT MOST 1048576: true; the input reads as it did. -/
def actKeepsUptoRow : OpenClaim := { program := "ytboeaelijjamoaadoor", sum := "efadf48168e816febeb4049d4e1575cd6be64c3e283f0097a18a654834ac41cd", func := "carpetbag/carpetbaglaw11.ActKeeps", spec := "actKeeps", inPlace := ["internal/bytealg.CountString", "internal/bytealg.IndexByteString", "internal/bytealg.IndexString", "internal/bytealg.abigen_runtime_cmpstring", "slices.overlaps[carpetbag/api.File]"], unfollowed := true, recurses := true, named := ["unicode/utf8.first", "unicode/utf8.acceptRanges", "internal/bytealg.MaxLen"], apart := false, laid := [("unicode/utf8.acceptRanges", laid_unicode_utf8_acceptRanges), ("unicode/utf8.first", laid_unicode_utf8_first)], narrowed := true }
def ActKeepsUptoSaid : Prop := actKeepsUptoRow.holds Tryd.pinned (OpenSpec.upto actKeepsSpec)

/-- 'carpetbaglaw11.ActParts', WHERE WHAT IT READS IS OF BULK AT MOST 1048576: true; the input reads as it did. -/
def actPartsUptoRow : OpenClaim := { program := "ytboeaelijjamoaadoor", sum := "efadf48168e816febeb4049d4e1575cd6be64c3e283f0097a18a654834ac41cd", func := "carpetbag/carpetbaglaw11.ActParts", spec := "actParts", inPlace := ["internal/bytealg.CountString", "internal/bytealg.IndexByteString", "internal/bytealg.IndexString", "internal/bytealg.abigen_runtime_cmpstring", "slices.overlaps[carpetbag/api.File]"], unfollowed := true, recurses := true, named := ["unicode/utf8.first", "unicode/utf8.acceptRanges", "internal/bytealg.MaxLen"], apart := false, laid := [("unicode/utf8.acceptRanges", laid_unicode_utf8_acceptRanges), ("unicode/utf8.first", laid_unicode_utf8_first)], narrowed := true }
def ActPartsUptoSaid : Prop := actPartsUptoRow.holds Tryd.pinned (OpenSpec.upto actPartsSpec)

/-- 'carpetbaglaw11.ActRoom', WHERE WHAT IT READS IS OF BULK AT MOST 1048576: true; the input reads as it did. -/
def actRoomUptoRow : OpenClaim := { program := "ytboeaelijjamoaadoor", sum := "efadf48168e816febeb4049d4e1575cd6be64c3e283f0097a18a654834ac41cd", func := "carpetbag/carpetbaglaw11.ActRoom", spec := "actRoom", inPlace := ["internal/bytealg.CountString", "internal/bytealg.IndexByteString", "internal/bytealg.IndexString", "internal/bytealg.abigen_runtime_cmpstring", "slices.overlaps[carpetbag/api.File]"], unfollowed := true, recurses := true, named := ["unicode/utf8.first", "unicode/utf8.acceptRanges", "internal/bytealg.MaxLen"], apart := false, laid := [("unicode/utf8.acceptRanges", laid_unicode_utf8_acceptRanges), ("unicode/utf8.first", laid_unicode_utf8_first)], narrowed := true }
def ActRoomUptoSaid : Prop := actRoomUptoRow.holds Tryd.pinned (OpenSpec.upto actRoomSpec)

/-- 'carpetbaglaw11.ActUndoes', WHERE WHAT IT READS IS OF BULK AT MOST 1048576: true; the input reads as it did. -/
def actUndoesUptoRow : OpenClaim := { program := "ytboeaelijjamoaadoor", sum := "efadf48168e816febeb4049d4e1575cd6be64c3e283f0097a18a654834ac41cd", func := "carpetbag/carpetbaglaw11.ActUndoes", spec := "actUndoes", inPlace := ["internal/bytealg.CountString", "internal/bytealg.IndexByteString", "internal/bytealg.IndexString", "internal/bytealg.abigen_runtime_cmpstring", "slices.overlaps[carpetbag/api.File]"], unfollowed := true, recurses := true, named := ["unicode/utf8.first", "unicode/utf8.acceptRanges", "internal/bytealg.MaxLen"], apart := false, laid := [("unicode/utf8.acceptRanges", laid_unicode_utf8_acceptRanges), ("unicode/utf8.first", laid_unicode_utf8_first)], narrowed := true }
def ActUndoesUptoSaid : Prop := actUndoesUptoRow.holds Tryd.pinned (OpenSpec.upto actUndoesSpec)

/-- 'carpetbaglaw11.ActPlans', WHERE WHAT IT READS IS OF BULK AT MOST 1048576: true; the input reads as it did. -/
def actPlansUptoRow : OpenClaim := { program := "ytboeaelijjamoaadoor", sum := "efadf48168e816febeb4049d4e1575cd6be64c3e283f0097a18a654834ac41cd", func := "carpetbag/carpetbaglaw11.ActPlans", spec := "actPlans", inPlace := ["internal/bytealg.CountString", "internal/bytealg.IndexByteString", "internal/bytealg.IndexString", "internal/bytealg.abigen_runtime_cmpstring", "slices.overlaps[carpetbag/api.File]"], unfollowed := true, recurses := true, named := ["unicode/utf8.first", "unicode/utf8.acceptRanges", "internal/bytealg.MaxLen"], apart := false, laid := [("unicode/utf8.acceptRanges", laid_unicode_utf8_acceptRanges), ("unicode/utf8.first", laid_unicode_utf8_first)], narrowed := true }
def ActPlansUptoSaid : Prop := actPlansUptoRow.holds Tryd.pinned (OpenSpec.upto actPlansSpec)

end Rows
end Go.Proofs.YtboeaelijjamoaaDoor
