/-
  NARROWER THAN 'FOR EVERY INPUT', by the rows' own cells (each row's printed sentence says how): ScanTells: laid · ScanBack: laid · ScanFull: laid · ScanTwo: laid · ScanGone: laid · ScanKeeps: laid.
  DERIVED. THE GIVEN ROWS OF THIS SEAT. 6 by the template 'for every input the law returns true; each argument reads behind the call as it read before'; 0 by the template 'total and deterministic' (their statements: YtnjfjjmlonalhaaDoorTotals.lean).
  GIVEN WITH THE SEED: the statements are not yours to turn. If you find one false, say at which input.
  Laid BY PROGRAM, IN A SANDBOX (cutbox-rows.mjs): the forced cells as the released guide's own fill.sh prints them over the translation d27209fa6720b912… (all of the seat's roots in one cut). By AI agents, Wed Nov 11 2026. No macro, syntax, notation, axiom, sorry.
-/
import Derived.Test.YtnjfjjmlonalhaaDoorChecked
import GoSem.PinnedTables
import GoSem.Claim
import GoSem.ClaimJoined
import GoSem.ClaimMapViews
import Derived.JoinedTies
import Derived.KernelRfl
namespace Go.Proofs.YtnjfjjmlonalhaaDoor
/- THE CELL 'sum', in the pinned program and in every row, IS THE sha256 OF THE DUMP (.gsa) THAT YtnjfjjmlonalhaaDoorProg.lean LOADS. Nothing in Lean hashes anything: it is a label: what it is worth is what the hold of that sum in a sandbox is worth. -/
noncomputable def Tryd.pinned : Pinned := { name := "ytnjfjjmlonalhaadoor", sum := "d27209fa6720b9121d7d3f49003b4c0739bfd39880139204a8373bad99bd64a3", checked := Tryd.checked }
namespace Rows
def none {H : Type} : Left H := { results := [], args := [] }

/- WHAT THE LISTED PACKAGE-LEVEL VARIABLES READ AS WHEN THE CALL BEGINS. Each datum BY PROGRAM (the guide's laid-datum.mjs) off the statement by which the dump's own 'gosem.cut.vars' lays the variable. In a bare row this is a premise. The card (YtnjfjjmlonalhaaDoorCards.lean) ties it to the program's text. -/
def laid_unicode_utf8_acceptRanges {H : Type} : DataW H := .agg [.agg [.lit (.int .u8 128), .lit (.int .u8 191)], .agg [.lit (.int .u8 160), .lit (.int .u8 191)], .agg [.lit (.int .u8 128), .lit (.int .u8 159)], .agg [.lit (.int .u8 144), .lit (.int .u8 191)], .agg [.lit (.int .u8 128), .lit (.int .u8 143)], .agg [.lit (.int .u8 0), .lit (.int .u8 0)], .agg [.lit (.int .u8 0), .lit (.int .u8 0)], .agg [.lit (.int .u8 0), .lit (.int .u8 0)], .agg [.lit (.int .u8 0), .lit (.int .u8 0)], .agg [.lit (.int .u8 0), .lit (.int .u8 0)], .agg [.lit (.int .u8 0), .lit (.int .u8 0)], .agg [.lit (.int .u8 0), .lit (.int .u8 0)], .agg [.lit (.int .u8 0), .lit (.int .u8 0)], .agg [.lit (.int .u8 0), .lit (.int .u8 0)], .agg [.lit (.int .u8 0), .lit (.int .u8 0)], .agg [.lit (.int .u8 0), .lit (.int .u8 0)]]
/-- One of Go's own tables, pinned by name: the form's constant. -/
def laid_unicode_utf8_first : DataW Unit := Go.Pinned.utf8First

/-- 'carpetbaglaw09.ScanTells': WHATEVER THE INPUT: true; the input reads as it did. -/
def scanTellsSpec : ChangeSpec := { name := "scanTells", fn := fun _ => fun
  | [d1, d2, d3, d4] => { results := [.lit (.bool true)], args := [d1, d2, d3, d4] }
  | _ => none }
def scanTellsRow : OpenClaim := { program := "ytnjfjjmlonalhaadoor", sum := "d27209fa6720b9121d7d3f49003b4c0739bfd39880139204a8373bad99bd64a3", func := "carpetbag/carpetbaglaw09.ScanTells", spec := "scanTells", inPlace := ["internal/bytealg.CountString", "internal/bytealg.IndexByteString", "internal/bytealg.IndexString"], unfollowed := true, recurses := true, named := ["unicode/utf8.first", "unicode/utf8.acceptRanges", "internal/bytealg.MaxLen"], apart := false, laid := [("unicode/utf8.acceptRanges", laid_unicode_utf8_acceptRanges), ("unicode/utf8.first", laid_unicode_utf8_first)] }
def ScanTellsSaid : Prop := scanTellsRow.holds Tryd.pinned (OpenSpec.ofChange scanTellsSpec)

/-- ITS FALSE NEIGHBOUR: 'it returns false'. Refute it at one input. -/
def scanTellsWrong : ChangeSpec := { name := "scanTells", fn := fun _ => fun
  | [d1, d2, d3, d4] => { results := [.lit (.bool false)], args := [d1, d2, d3, d4] }
  | _ => none }
def ScanTellsWrongFalsely : Prop := scanTellsRow.holds Tryd.pinned (OpenSpec.ofChange scanTellsWrong)

/-- 'carpetbaglaw09.ScanBack': WHATEVER THE INPUT: true; the input reads as it did. -/
def scanBackSpec : ChangeSpec := { name := "scanBack", fn := fun _ => fun
  | [d1, d2] => { results := [.lit (.bool true)], args := [d1, d2] }
  | _ => none }
def scanBackRow : OpenClaim := { program := "ytnjfjjmlonalhaadoor", sum := "d27209fa6720b9121d7d3f49003b4c0739bfd39880139204a8373bad99bd64a3", func := "carpetbag/carpetbaglaw09.ScanBack", spec := "scanBack", inPlace := ["internal/bytealg.CountString", "internal/bytealg.IndexByteString", "internal/bytealg.IndexString"], unfollowed := true, recurses := true, named := ["unicode/utf8.first", "unicode/utf8.acceptRanges", "internal/bytealg.MaxLen"], apart := false, laid := [("unicode/utf8.acceptRanges", laid_unicode_utf8_acceptRanges), ("unicode/utf8.first", laid_unicode_utf8_first)] }
def ScanBackSaid : Prop := scanBackRow.holds Tryd.pinned (OpenSpec.ofChange scanBackSpec)

/-- ITS FALSE NEIGHBOUR: 'it returns false'. Refute it at one input. -/
def scanBackWrong : ChangeSpec := { name := "scanBack", fn := fun _ => fun
  | [d1, d2] => { results := [.lit (.bool false)], args := [d1, d2] }
  | _ => none }
def ScanBackWrongFalsely : Prop := scanBackRow.holds Tryd.pinned (OpenSpec.ofChange scanBackWrong)

/-- 'carpetbaglaw09.ScanFull': WHATEVER THE INPUT: true; the input reads as it did. -/
def scanFullSpec : ChangeSpec := { name := "scanFull", fn := fun _ => fun
  | [d1, d2] => { results := [.lit (.bool true)], args := [d1, d2] }
  | _ => none }
def scanFullRow : OpenClaim := { program := "ytnjfjjmlonalhaadoor", sum := "d27209fa6720b9121d7d3f49003b4c0739bfd39880139204a8373bad99bd64a3", func := "carpetbag/carpetbaglaw09.ScanFull", spec := "scanFull", inPlace := ["internal/bytealg.CountString", "internal/bytealg.IndexByteString", "internal/bytealg.IndexString"], unfollowed := true, recurses := true, named := ["unicode/utf8.first", "unicode/utf8.acceptRanges", "internal/bytealg.MaxLen"], apart := false, laid := [("unicode/utf8.acceptRanges", laid_unicode_utf8_acceptRanges), ("unicode/utf8.first", laid_unicode_utf8_first)] }
def ScanFullSaid : Prop := scanFullRow.holds Tryd.pinned (OpenSpec.ofChange scanFullSpec)

/-- ITS FALSE NEIGHBOUR: 'it returns false'. Refute it at one input. -/
def scanFullWrong : ChangeSpec := { name := "scanFull", fn := fun _ => fun
  | [d1, d2] => { results := [.lit (.bool false)], args := [d1, d2] }
  | _ => none }
def ScanFullWrongFalsely : Prop := scanFullRow.holds Tryd.pinned (OpenSpec.ofChange scanFullWrong)

/-- 'carpetbaglaw09.ScanTwo': WHATEVER THE INPUT: true; the input reads as it did. -/
def scanTwoSpec : ChangeSpec := { name := "scanTwo", fn := fun _ => fun
  | [d1, d2, d3] => { results := [.lit (.bool true)], args := [d1, d2, d3] }
  | _ => none }
def scanTwoRow : OpenClaim := { program := "ytnjfjjmlonalhaadoor", sum := "d27209fa6720b9121d7d3f49003b4c0739bfd39880139204a8373bad99bd64a3", func := "carpetbag/carpetbaglaw09.ScanTwo", spec := "scanTwo", inPlace := ["internal/bytealg.CountString", "internal/bytealg.IndexByteString", "internal/bytealg.IndexString"], unfollowed := true, recurses := true, named := ["unicode/utf8.first", "unicode/utf8.acceptRanges", "internal/bytealg.MaxLen"], apart := false, laid := [("unicode/utf8.acceptRanges", laid_unicode_utf8_acceptRanges), ("unicode/utf8.first", laid_unicode_utf8_first)] }
def ScanTwoSaid : Prop := scanTwoRow.holds Tryd.pinned (OpenSpec.ofChange scanTwoSpec)

/-- ITS FALSE NEIGHBOUR: 'it returns false'. Refute it at one input. -/
def scanTwoWrong : ChangeSpec := { name := "scanTwo", fn := fun _ => fun
  | [d1, d2, d3] => { results := [.lit (.bool false)], args := [d1, d2, d3] }
  | _ => none }
def ScanTwoWrongFalsely : Prop := scanTwoRow.holds Tryd.pinned (OpenSpec.ofChange scanTwoWrong)

/-- 'carpetbaglaw09.ScanGone': WHATEVER THE INPUT: true; the input reads as it did. -/
def scanGoneSpec : ChangeSpec := { name := "scanGone", fn := fun _ => fun
  | [d1, d2] => { results := [.lit (.bool true)], args := [d1, d2] }
  | _ => none }
def scanGoneRow : OpenClaim := { program := "ytnjfjjmlonalhaadoor", sum := "d27209fa6720b9121d7d3f49003b4c0739bfd39880139204a8373bad99bd64a3", func := "carpetbag/carpetbaglaw09.ScanGone", spec := "scanGone", inPlace := ["internal/bytealg.CountString", "internal/bytealg.IndexByteString", "internal/bytealg.IndexString"], unfollowed := true, recurses := true, named := ["unicode/utf8.first", "unicode/utf8.acceptRanges", "internal/bytealg.MaxLen"], apart := false, laid := [("unicode/utf8.acceptRanges", laid_unicode_utf8_acceptRanges), ("unicode/utf8.first", laid_unicode_utf8_first)] }
def ScanGoneSaid : Prop := scanGoneRow.holds Tryd.pinned (OpenSpec.ofChange scanGoneSpec)

/-- ITS FALSE NEIGHBOUR: 'it returns false'. Refute it at one input. -/
def scanGoneWrong : ChangeSpec := { name := "scanGone", fn := fun _ => fun
  | [d1, d2] => { results := [.lit (.bool false)], args := [d1, d2] }
  | _ => none }
def ScanGoneWrongFalsely : Prop := scanGoneRow.holds Tryd.pinned (OpenSpec.ofChange scanGoneWrong)

/-- 'carpetbaglaw09.ScanKeeps': WHATEVER THE INPUT: true; the input reads as it did. -/
def scanKeepsSpec : ChangeSpec := { name := "scanKeeps", fn := fun _ => fun
  | [d1, d2, d3, d4] => { results := [.lit (.bool true)], args := [d1, d2, d3, d4] }
  | _ => none }
def scanKeepsRow : OpenClaim := { program := "ytnjfjjmlonalhaadoor", sum := "d27209fa6720b9121d7d3f49003b4c0739bfd39880139204a8373bad99bd64a3", func := "carpetbag/carpetbaglaw09.ScanKeeps", spec := "scanKeeps", inPlace := ["internal/bytealg.CountString", "internal/bytealg.IndexByteString", "internal/bytealg.IndexString"], unfollowed := true, recurses := true, named := ["unicode/utf8.first", "unicode/utf8.acceptRanges", "internal/bytealg.MaxLen"], apart := false, laid := [("unicode/utf8.acceptRanges", laid_unicode_utf8_acceptRanges), ("unicode/utf8.first", laid_unicode_utf8_first)] }
def ScanKeepsSaid : Prop := scanKeepsRow.holds Tryd.pinned (OpenSpec.ofChange scanKeepsSpec)

/-- ITS FALSE NEIGHBOUR: 'it returns false'. Refute it at one input. -/
def scanKeepsWrong : ChangeSpec := { name := "scanKeeps", fn := fun _ => fun
  | [d1, d2, d3, d4] => { results := [.lit (.bool false)], args := [d1, d2, d3, d4] }
  | _ => none }
def ScanKeepsWrongFalsely : Prop := scanKeepsRow.holds Tryd.pinned (OpenSpec.ofChange scanKeepsWrong)

/- THE SECOND FORM. 'bulk': how many values and letters a reading holds, each counted each time it is reached (what is shared counts as often as it is met; a slice's spare places count too). A statement '..UptoSaid' is the law's where the arguments, and the package variables that the reading takes, are together of bulk at most 1048576: NARROWER than '..Said'. Prove '..Said' where nothing that the law and all that it calls make is longer than what came in: it says more and counts as full. Else prove '..UptoSaid'. A law counts once. -/
mutual
def uptoBulk {H : Type} : DataW H → Nat
  | .lit (.string bytes) => bytes.length + 1
  | .lit _ => 1
  | .nil => 1
  | .ptr d => uptoBulk d + 1
  | .slice elems spare => uptoBulkAll elems + uptoBulkAll spare + 1
  | .agg parts => uptoBulkAll parts + 1
  | .iface _ d => uptoBulk d + 1
  | .map entries => uptoBulkEntries entries + 1
  | .held _ => 1
def uptoBulkAll {H : Type} : List (DataW H) → Nat
  | [] => 0
  | d :: r => uptoBulk d + uptoBulkAll r
def uptoBulkEntries {H : Type} : List (Lit × DataW H) → Nat
  | [] => 0
  | x :: r => uptoBulkEntry x + uptoBulkEntries r
def uptoBulkEntry {H : Type} : Lit × DataW H → Nat
  | (.string bytes, d) => bytes.length + uptoBulk d + 1
  | (_, d) => uptoBulk d + 1
 end
def uptoSmall : (H : Type) → List (DataW H) → Bool := fun _ ds => decide (uptoBulkAll ds ≤ 1048576)
def OpenSpec.upto (s : _root_.Go.ChangeSpec) : _root_.Go.OpenSpec := { _root_.Go.OpenSpec.ofChange s with cond := some uptoSmall }

/-- 'carpetbaglaw09.ScanTells', WHERE WHAT IT READS IS OF BULK AT MOST 1048576: true; the input reads as it did. -/
def scanTellsUptoRow : OpenClaim := { program := "ytnjfjjmlonalhaadoor", sum := "d27209fa6720b9121d7d3f49003b4c0739bfd39880139204a8373bad99bd64a3", func := "carpetbag/carpetbaglaw09.ScanTells", spec := "scanTells", inPlace := ["internal/bytealg.CountString", "internal/bytealg.IndexByteString", "internal/bytealg.IndexString"], unfollowed := true, recurses := true, named := ["unicode/utf8.first", "unicode/utf8.acceptRanges", "internal/bytealg.MaxLen"], apart := false, laid := [("unicode/utf8.acceptRanges", laid_unicode_utf8_acceptRanges), ("unicode/utf8.first", laid_unicode_utf8_first)], narrowed := true }
def ScanTellsUptoSaid : Prop := scanTellsUptoRow.holds Tryd.pinned (OpenSpec.upto scanTellsSpec)

/-- 'carpetbaglaw09.ScanBack', WHERE WHAT IT READS IS OF BULK AT MOST 1048576: true; the input reads as it did. -/
def scanBackUptoRow : OpenClaim := { program := "ytnjfjjmlonalhaadoor", sum := "d27209fa6720b9121d7d3f49003b4c0739bfd39880139204a8373bad99bd64a3", func := "carpetbag/carpetbaglaw09.ScanBack", spec := "scanBack", inPlace := ["internal/bytealg.CountString", "internal/bytealg.IndexByteString", "internal/bytealg.IndexString"], unfollowed := true, recurses := true, named := ["unicode/utf8.first", "unicode/utf8.acceptRanges", "internal/bytealg.MaxLen"], apart := false, laid := [("unicode/utf8.acceptRanges", laid_unicode_utf8_acceptRanges), ("unicode/utf8.first", laid_unicode_utf8_first)], narrowed := true }
def ScanBackUptoSaid : Prop := scanBackUptoRow.holds Tryd.pinned (OpenSpec.upto scanBackSpec)

/-- 'carpetbaglaw09.ScanFull', WHERE WHAT IT READS IS OF BULK AT MOST 1048576: true; the input reads as it did. -/
def scanFullUptoRow : OpenClaim := { program := "ytnjfjjmlonalhaadoor", sum := "d27209fa6720b9121d7d3f49003b4c0739bfd39880139204a8373bad99bd64a3", func := "carpetbag/carpetbaglaw09.ScanFull", spec := "scanFull", inPlace := ["internal/bytealg.CountString", "internal/bytealg.IndexByteString", "internal/bytealg.IndexString"], unfollowed := true, recurses := true, named := ["unicode/utf8.first", "unicode/utf8.acceptRanges", "internal/bytealg.MaxLen"], apart := false, laid := [("unicode/utf8.acceptRanges", laid_unicode_utf8_acceptRanges), ("unicode/utf8.first", laid_unicode_utf8_first)], narrowed := true }
def ScanFullUptoSaid : Prop := scanFullUptoRow.holds Tryd.pinned (OpenSpec.upto scanFullSpec)

/-- 'carpetbaglaw09.ScanTwo', WHERE WHAT IT READS IS OF BULK AT MOST 1048576: true; the input reads as it did. -/
def scanTwoUptoRow : OpenClaim := { program := "ytnjfjjmlonalhaadoor", sum := "d27209fa6720b9121d7d3f49003b4c0739bfd39880139204a8373bad99bd64a3", func := "carpetbag/carpetbaglaw09.ScanTwo", spec := "scanTwo", inPlace := ["internal/bytealg.CountString", "internal/bytealg.IndexByteString", "internal/bytealg.IndexString"], unfollowed := true, recurses := true, named := ["unicode/utf8.first", "unicode/utf8.acceptRanges", "internal/bytealg.MaxLen"], apart := false, laid := [("unicode/utf8.acceptRanges", laid_unicode_utf8_acceptRanges), ("unicode/utf8.first", laid_unicode_utf8_first)], narrowed := true }
def ScanTwoUptoSaid : Prop := scanTwoUptoRow.holds Tryd.pinned (OpenSpec.upto scanTwoSpec)

/-- 'carpetbaglaw09.ScanGone', WHERE WHAT IT READS IS OF BULK AT MOST 1048576: true; the input reads as it did. -/
def scanGoneUptoRow : OpenClaim := { program := "ytnjfjjmlonalhaadoor", sum := "d27209fa6720b9121d7d3f49003b4c0739bfd39880139204a8373bad99bd64a3", func := "carpetbag/carpetbaglaw09.ScanGone", spec := "scanGone", inPlace := ["internal/bytealg.CountString", "internal/bytealg.IndexByteString", "internal/bytealg.IndexString"], unfollowed := true, recurses := true, named := ["unicode/utf8.first", "unicode/utf8.acceptRanges", "internal/bytealg.MaxLen"], apart := false, laid := [("unicode/utf8.acceptRanges", laid_unicode_utf8_acceptRanges), ("unicode/utf8.first", laid_unicode_utf8_first)], narrowed := true }
def ScanGoneUptoSaid : Prop := scanGoneUptoRow.holds Tryd.pinned (OpenSpec.upto scanGoneSpec)

/-- 'carpetbaglaw09.ScanKeeps', WHERE WHAT IT READS IS OF BULK AT MOST 1048576: true; the input reads as it did. -/
def scanKeepsUptoRow : OpenClaim := { program := "ytnjfjjmlonalhaadoor", sum := "d27209fa6720b9121d7d3f49003b4c0739bfd39880139204a8373bad99bd64a3", func := "carpetbag/carpetbaglaw09.ScanKeeps", spec := "scanKeeps", inPlace := ["internal/bytealg.CountString", "internal/bytealg.IndexByteString", "internal/bytealg.IndexString"], unfollowed := true, recurses := true, named := ["unicode/utf8.first", "unicode/utf8.acceptRanges", "internal/bytealg.MaxLen"], apart := false, laid := [("unicode/utf8.acceptRanges", laid_unicode_utf8_acceptRanges), ("unicode/utf8.first", laid_unicode_utf8_first)], narrowed := true }
def ScanKeepsUptoSaid : Prop := scanKeepsUptoRow.holds Tryd.pinned (OpenSpec.upto scanKeepsSpec)

end Rows
end Go.Proofs.YtnjfjjmlonalhaaDoor
