/-
  NARROWER THAN 'FOR EVERY INPUT', by the rows' own cells (each row's printed sentence says how): DumpDoes: laid · DumpGets: laid · DumpBack: laid · DumpLess: laid · VacuumLeast: laid · DumpTree: laid · DiffBack: laid · DiffThen: laid · DiffTells: laid · VacuumKeeps: laid.
  DERIVED. THE GIVEN ROWS OF THIS SEAT. 10 by the template 'for every input the law returns true; each argument reads behind the call as it read before'; 0 by the template 'total and deterministic' (their statements: YtmgkebghojhocaaGreatDoorTotals.lean).
  GIVEN WITH THE SEED: the statements are not yours to turn. If you find one false, say at which input.
  Laid BY PROGRAM, IN A SANDBOX (cutbox-rows.mjs): the forced cells as the released guide's own fill.sh prints them over the translation 59c786ed323ff1bf… (all of the seat's roots in one cut). By AI agents, Wed Nov 11 2026. No macro, syntax, notation, axiom, sorry.
-/
import Derived.Test.YtmgkebghojhocaaGreatDoorChecked
import GoSem.PinnedTables
import GoSem.Claim
import GoSem.ClaimJoined
import GoSem.ClaimMapViews
import Derived.JoinedTies
import Derived.KernelRfl
namespace Go.Proofs.YtmgkebghojhocaaGreatDoor
/- THE CELL 'sum', in the pinned program and in every row, IS THE sha256 OF THE DUMP (.gsa) THAT YtmgkebghojhocaaGreatDoorProg.lean LOADS. Nothing in Lean hashes anything: it is a label: what it is worth is what the hold of that sum in a sandbox is worth. -/
noncomputable def Tryz.pinned : Pinned := { name := "ytmgkebghojhocaagreatdoor", sum := "59c786ed323ff1bf279b3d6d8033567e9d7fb3e0626252d856904a902f46c1ba", checked := Tryz.checked }
namespace Rows
def none {H : Type} : Left H := { results := [], args := [] }

/- WHAT THE LISTED PACKAGE-LEVEL VARIABLES READ AS WHEN THE CALL BEGINS. Each datum BY PROGRAM (the guide's laid-datum.mjs) off the statement by which the dump's own 'gosem.cut.vars' lays the variable. In a bare row this is a premise. The card (YtmgkebghojhocaaGreatDoorCards.lean) ties it to the program's text. -/
def laid_unicode_utf8_acceptRanges {H : Type} : DataW H := .agg [.agg [.lit (.int .u8 128), .lit (.int .u8 191)], .agg [.lit (.int .u8 160), .lit (.int .u8 191)], .agg [.lit (.int .u8 128), .lit (.int .u8 159)], .agg [.lit (.int .u8 144), .lit (.int .u8 191)], .agg [.lit (.int .u8 128), .lit (.int .u8 143)], .agg [.lit (.int .u8 0), .lit (.int .u8 0)], .agg [.lit (.int .u8 0), .lit (.int .u8 0)], .agg [.lit (.int .u8 0), .lit (.int .u8 0)], .agg [.lit (.int .u8 0), .lit (.int .u8 0)], .agg [.lit (.int .u8 0), .lit (.int .u8 0)], .agg [.lit (.int .u8 0), .lit (.int .u8 0)], .agg [.lit (.int .u8 0), .lit (.int .u8 0)], .agg [.lit (.int .u8 0), .lit (.int .u8 0)], .agg [.lit (.int .u8 0), .lit (.int .u8 0)], .agg [.lit (.int .u8 0), .lit (.int .u8 0)], .agg [.lit (.int .u8 0), .lit (.int .u8 0)]]
/-- One of Go's own tables, pinned by name: the form's constant. -/
def laid_unicode_utf8_first : DataW Unit := Go.Pinned.utf8First

/-- 'sextonlaw20.DumpDoes': WHATEVER THE INPUT: true; the input reads as it did. -/
def dumpDoesSpec : ChangeSpec := { name := "dumpDoes", fn := fun _ => fun
  | [d] => { results := [.lit (.bool true)], args := [d] }
  | _ => none }
def dumpDoesRow : OpenClaim := { program := "ytmgkebghojhocaagreatdoor", sum := "59c786ed323ff1bf279b3d6d8033567e9d7fb3e0626252d856904a902f46c1ba", func := "sexton/sextonlaw20.DumpDoes", spec := "dumpDoes", inPlace := ["internal/bytealg.CountString", "internal/bytealg.IndexByteString", "internal/bytealg.IndexString", "internal/abi.NoEscape"], unfollowed := true, recurses := true, named := ["unicode/utf8.first", "unicode/utf8.acceptRanges", "internal/bytealg.MaxLen"], apart := false, laid := [("unicode/utf8.acceptRanges", laid_unicode_utf8_acceptRanges), ("unicode/utf8.first", laid_unicode_utf8_first)] }
def DumpDoesSaid : Prop := dumpDoesRow.holds Tryz.pinned (OpenSpec.ofChange dumpDoesSpec)

/-- ITS FALSE NEIGHBOUR: 'it returns false'. Refute it at one input. -/
def dumpDoesWrong : ChangeSpec := { name := "dumpDoes", fn := fun _ => fun
  | [d] => { results := [.lit (.bool false)], args := [d] }
  | _ => none }
def DumpDoesWrongFalsely : Prop := dumpDoesRow.holds Tryz.pinned (OpenSpec.ofChange dumpDoesWrong)

/-- 'sextonlaw20.DumpGets': WHATEVER THE INPUT: true; the input reads as it did. -/
def dumpGetsSpec : ChangeSpec := { name := "dumpGets", fn := fun _ => fun
  | [d] => { results := [.lit (.bool true)], args := [d] }
  | _ => none }
def dumpGetsRow : OpenClaim := { program := "ytmgkebghojhocaagreatdoor", sum := "59c786ed323ff1bf279b3d6d8033567e9d7fb3e0626252d856904a902f46c1ba", func := "sexton/sextonlaw20.DumpGets", spec := "dumpGets", inPlace := ["internal/bytealg.CountString", "internal/bytealg.IndexByteString", "internal/bytealg.IndexString", "internal/abi.NoEscape"], unfollowed := true, recurses := true, named := ["unicode/utf8.first", "unicode/utf8.acceptRanges", "internal/bytealg.MaxLen"], apart := false, laid := [("unicode/utf8.acceptRanges", laid_unicode_utf8_acceptRanges), ("unicode/utf8.first", laid_unicode_utf8_first)] }
def DumpGetsSaid : Prop := dumpGetsRow.holds Tryz.pinned (OpenSpec.ofChange dumpGetsSpec)

/-- ITS FALSE NEIGHBOUR: 'it returns false'. Refute it at one input. -/
def dumpGetsWrong : ChangeSpec := { name := "dumpGets", fn := fun _ => fun
  | [d] => { results := [.lit (.bool false)], args := [d] }
  | _ => none }
def DumpGetsWrongFalsely : Prop := dumpGetsRow.holds Tryz.pinned (OpenSpec.ofChange dumpGetsWrong)

/-- 'sextonlaw20.DumpBack': WHATEVER THE INPUT: true; the input reads as it did. -/
def dumpBackSpec : ChangeSpec := { name := "dumpBack", fn := fun _ => fun
  | [d1, d2] => { results := [.lit (.bool true)], args := [d1, d2] }
  | _ => none }
def dumpBackRow : OpenClaim := { program := "ytmgkebghojhocaagreatdoor", sum := "59c786ed323ff1bf279b3d6d8033567e9d7fb3e0626252d856904a902f46c1ba", func := "sexton/sextonlaw20.DumpBack", spec := "dumpBack", inPlace := ["internal/bytealg.CountString", "internal/bytealg.IndexByteString", "internal/bytealg.IndexString", "internal/abi.NoEscape"], unfollowed := true, recurses := true, named := ["unicode/utf8.first", "unicode/utf8.acceptRanges", "internal/bytealg.MaxLen"], apart := false, laid := [("unicode/utf8.acceptRanges", laid_unicode_utf8_acceptRanges), ("unicode/utf8.first", laid_unicode_utf8_first)] }
def DumpBackSaid : Prop := dumpBackRow.holds Tryz.pinned (OpenSpec.ofChange dumpBackSpec)

/-- ITS FALSE NEIGHBOUR: 'it returns false'. Refute it at one input. -/
def dumpBackWrong : ChangeSpec := { name := "dumpBack", fn := fun _ => fun
  | [d1, d2] => { results := [.lit (.bool false)], args := [d1, d2] }
  | _ => none }
def DumpBackWrongFalsely : Prop := dumpBackRow.holds Tryz.pinned (OpenSpec.ofChange dumpBackWrong)

/-- 'sextonlaw20.DumpLess': WHATEVER THE INPUT: true; the input reads as it did. -/
def dumpLessSpec : ChangeSpec := { name := "dumpLess", fn := fun _ => fun
  | [d1, d2] => { results := [.lit (.bool true)], args := [d1, d2] }
  | _ => none }
def dumpLessRow : OpenClaim := { program := "ytmgkebghojhocaagreatdoor", sum := "59c786ed323ff1bf279b3d6d8033567e9d7fb3e0626252d856904a902f46c1ba", func := "sexton/sextonlaw20.DumpLess", spec := "dumpLess", inPlace := ["internal/bytealg.CountString", "internal/bytealg.IndexByteString", "internal/bytealg.IndexString", "internal/abi.NoEscape"], unfollowed := true, recurses := true, named := ["unicode/utf8.first", "unicode/utf8.acceptRanges", "internal/bytealg.MaxLen"], apart := false, laid := [("unicode/utf8.acceptRanges", laid_unicode_utf8_acceptRanges), ("unicode/utf8.first", laid_unicode_utf8_first)] }
def DumpLessSaid : Prop := dumpLessRow.holds Tryz.pinned (OpenSpec.ofChange dumpLessSpec)

/-- ITS FALSE NEIGHBOUR: 'it returns false'. Refute it at one input. -/
def dumpLessWrong : ChangeSpec := { name := "dumpLess", fn := fun _ => fun
  | [d1, d2] => { results := [.lit (.bool false)], args := [d1, d2] }
  | _ => none }
def DumpLessWrongFalsely : Prop := dumpLessRow.holds Tryz.pinned (OpenSpec.ofChange dumpLessWrong)

/-- 'sextonlaw18.VacuumLeast': WHATEVER THE INPUT: true; the input reads as it did. -/
def vacuumLeastSpec : ChangeSpec := { name := "vacuumLeast", fn := fun _ => fun
  | [d1, d2] => { results := [.lit (.bool true)], args := [d1, d2] }
  | _ => none }
def vacuumLeastRow : OpenClaim := { program := "ytmgkebghojhocaagreatdoor", sum := "59c786ed323ff1bf279b3d6d8033567e9d7fb3e0626252d856904a902f46c1ba", func := "sexton/sextonlaw18.VacuumLeast", spec := "vacuumLeast", inPlace := ["internal/bytealg.CountString", "internal/bytealg.IndexByteString", "internal/bytealg.IndexString", "internal/bytealg.abigen_runtime_cmpstring", "internal/abi.NoEscape"], unfollowed := true, recurses := true, named := ["unicode/utf8.first", "unicode/utf8.acceptRanges", "internal/bytealg.MaxLen"], apart := false, laid := [("unicode/utf8.acceptRanges", laid_unicode_utf8_acceptRanges), ("unicode/utf8.first", laid_unicode_utf8_first)] }
def VacuumLeastSaid : Prop := vacuumLeastRow.holds Tryz.pinned (OpenSpec.ofChange vacuumLeastSpec)

/-- ITS FALSE NEIGHBOUR: 'it returns false'. Refute it at one input. -/
def vacuumLeastWrong : ChangeSpec := { name := "vacuumLeast", fn := fun _ => fun
  | [d1, d2] => { results := [.lit (.bool false)], args := [d1, d2] }
  | _ => none }
def VacuumLeastWrongFalsely : Prop := vacuumLeastRow.holds Tryz.pinned (OpenSpec.ofChange vacuumLeastWrong)

/-- 'sextonlaw20.DumpTree': WHATEVER THE INPUT: true; the input reads as it did. -/
def dumpTreeSpec : ChangeSpec := { name := "dumpTree", fn := fun _ => fun
  | [d] => { results := [.lit (.bool true)], args := [d] }
  | _ => none }
def dumpTreeRow : OpenClaim := { program := "ytmgkebghojhocaagreatdoor", sum := "59c786ed323ff1bf279b3d6d8033567e9d7fb3e0626252d856904a902f46c1ba", func := "sexton/sextonlaw20.DumpTree", spec := "dumpTree", inPlace := ["internal/bytealg.CountString", "internal/bytealg.IndexByteString", "internal/bytealg.IndexString", "internal/abi.NoEscape"], unfollowed := true, recurses := true, named := ["unicode/utf8.first", "unicode/utf8.acceptRanges", "internal/bytealg.MaxLen"], apart := false, laid := [("unicode/utf8.acceptRanges", laid_unicode_utf8_acceptRanges), ("unicode/utf8.first", laid_unicode_utf8_first)] }
def DumpTreeSaid : Prop := dumpTreeRow.holds Tryz.pinned (OpenSpec.ofChange dumpTreeSpec)

/-- ITS FALSE NEIGHBOUR: 'it returns false'. Refute it at one input. -/
def dumpTreeWrong : ChangeSpec := { name := "dumpTree", fn := fun _ => fun
  | [d] => { results := [.lit (.bool false)], args := [d] }
  | _ => none }
def DumpTreeWrongFalsely : Prop := dumpTreeRow.holds Tryz.pinned (OpenSpec.ofChange dumpTreeWrong)

/-- 'sextonlaw16.DiffBack': WHATEVER THE INPUT: true; the input reads as it did. -/
def diffBackSpec : ChangeSpec := { name := "diffBack", fn := fun _ => fun
  | [d1, d2, d3, d4] => { results := [.lit (.bool true)], args := [d1, d2, d3, d4] }
  | _ => none }
def diffBackRow : OpenClaim := { program := "ytmgkebghojhocaagreatdoor", sum := "59c786ed323ff1bf279b3d6d8033567e9d7fb3e0626252d856904a902f46c1ba", func := "sexton/sextonlaw16.DiffBack", spec := "diffBack", inPlace := ["internal/bytealg.CountString", "internal/bytealg.IndexByteString", "internal/bytealg.IndexString", "internal/bytealg.abigen_runtime_cmpstring", "internal/abi.NoEscape"], unfollowed := true, recurses := true, named := ["unicode/utf8.first", "unicode/utf8.acceptRanges", "internal/bytealg.MaxLen"], apart := false, laid := [("unicode/utf8.acceptRanges", laid_unicode_utf8_acceptRanges), ("unicode/utf8.first", laid_unicode_utf8_first)] }
def DiffBackSaid : Prop := diffBackRow.holds Tryz.pinned (OpenSpec.ofChange diffBackSpec)

/-- ITS FALSE NEIGHBOUR: 'it returns false'. Refute it at one input. -/
def diffBackWrong : ChangeSpec := { name := "diffBack", fn := fun _ => fun
  | [d1, d2, d3, d4] => { results := [.lit (.bool false)], args := [d1, d2, d3, d4] }
  | _ => none }
def DiffBackWrongFalsely : Prop := diffBackRow.holds Tryz.pinned (OpenSpec.ofChange diffBackWrong)

/-- 'sextonlaw16.DiffThen': WHATEVER THE INPUT: true; the input reads as it did. -/
def diffThenSpec : ChangeSpec := { name := "diffThen", fn := fun _ => fun
  | [d1, d2, d3, d4, d5] => { results := [.lit (.bool true)], args := [d1, d2, d3, d4, d5] }
  | _ => none }
def diffThenRow : OpenClaim := { program := "ytmgkebghojhocaagreatdoor", sum := "59c786ed323ff1bf279b3d6d8033567e9d7fb3e0626252d856904a902f46c1ba", func := "sexton/sextonlaw16.DiffThen", spec := "diffThen", inPlace := ["internal/bytealg.CountString", "internal/bytealg.IndexByteString", "internal/bytealg.IndexString", "internal/bytealg.abigen_runtime_cmpstring", "internal/abi.NoEscape"], unfollowed := true, recurses := true, named := ["unicode/utf8.first", "unicode/utf8.acceptRanges", "internal/bytealg.MaxLen"], apart := false, laid := [("unicode/utf8.acceptRanges", laid_unicode_utf8_acceptRanges), ("unicode/utf8.first", laid_unicode_utf8_first)] }
def DiffThenSaid : Prop := diffThenRow.holds Tryz.pinned (OpenSpec.ofChange diffThenSpec)

/-- ITS FALSE NEIGHBOUR: 'it returns false'. Refute it at one input. -/
def diffThenWrong : ChangeSpec := { name := "diffThen", fn := fun _ => fun
  | [d1, d2, d3, d4, d5] => { results := [.lit (.bool false)], args := [d1, d2, d3, d4, d5] }
  | _ => none }
def DiffThenWrongFalsely : Prop := diffThenRow.holds Tryz.pinned (OpenSpec.ofChange diffThenWrong)

/-- 'sextonlaw16.DiffTells': WHATEVER THE INPUT: true; the input reads as it did. -/
def diffTellsSpec : ChangeSpec := { name := "diffTells", fn := fun _ => fun
  | [d1, d2, d3, d4] => { results := [.lit (.bool true)], args := [d1, d2, d3, d4] }
  | _ => none }
def diffTellsRow : OpenClaim := { program := "ytmgkebghojhocaagreatdoor", sum := "59c786ed323ff1bf279b3d6d8033567e9d7fb3e0626252d856904a902f46c1ba", func := "sexton/sextonlaw16.DiffTells", spec := "diffTells", inPlace := ["internal/bytealg.CountString", "internal/bytealg.IndexByteString", "internal/bytealg.IndexString", "internal/bytealg.abigen_runtime_cmpstring", "internal/abi.NoEscape"], unfollowed := true, recurses := true, named := ["unicode/utf8.first", "unicode/utf8.acceptRanges", "internal/bytealg.MaxLen"], apart := false, laid := [("unicode/utf8.acceptRanges", laid_unicode_utf8_acceptRanges), ("unicode/utf8.first", laid_unicode_utf8_first)] }
def DiffTellsSaid : Prop := diffTellsRow.holds Tryz.pinned (OpenSpec.ofChange diffTellsSpec)

/-- ITS FALSE NEIGHBOUR: 'it returns false'. Refute it at one input. -/
def diffTellsWrong : ChangeSpec := { name := "diffTells", fn := fun _ => fun
  | [d1, d2, d3, d4] => { results := [.lit (.bool false)], args := [d1, d2, d3, d4] }
  | _ => none }
def DiffTellsWrongFalsely : Prop := diffTellsRow.holds Tryz.pinned (OpenSpec.ofChange diffTellsWrong)

/-- 'sextonlaw18.VacuumKeeps': WHATEVER THE INPUT: true; the input reads as it did. -/
def vacuumKeepsSpec : ChangeSpec := { name := "vacuumKeeps", fn := fun _ => fun
  | [d1, d2, d3, d4] => { results := [.lit (.bool true)], args := [d1, d2, d3, d4] }
  | _ => none }
def vacuumKeepsRow : OpenClaim := { program := "ytmgkebghojhocaagreatdoor", sum := "59c786ed323ff1bf279b3d6d8033567e9d7fb3e0626252d856904a902f46c1ba", func := "sexton/sextonlaw18.VacuumKeeps", spec := "vacuumKeeps", inPlace := ["internal/bytealg.CountString", "internal/bytealg.IndexByteString", "internal/bytealg.IndexString", "internal/bytealg.abigen_runtime_cmpstring", "internal/abi.NoEscape"], unfollowed := true, recurses := true, named := ["unicode/utf8.first", "unicode/utf8.acceptRanges", "internal/bytealg.MaxLen"], apart := false, laid := [("unicode/utf8.acceptRanges", laid_unicode_utf8_acceptRanges), ("unicode/utf8.first", laid_unicode_utf8_first)] }
def VacuumKeepsSaid : Prop := vacuumKeepsRow.holds Tryz.pinned (OpenSpec.ofChange vacuumKeepsSpec)

/-- ITS FALSE NEIGHBOUR: 'it returns false'. Refute it at one input. -/
def vacuumKeepsWrong : ChangeSpec := { name := "vacuumKeeps", fn := fun _ => fun
  | [d1, d2, d3, d4] => { results := [.lit (.bool false)], args := [d1, d2, d3, d4] }
  | _ => none }
def VacuumKeepsWrongFalsely : Prop := vacuumKeepsRow.holds Tryz.pinned (OpenSpec.ofChange vacuumKeepsWrong)

/- THE SECOND FORM. 'bulk': how many values and letters a reading holds, each counted each time it is reached (what is shared counts as often as it is met; a slice's spare places count too). A statement '..UptoSaid' is the law's where the arguments, and the package variables that the reading takes, are together of bulk at most 1048576: NARROWER than '..Said'. Prove '..Said' where nothing that the law and all that it calls make is longer than what came in: it says more and counts as full. Else prove '..UptoSaid'. A law counts once. -/
mutual
def uptoBulk {H : Type} : DataW H → Nat
  | .lit (.string bytes) => bytes.length + 1
  | .lit _ => 1
  | .nil => 1
  | .ptr d => uptoBulk d + 1
  | .slice elems spare => uptoBulkAll elems + uptoBulkAll spare + 1
  | .agg parts => uptoBulkAll parts + 1
  | .iface _ d => uptoBulk d + 1
  | .map entries => uptoBulkEntries entries + 1
  | .held _ => 1
def uptoBulkAll {H : Type} : List (DataW H) → Nat
  | [] => 0
  | d :: r => uptoBulk d + uptoBulkAll r
def uptoBulkEntries {H : Type} : List (Lit × DataW H) → Nat
  | [] => 0
  | x :: r => uptoBulkEntry x + uptoBulkEntries r
def uptoBulkEntry {H : Type} : Lit × DataW H → Nat
  | (.string bytes, d) => bytes.length + uptoBulk d + 1
  | (_, d) => uptoBulk d + 1
 end
def uptoSmall : (H : Type) → List (DataW H) → Bool := fun _ ds => decide (uptoBulkAll ds ≤ 1048576)
def OpenSpec.upto (s : _root_.Go.ChangeSpec) : _root_.Go.OpenSpec := { _root_.Go.OpenSpec.ofChange s with cond := some uptoSmall }

/-- 'sextonlaw20.DumpDoes', WHERE WHAT IT READS IS OF BULK AT MOST 1048576: true; the input reads as it did. -/
def dumpDoesUptoRow : OpenClaim := { program := "ytmgkebghojhocaagreatdoor", sum := "59c786ed323ff1bf279b3d6d8033567e9d7fb3e0626252d856904a902f46c1ba", func := "sexton/sextonlaw20.DumpDoes", spec := "dumpDoes", inPlace := ["internal/bytealg.CountString", "internal/bytealg.IndexByteString", "internal/bytealg.IndexString", "internal/abi.NoEscape"], unfollowed := true, recurses := true, named := ["unicode/utf8.first", "unicode/utf8.acceptRanges", "internal/bytealg.MaxLen"], apart := false, laid := [("unicode/utf8.acceptRanges", laid_unicode_utf8_acceptRanges), ("unicode/utf8.first", laid_unicode_utf8_first)], narrowed := true }
def DumpDoesUptoSaid : Prop := dumpDoesUptoRow.holds Tryz.pinned (OpenSpec.upto dumpDoesSpec)

/-- 'sextonlaw20.DumpGets', WHERE WHAT IT READS IS OF BULK AT MOST 1048576: true; the input reads as it did. -/
def dumpGetsUptoRow : OpenClaim := { program := "ytmgkebghojhocaagreatdoor", sum := "59c786ed323ff1bf279b3d6d8033567e9d7fb3e0626252d856904a902f46c1ba", func := "sexton/sextonlaw20.DumpGets", spec := "dumpGets", inPlace := ["internal/bytealg.CountString", "internal/bytealg.IndexByteString", "internal/bytealg.IndexString", "internal/abi.NoEscape"], unfollowed := true, recurses := true, named := ["unicode/utf8.first", "unicode/utf8.acceptRanges", "internal/bytealg.MaxLen"], apart := false, laid := [("unicode/utf8.acceptRanges", laid_unicode_utf8_acceptRanges), ("unicode/utf8.first", laid_unicode_utf8_first)], narrowed := true }
def DumpGetsUptoSaid : Prop := dumpGetsUptoRow.holds Tryz.pinned (OpenSpec.upto dumpGetsSpec)

/-- 'sextonlaw20.DumpBack', WHERE WHAT IT READS IS OF BULK AT MOST 1048576: true; the input reads as it did. -/
def dumpBackUptoRow : OpenClaim := { program := "ytmgkebghojhocaagreatdoor", sum := "59c786ed323ff1bf279b3d6d8033567e9d7fb3e0626252d856904a902f46c1ba", func := "sexton/sextonlaw20.DumpBack", spec := "dumpBack", inPlace := ["internal/bytealg.CountString", "internal/bytealg.IndexByteString", "internal/bytealg.IndexString", "internal/abi.NoEscape"], unfollowed := true, recurses := true, named := ["unicode/utf8.first", "unicode/utf8.acceptRanges", "internal/bytealg.MaxLen"], apart := false, laid := [("unicode/utf8.acceptRanges", laid_unicode_utf8_acceptRanges), ("unicode/utf8.first", laid_unicode_utf8_first)], narrowed := true }
def DumpBackUptoSaid : Prop := dumpBackUptoRow.holds Tryz.pinned (OpenSpec.upto dumpBackSpec)

/-- 'sextonlaw20.DumpLess', WHERE WHAT IT READS IS OF BULK AT MOST 1048576: true; the input reads as it did. -/
def dumpLessUptoRow : OpenClaim := { program := "ytmgkebghojhocaagreatdoor", sum := "59c786ed323ff1bf279b3d6d8033567e9d7fb3e0626252d856904a902f46c1ba", func := "sexton/sextonlaw20.DumpLess", spec := "dumpLess", inPlace := ["internal/bytealg.CountString", "internal/bytealg.IndexByteString", "internal/bytealg.IndexString", "internal/abi.NoEscape"], unfollowed := true, recurses := true, named := ["unicode/utf8.first", "unicode/utf8.acceptRanges", "internal/bytealg.MaxLen"], apart := false, laid := [("unicode/utf8.acceptRanges", laid_unicode_utf8_acceptRanges), ("unicode/utf8.first", laid_unicode_utf8_first)], narrowed := true }
def DumpLessUptoSaid : Prop := dumpLessUptoRow.holds Tryz.pinned (OpenSpec.upto dumpLessSpec)

/-- 'sextonlaw18.VacuumLeast', WHERE WHAT IT READS IS OF BULK AT MOST 1048576: true; the input reads as it did. -/
def vacuumLeastUptoRow : OpenClaim := { program := "ytmgkebghojhocaagreatdoor", sum := "59c786ed323ff1bf279b3d6d8033567e9d7fb3e0626252d856904a902f46c1ba", func := "sexton/sextonlaw18.VacuumLeast", spec := "vacuumLeast", inPlace := ["internal/bytealg.CountString", "internal/bytealg.IndexByteString", "internal/bytealg.IndexString", "internal/bytealg.abigen_runtime_cmpstring", "internal/abi.NoEscape"], unfollowed := true, recurses := true, named := ["unicode/utf8.first", "unicode/utf8.acceptRanges", "internal/bytealg.MaxLen"], apart := false, laid := [("unicode/utf8.acceptRanges", laid_unicode_utf8_acceptRanges), ("unicode/utf8.first", laid_unicode_utf8_first)], narrowed := true }
def VacuumLeastUptoSaid : Prop := vacuumLeastUptoRow.holds Tryz.pinned (OpenSpec.upto vacuumLeastSpec)

/-- 'sextonlaw20.DumpTree', WHERE WHAT IT READS IS OF BULK AT MOST 1048576: true; the input reads as it did. -/
def dumpTreeUptoRow : OpenClaim := { program := "ytmgkebghojhocaagreatdoor", sum := "59c786ed323ff1bf279b3d6d8033567e9d7fb3e0626252d856904a902f46c1ba", func := "sexton/sextonlaw20.DumpTree", spec := "dumpTree", inPlace := ["internal/bytealg.CountString", "internal/bytealg.IndexByteString", "internal/bytealg.IndexString", "internal/abi.NoEscape"], unfollowed := true, recurses := true, named := ["unicode/utf8.first", "unicode/utf8.acceptRanges", "internal/bytealg.MaxLen"], apart := false, laid := [("unicode/utf8.acceptRanges", laid_unicode_utf8_acceptRanges), ("unicode/utf8.first", laid_unicode_utf8_first)], narrowed := true }
def DumpTreeUptoSaid : Prop := dumpTreeUptoRow.holds Tryz.pinned (OpenSpec.upto dumpTreeSpec)

/-- 'sextonlaw16.DiffBack', WHERE WHAT IT READS IS OF BULK AT MOST 1048576: true; the input reads as it did. -/
def diffBackUptoRow : OpenClaim := { program := "ytmgkebghojhocaagreatdoor", sum := "59c786ed323ff1bf279b3d6d8033567e9d7fb3e0626252d856904a902f46c1ba", func := "sexton/sextonlaw16.DiffBack", spec := "diffBack", inPlace := ["internal/bytealg.CountString", "internal/bytealg.IndexByteString", "internal/bytealg.IndexString", "internal/bytealg.abigen_runtime_cmpstring", "internal/abi.NoEscape"], unfollowed := true, recurses := true, named := ["unicode/utf8.first", "unicode/utf8.acceptRanges", "internal/bytealg.MaxLen"], apart := false, laid := [("unicode/utf8.acceptRanges", laid_unicode_utf8_acceptRanges), ("unicode/utf8.first", laid_unicode_utf8_first)], narrowed := true }
def DiffBackUptoSaid : Prop := diffBackUptoRow.holds Tryz.pinned (OpenSpec.upto diffBackSpec)

/-- 'sextonlaw16.DiffThen', WHERE WHAT IT READS IS OF BULK AT MOST 1048576: true; the input reads as it did. -/
def diffThenUptoRow : OpenClaim := { program := "ytmgkebghojhocaagreatdoor", sum := "59c786ed323ff1bf279b3d6d8033567e9d7fb3e0626252d856904a902f46c1ba", func := "sexton/sextonlaw16.DiffThen", spec := "diffThen", inPlace := ["internal/bytealg.CountString", "internal/bytealg.IndexByteString", "internal/bytealg.IndexString", "internal/bytealg.abigen_runtime_cmpstring", "internal/abi.NoEscape"], unfollowed := true, recurses := true, named := ["unicode/utf8.first", "unicode/utf8.acceptRanges", "internal/bytealg.MaxLen"], apart := false, laid := [("unicode/utf8.acceptRanges", laid_unicode_utf8_acceptRanges), ("unicode/utf8.first", laid_unicode_utf8_first)], narrowed := true }
def DiffThenUptoSaid : Prop := diffThenUptoRow.holds Tryz.pinned (OpenSpec.upto diffThenSpec)

/-- 'sextonlaw16.DiffTells', WHERE WHAT IT READS IS OF BULK AT MOST 1048576: true; the input reads as it did. -/
def diffTellsUptoRow : OpenClaim := { program := "ytmgkebghojhocaagreatdoor", sum := "59c786ed323ff1bf279b3d6d8033567e9d7fb3e0626252d856904a902f46c1ba", func := "sexton/sextonlaw16.DiffTells", spec := "diffTells", inPlace := ["internal/bytealg.CountString", "internal/bytealg.IndexByteString", "internal/bytealg.IndexString", "internal/bytealg.abigen_runtime_cmpstring", "internal/abi.NoEscape"], unfollowed := true, recurses := true, named := ["unicode/utf8.first", "unicode/utf8.acceptRanges", "internal/bytealg.MaxLen"], apart := false, laid := [("unicode/utf8.acceptRanges", laid_unicode_utf8_acceptRanges), ("unicode/utf8.first", laid_unicode_utf8_first)], narrowed := true }
def DiffTellsUptoSaid : Prop := diffTellsUptoRow.holds Tryz.pinned (OpenSpec.upto diffTellsSpec)

/-- 'sextonlaw18.VacuumKeeps', WHERE WHAT IT READS IS OF BULK AT MOST 1048576: true; the input reads as it did. -/
def vacuumKeepsUptoRow : OpenClaim := { program := "ytmgkebghojhocaagreatdoor", sum := "59c786ed323ff1bf279b3d6d8033567e9d7fb3e0626252d856904a902f46c1ba", func := "sexton/sextonlaw18.VacuumKeeps", spec := "vacuumKeeps", inPlace := ["internal/bytealg.CountString", "internal/bytealg.IndexByteString", "internal/bytealg.IndexString", "internal/bytealg.abigen_runtime_cmpstring", "internal/abi.NoEscape"], unfollowed := true, recurses := true, named := ["unicode/utf8.first", "unicode/utf8.acceptRanges", "internal/bytealg.MaxLen"], apart := false, laid := [("unicode/utf8.acceptRanges", laid_unicode_utf8_acceptRanges), ("unicode/utf8.first", laid_unicode_utf8_first)], narrowed := true }
def VacuumKeepsUptoSaid : Prop := vacuumKeepsUptoRow.holds Tryz.pinned (OpenSpec.upto vacuumKeepsSpec)

end Rows
end Go.Proofs.YtmgkebghojhocaaGreatDoor
