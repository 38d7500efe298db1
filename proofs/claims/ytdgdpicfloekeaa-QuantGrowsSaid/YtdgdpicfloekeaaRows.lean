/-
  No cell of these rows narrows 'for every input' (looked for: loops, veiled, ifaces, maps, wideKeys, modest, calm, conditions, laid).
  DERIVED. THE GIVEN ROWS OF THIS SEAT. 10 by the template 'for every input the law returns true; each argument reads behind the call as it read before'; 0 by the template 'total and deterministic' (their statements: YtdgdpicfloekeaaTotals.lean).
  GIVEN WITH THE SEED: the statements are not yours to turn. If you find one false, say at which input.
  Laid BY PROGRAM, IN A SANDBOX (cutbox-rows.mjs): the forced cells as the released guide's own fill.sh prints them over the translation 9f77f5b4e3ed4805… (all of the seat's roots in one cut). By AI agents, Wed Nov 11 2026. No macro, syntax, notation, axiom, sorry.
-/
import Derived.Test.YtdgdpicfloekeaaChecked
import GoSem.Claim
import GoSem.ClaimJoined
import GoSem.ClaimMapViews
import Derived.JoinedTies
import Derived.KernelRfl
namespace Go.Proofs.Ytdgdpicfloekeaa
/- THE CELL 'sum', in the pinned program and in every row, IS THE sha256 OF THE DUMP (.gsa) THAT YtdgdpicfloekeaaProg.lean LOADS. Nothing in Lean hashes anything: it is a label: what it is worth is what the hold of that sum in a sandbox is worth. -/
noncomputable def Try.pinned : Pinned := { name := "ytdgdpicfloekeaa", sum := "9f77f5b4e3ed4805c536e23612f17ac5551c1937abe6e286677a2e0dd1b0dd3f", checked := Try.checked }
namespace Rows
def none {H : Type} : Left H := { results := [], args := [] }

/-- 'kinescopelaw08.QuantLevels': WHATEVER THE INPUT: true; the input reads as it did. -/
def quantLevelsSpec : ChangeSpec := { name := "quantLevels", fn := fun _ => fun
  | [d1, d2, d3] => { results := [.lit (.bool true)], args := [d1, d2, d3] }
  | _ => none }
def quantLevelsRow : OpenClaim := { program := "ytdgdpicfloekeaa", sum := "9f77f5b4e3ed4805c536e23612f17ac5551c1937abe6e286677a2e0dd1b0dd3f", func := "kinescope/kinescopelaw08.QuantLevels", spec := "quantLevels", apart := false }
def QuantLevelsSaid : Prop := quantLevelsRow.holds Try.pinned (OpenSpec.ofChange quantLevelsSpec)

/-- ITS FALSE NEIGHBOUR: 'it returns false'. Refute it at one input. -/
def quantLevelsWrong : ChangeSpec := { name := "quantLevels", fn := fun _ => fun
  | [d1, d2, d3] => { results := [.lit (.bool false)], args := [d1, d2, d3] }
  | _ => none }
def QuantLevelsWrongFalsely : Prop := quantLevelsRow.holds Try.pinned (OpenSpec.ofChange quantLevelsWrong)

/-- 'kinescopelaw08.QuantFirsts': WHATEVER THE INPUT: true; the input reads as it did. -/
def quantFirstsSpec : ChangeSpec := { name := "quantFirsts", fn := fun _ => fun
  | [d1, d2, d3] => { results := [.lit (.bool true)], args := [d1, d2, d3] }
  | _ => none }
def quantFirstsRow : OpenClaim := { program := "ytdgdpicfloekeaa", sum := "9f77f5b4e3ed4805c536e23612f17ac5551c1937abe6e286677a2e0dd1b0dd3f", func := "kinescope/kinescopelaw08.QuantFirsts", spec := "quantFirsts", apart := false }
def QuantFirstsSaid : Prop := quantFirstsRow.holds Try.pinned (OpenSpec.ofChange quantFirstsSpec)

/-- ITS FALSE NEIGHBOUR: 'it returns false'. Refute it at one input. -/
def quantFirstsWrong : ChangeSpec := { name := "quantFirsts", fn := fun _ => fun
  | [d1, d2, d3] => { results := [.lit (.bool false)], args := [d1, d2, d3] }
  | _ => none }
def QuantFirstsWrongFalsely : Prop := quantFirstsRow.holds Try.pinned (OpenSpec.ofChange quantFirstsWrong)

/-- 'kinescopelaw07.HadSums': WHATEVER THE INPUT: true; the input reads as it did. -/
def hadSumsSpec : ChangeSpec := { name := "hadSums", fn := fun _ => fun
  | [d1, d2] => { results := [.lit (.bool true)], args := [d1, d2] }
  | _ => none }
def hadSumsRow : OpenClaim := { program := "ytdgdpicfloekeaa", sum := "9f77f5b4e3ed4805c536e23612f17ac5551c1937abe6e286677a2e0dd1b0dd3f", func := "kinescope/kinescopelaw07.HadSums", spec := "hadSums", apart := false }
def HadSumsSaid : Prop := hadSumsRow.holds Try.pinned (OpenSpec.ofChange hadSumsSpec)

/-- ITS FALSE NEIGHBOUR: 'it returns false'. Refute it at one input. -/
def hadSumsWrong : ChangeSpec := { name := "hadSums", fn := fun _ => fun
  | [d1, d2] => { results := [.lit (.bool false)], args := [d1, d2] }
  | _ => none }
def HadSumsWrongFalsely : Prop := hadSumsRow.holds Try.pinned (OpenSpec.ofChange hadSumsWrong)

/-- 'kinescopelaw07.HadShifts': WHATEVER THE INPUT: true; the input reads as it did. -/
def hadShiftsSpec : ChangeSpec := { name := "hadShifts", fn := fun _ => fun
  | [d1, d2] => { results := [.lit (.bool true)], args := [d1, d2] }
  | _ => none }
def hadShiftsRow : OpenClaim := { program := "ytdgdpicfloekeaa", sum := "9f77f5b4e3ed4805c536e23612f17ac5551c1937abe6e286677a2e0dd1b0dd3f", func := "kinescope/kinescopelaw07.HadShifts", spec := "hadShifts", apart := false }
def HadShiftsSaid : Prop := hadShiftsRow.holds Try.pinned (OpenSpec.ofChange hadShiftsSpec)

/-- ITS FALSE NEIGHBOUR: 'it returns false'. Refute it at one input. -/
def hadShiftsWrong : ChangeSpec := { name := "hadShifts", fn := fun _ => fun
  | [d1, d2] => { results := [.lit (.bool false)], args := [d1, d2] }
  | _ => none }
def HadShiftsWrongFalsely : Prop := hadShiftsRow.holds Try.pinned (OpenSpec.ofChange hadShiftsWrong)

/-- 'kinescopelaw08.QuantTables': WHATEVER THE INPUT: true; the input reads as it did. -/
def quantTablesSpec : ChangeSpec := { name := "quantTables", fn := fun _ => fun
  | [d1, d2, d3, d4] => { results := [.lit (.bool true)], args := [d1, d2, d3, d4] }
  | _ => none }
def quantTablesRow : OpenClaim := { program := "ytdgdpicfloekeaa", sum := "9f77f5b4e3ed4805c536e23612f17ac5551c1937abe6e286677a2e0dd1b0dd3f", func := "kinescope/kinescopelaw08.QuantTables", spec := "quantTables", apart := false }
def QuantTablesSaid : Prop := quantTablesRow.holds Try.pinned (OpenSpec.ofChange quantTablesSpec)

/-- ITS FALSE NEIGHBOUR: 'it returns false'. Refute it at one input. -/
def quantTablesWrong : ChangeSpec := { name := "quantTables", fn := fun _ => fun
  | [d1, d2, d3, d4] => { results := [.lit (.bool false)], args := [d1, d2, d3, d4] }
  | _ => none }
def QuantTablesWrongFalsely : Prop := quantTablesRow.holds Try.pinned (OpenSpec.ofChange quantTablesWrong)

/-- 'kinescopelaw08.QuantGrows': WHATEVER THE INPUT: true; the input reads as it did. -/
def quantGrowsSpec : ChangeSpec := { name := "quantGrows", fn := fun _ => fun
  | [d1, d2, d3, d4, d5, d6] => { results := [.lit (.bool true)], args := [d1, d2, d3, d4, d5, d6] }
  | _ => none }
def quantGrowsRow : OpenClaim := { program := "ytdgdpicfloekeaa", sum := "9f77f5b4e3ed4805c536e23612f17ac5551c1937abe6e286677a2e0dd1b0dd3f", func := "kinescope/kinescopelaw08.QuantGrows", spec := "quantGrows", apart := false }
def QuantGrowsSaid : Prop := quantGrowsRow.holds Try.pinned (OpenSpec.ofChange quantGrowsSpec)

/-- ITS FALSE NEIGHBOUR: 'it returns false'. Refute it at one input. -/
def quantGrowsWrong : ChangeSpec := { name := "quantGrows", fn := fun _ => fun
  | [d1, d2, d3, d4, d5, d6] => { results := [.lit (.bool false)], args := [d1, d2, d3, d4, d5, d6] }
  | _ => none }
def QuantGrowsWrongFalsely : Prop := quantGrowsRow.holds Try.pinned (OpenSpec.ofChange quantGrowsWrong)

/-- 'kinescopelaw07.HadSigns': WHATEVER THE INPUT: true; the input reads as it did. -/
def hadSignsSpec : ChangeSpec := { name := "hadSigns", fn := fun _ => fun
  | [d1, d2, d3] => { results := [.lit (.bool true)], args := [d1, d2, d3] }
  | _ => none }
def hadSignsRow : OpenClaim := { program := "ytdgdpicfloekeaa", sum := "9f77f5b4e3ed4805c536e23612f17ac5551c1937abe6e286677a2e0dd1b0dd3f", func := "kinescope/kinescopelaw07.HadSigns", spec := "hadSigns", apart := false }
def HadSignsSaid : Prop := hadSignsRow.holds Try.pinned (OpenSpec.ofChange hadSignsSpec)

/-- ITS FALSE NEIGHBOUR: 'it returns false'. Refute it at one input. -/
def hadSignsWrong : ChangeSpec := { name := "hadSigns", fn := fun _ => fun
  | [d1, d2, d3] => { results := [.lit (.bool false)], args := [d1, d2, d3] }
  | _ => none }
def HadSignsWrongFalsely : Prop := hadSignsRow.holds Try.pinned (OpenSpec.ofChange hadSignsWrong)

/-- 'kinescopelaw07.HadTurns': WHATEVER THE INPUT: true; the input reads as it did. -/
def hadTurnsSpec : ChangeSpec := { name := "hadTurns", fn := fun _ => fun
  | [d1, d2] => { results := [.lit (.bool true)], args := [d1, d2] }
  | _ => none }
def hadTurnsRow : OpenClaim := { program := "ytdgdpicfloekeaa", sum := "9f77f5b4e3ed4805c536e23612f17ac5551c1937abe6e286677a2e0dd1b0dd3f", func := "kinescope/kinescopelaw07.HadTurns", spec := "hadTurns", apart := false }
def HadTurnsSaid : Prop := hadTurnsRow.holds Try.pinned (OpenSpec.ofChange hadTurnsSpec)

/-- ITS FALSE NEIGHBOUR: 'it returns false'. Refute it at one input. -/
def hadTurnsWrong : ChangeSpec := { name := "hadTurns", fn := fun _ => fun
  | [d1, d2] => { results := [.lit (.bool false)], args := [d1, d2] }
  | _ => none }
def HadTurnsWrongFalsely : Prop := hadTurnsRow.holds Try.pinned (OpenSpec.ofChange hadTurnsWrong)

/-- 'kinescopelaw07.HadBack': WHATEVER THE INPUT: true; the input reads as it did. -/
def hadBackSpec : ChangeSpec := { name := "hadBack", fn := fun _ => fun
  | [d] => { results := [.lit (.bool true)], args := [d] }
  | _ => none }
def hadBackRow : OpenClaim := { program := "ytdgdpicfloekeaa", sum := "9f77f5b4e3ed4805c536e23612f17ac5551c1937abe6e286677a2e0dd1b0dd3f", func := "kinescope/kinescopelaw07.HadBack", spec := "hadBack", apart := false }
def HadBackSaid : Prop := hadBackRow.holds Try.pinned (OpenSpec.ofChange hadBackSpec)

/-- ITS FALSE NEIGHBOUR: 'it returns false'. Refute it at one input. -/
def hadBackWrong : ChangeSpec := { name := "hadBack", fn := fun _ => fun
  | [d] => { results := [.lit (.bool false)], args := [d] }
  | _ => none }
def HadBackWrongFalsely : Prop := hadBackRow.holds Try.pinned (OpenSpec.ofChange hadBackWrong)

/-- 'kinescopelaw08.QuantBound': WHATEVER THE INPUT: true; the input reads as it did. -/
def quantBoundSpec : ChangeSpec := { name := "quantBound", fn := fun _ => fun
  | [d1, d2, d3, d4, d5] => { results := [.lit (.bool true)], args := [d1, d2, d3, d4, d5] }
  | _ => none }
def quantBoundRow : OpenClaim := { program := "ytdgdpicfloekeaa", sum := "9f77f5b4e3ed4805c536e23612f17ac5551c1937abe6e286677a2e0dd1b0dd3f", func := "kinescope/kinescopelaw08.QuantBound", spec := "quantBound", apart := false }
def QuantBoundSaid : Prop := quantBoundRow.holds Try.pinned (OpenSpec.ofChange quantBoundSpec)

/-- ITS FALSE NEIGHBOUR: 'it returns false'. Refute it at one input. -/
def quantBoundWrong : ChangeSpec := { name := "quantBound", fn := fun _ => fun
  | [d1, d2, d3, d4, d5] => { results := [.lit (.bool false)], args := [d1, d2, d3, d4, d5] }
  | _ => none }
def QuantBoundWrongFalsely : Prop := quantBoundRow.holds Try.pinned (OpenSpec.ofChange quantBoundWrong)

/- THE SECOND FORM. 'bulk': how many values and letters a reading holds, each counted each time it is reached (what is shared counts as often as it is met; a slice's spare places count too). A statement '..UptoSaid' is the law's where the arguments, and the package variables that the reading takes, are together of bulk at most 1048576: NARROWER than '..Said'. Prove '..Said' where nothing that the law and all that it calls make is longer than what came in: it says more and counts as full. Else prove '..UptoSaid'. A law counts once. -/
mutual
def uptoBulk {H : Type} : DataW H → Nat
  | .lit (.string bytes) => bytes.length + 1
  | .lit _ => 1
  | .nil => 1
  | .ptr d => uptoBulk d + 1
  | .slice elems spare => uptoBulkAll elems + uptoBulkAll spare + 1
  | .agg parts => uptoBulkAll parts + 1
  | .iface _ d => uptoBulk d + 1
  | .map entries => uptoBulkEntries entries + 1
  | .held _ => 1
def uptoBulkAll {H : Type} : List (DataW H) → Nat
  | [] => 0
  | d :: r => uptoBulk d + uptoBulkAll r
def uptoBulkEntries {H : Type} : List (Lit × DataW H) → Nat
  | [] => 0
  | x :: r => uptoBulkEntry x + uptoBulkEntries r
def uptoBulkEntry {H : Type} : Lit × DataW H → Nat
  | (.string bytes, d) => bytes.length + uptoBulk d + 1
  | (_, d) => uptoBulk d + 1
 end
def uptoSmall : (H : Type) → List (DataW H) → Bool := fun _ ds => decide (uptoBulkAll ds ≤ 1048576)
def OpenSpec.upto (s : _root_.Go.ChangeSpec) : _root_.Go.OpenSpec := { _root_.Go.OpenSpec.ofChange s with cond := some uptoSmall }

/-- 'kinescopelaw08.QuantLevels', WHERE WHAT IT READS IS OF BULK AT MOST 1048576: true; the input reads as it did. -/
def quantLevelsUptoRow : OpenClaim := { program := "ytdgdpicfloekeaa", sum := "9f77f5b4e3ed4805c536e23612f17ac5551c1937abe6e286677a2e0dd1b0dd3f", func := "kinescope/kinescopelaw08.QuantLevels", spec := "quantLevels", apart := false, narrowed := true }
def QuantLevelsUptoSaid : Prop := quantLevelsUptoRow.holds Try.pinned (OpenSpec.upto quantLevelsSpec)

/-- 'kinescopelaw08.QuantFirsts', WHERE WHAT IT READS IS OF BULK AT MOST 1048576: true; the input reads as it did. -/
def quantFirstsUptoRow : OpenClaim := { program := "ytdgdpicfloekeaa", sum := "9f77f5b4e3ed4805c536e23612f17ac5551c1937abe6e286677a2e0dd1b0dd3f", func := "kinescope/kinescopelaw08.QuantFirsts", spec := "quantFirsts", apart := false, narrowed := true }
def QuantFirstsUptoSaid : Prop := quantFirstsUptoRow.holds Try.pinned (OpenSpec.upto quantFirstsSpec)

/-- 'kinescopelaw07.HadSums', WHERE WHAT IT READS IS OF BULK AT MOST 1048576: true; the input reads as it did. -/
def hadSumsUptoRow : OpenClaim := { program := "ytdgdpicfloekeaa", sum := "9f77f5b4e3ed4805c536e23612f17ac5551c1937abe6e286677a2e0dd1b0dd3f", func := "kinescope/kinescopelaw07.HadSums", spec := "hadSums", apart := false, narrowed := true }
def HadSumsUptoSaid : Prop := hadSumsUptoRow.holds Try.pinned (OpenSpec.upto hadSumsSpec)

/-- 'kinescopelaw07.HadShifts', WHERE WHAT IT READS IS OF BULK AT MOST 1048576: true; the input reads as it did. -/
def hadShiftsUptoRow : OpenClaim := { program := "ytdgdpicfloekeaa", sum := "9f77f5b4e3ed4805c536e23612f17ac5551c1937abe6e286677a2e0dd1b0dd3f", func := "kinescope/kinescopelaw07.HadShifts", spec := "hadShifts", apart := false, narrowed := true }
def HadShiftsUptoSaid : Prop := hadShiftsUptoRow.holds Try.pinned (OpenSpec.upto hadShiftsSpec)

/-- 'kinescopelaw08.QuantTables', WHERE WHAT IT READS IS OF BULK AT MOST 1048576: true; the input reads as it did. -/
def quantTablesUptoRow : OpenClaim := { program := "ytdgdpicfloekeaa", sum := "9f77f5b4e3ed4805c536e23612f17ac5551c1937abe6e286677a2e0dd1b0dd3f", func := "kinescope/kinescopelaw08.QuantTables", spec := "quantTables", apart := false, narrowed := true }
def QuantTablesUptoSaid : Prop := quantTablesUptoRow.holds Try.pinned (OpenSpec.upto quantTablesSpec)

/-- 'kinescopelaw08.QuantGrows', WHERE WHAT IT READS IS OF BULK AT MOST 1048576: true; the input reads as it did. -/
def quantGrowsUptoRow : OpenClaim := { program := "ytdgdpicfloekeaa", sum := "9f77f5b4e3ed4805c536e23612f17ac5551c1937abe6e286677a2e0dd1b0dd3f", func := "kinescope/kinescopelaw08.QuantGrows", spec := "quantGrows", apart := false, narrowed := true }
def QuantGrowsUptoSaid : Prop := quantGrowsUptoRow.holds Try.pinned (OpenSpec.upto quantGrowsSpec)

/-- 'kinescopelaw07.HadSigns', WHERE WHAT IT READS IS OF BULK AT MOST 1048576: true; the input reads as it did. -/
def hadSignsUptoRow : OpenClaim := { program := "ytdgdpicfloekeaa", sum := "9f77f5b4e3ed4805c536e23612f17ac5551c1937abe6e286677a2e0dd1b0dd3f", func := "kinescope/kinescopelaw07.HadSigns", spec := "hadSigns", apart := false, narrowed := true }
def HadSignsUptoSaid : Prop := hadSignsUptoRow.holds Try.pinned (OpenSpec.upto hadSignsSpec)

/-- 'kinescopelaw07.HadTurns', WHERE WHAT IT READS IS OF BULK AT MOST 1048576: true; the input reads as it did. -/
def hadTurnsUptoRow : OpenClaim := { program := "ytdgdpicfloekeaa", sum := "9f77f5b4e3ed4805c536e23612f17ac5551c1937abe6e286677a2e0dd1b0dd3f", func := "kinescope/kinescopelaw07.HadTurns", spec := "hadTurns", apart := false, narrowed := true }
def HadTurnsUptoSaid : Prop := hadTurnsUptoRow.holds Try.pinned (OpenSpec.upto hadTurnsSpec)

/-- 'kinescopelaw07.HadBack', WHERE WHAT IT READS IS OF BULK AT MOST 1048576: true; the input reads as it did. -/
def hadBackUptoRow : OpenClaim := { program := "ytdgdpicfloekeaa", sum := "9f77f5b4e3ed4805c536e23612f17ac5551c1937abe6e286677a2e0dd1b0dd3f", func := "kinescope/kinescopelaw07.HadBack", spec := "hadBack", apart := false, narrowed := true }
def HadBackUptoSaid : Prop := hadBackUptoRow.holds Try.pinned (OpenSpec.upto hadBackSpec)

/-- 'kinescopelaw08.QuantBound', WHERE WHAT IT READS IS OF BULK AT MOST 1048576: true; the input reads as it did. -/
def quantBoundUptoRow : OpenClaim := { program := "ytdgdpicfloekeaa", sum := "9f77f5b4e3ed4805c536e23612f17ac5551c1937abe6e286677a2e0dd1b0dd3f", func := "kinescope/kinescopelaw08.QuantBound", spec := "quantBound", apart := false, narrowed := true }
def QuantBoundUptoSaid : Prop := quantBoundUptoRow.holds Try.pinned (OpenSpec.upto quantBoundSpec)

end Rows
end Go.Proofs.Ytdgdpicfloekeaa
