/-
  No cell of these rows narrows 'for every input' (looked for: loops, veiled, ifaces, maps, wideKeys, modest, calm, conditions, laid).
  DERIVED. THE GIVEN ROWS OF THIS SEAT. 12 by the template 'for every input the law returns true; each argument reads behind the call as it read before'; 0 by the template 'total and deterministic' (their statements: YtggdaefgaakijaaTotals.lean).
  GIVEN WITH THE SEED: the statements are not yours to turn. If you find one false, say at which input.
  Laid BY PROGRAM, IN A SANDBOX (cutbox-rows.mjs): the forced cells as the released guide's own fill.sh prints them over the translation 4ef010cb6eca18e0… (all of the seat's roots in one cut). By AI agents, Wed Nov 11 2026. No macro, syntax, notation, axiom, sorry.
-/
import Derived.Test.YtggdaefgaakijaaChecked
import GoSem.Claim
import GoSem.ClaimJoined
import GoSem.ClaimMapViews
import Derived.JoinedTies
import Derived.KernelRfl
namespace Go.Proofs.Ytggdaefgaakijaa
/- THE CELL 'sum', in the pinned program and in every row, IS THE sha256 OF THE DUMP (.gsa) THAT YtggdaefgaakijaaProg.lean LOADS. Nothing in Lean hashes anything: it is a label: what it is worth is what the hold of that sum in a sandbox is worth. -/
noncomputable def Try.pinned : Pinned := { name := "ytggdaefgaakijaa", sum := "4ef010cb6eca18e09b7b775994d54cd02937fa2906fb3654bcd584ef1f8bf5bc", checked := Try.checked }
namespace Rows
def none {H : Type} : Left H := { results := [], args := [] }

/-- 'kinescopelaw13.InterpSpans': WHATEVER THE INPUT: true; the input reads as it did. -/
def interpSpansSpec : ChangeSpec := { name := "interpSpans", fn := fun _ => fun
  | [d1, d2, d3] => { results := [.lit (.bool true)], args := [d1, d2, d3] }
  | _ => none }
def interpSpansRow : OpenClaim := { program := "ytggdaefgaakijaa", sum := "4ef010cb6eca18e09b7b775994d54cd02937fa2906fb3654bcd584ef1f8bf5bc", func := "kinescope/kinescopelaw13.InterpSpans", spec := "interpSpans", apart := false }
def InterpSpansSaid : Prop := interpSpansRow.holds Try.pinned (OpenSpec.ofChange interpSpansSpec)

/-- ITS FALSE NEIGHBOUR: 'it returns false'. Refute it at one input. -/
def interpSpansWrong : ChangeSpec := { name := "interpSpans", fn := fun _ => fun
  | [d1, d2, d3] => { results := [.lit (.bool false)], args := [d1, d2, d3] }
  | _ => none }
def InterpSpansWrongFalsely : Prop := interpSpansRow.holds Try.pinned (OpenSpec.ofChange interpSpansWrong)

/-- 'kinescopelaw25.DamageSizes': WHATEVER THE INPUT: true; the input reads as it did. -/
def damageSizesSpec : ChangeSpec := { name := "damageSizes", fn := fun _ => fun
  | [d1, d2, d3, d4] => { results := [.lit (.bool true)], args := [d1, d2, d3, d4] }
  | _ => none }
def damageSizesRow : OpenClaim := { program := "ytggdaefgaakijaa", sum := "4ef010cb6eca18e09b7b775994d54cd02937fa2906fb3654bcd584ef1f8bf5bc", func := "kinescope/kinescopelaw25.DamageSizes", spec := "damageSizes", apart := false }
def DamageSizesSaid : Prop := damageSizesRow.holds Try.pinned (OpenSpec.ofChange damageSizesSpec)

/-- ITS FALSE NEIGHBOUR: 'it returns false'. Refute it at one input. -/
def damageSizesWrong : ChangeSpec := { name := "damageSizes", fn := fun _ => fun
  | [d1, d2, d3, d4] => { results := [.lit (.bool false)], args := [d1, d2, d3, d4] }
  | _ => none }
def DamageSizesWrongFalsely : Prop := damageSizesRow.holds Try.pinned (OpenSpec.ofChange damageSizesWrong)

/-- 'kinescopelaw25.DamageMaps': WHATEVER THE INPUT: true; the input reads as it did. -/
def damageMapsSpec : ChangeSpec := { name := "damageMaps", fn := fun _ => fun
  | [d1, d2, d3, d4, d5] => { results := [.lit (.bool true)], args := [d1, d2, d3, d4, d5] }
  | _ => none }
def damageMapsRow : OpenClaim := { program := "ytggdaefgaakijaa", sum := "4ef010cb6eca18e09b7b775994d54cd02937fa2906fb3654bcd584ef1f8bf5bc", func := "kinescope/kinescopelaw25.DamageMaps", spec := "damageMaps", apart := false }
def DamageMapsSaid : Prop := damageMapsRow.holds Try.pinned (OpenSpec.ofChange damageMapsSpec)

/-- ITS FALSE NEIGHBOUR: 'it returns false'. Refute it at one input. -/
def damageMapsWrong : ChangeSpec := { name := "damageMaps", fn := fun _ => fun
  | [d1, d2, d3, d4, d5] => { results := [.lit (.bool false)], args := [d1, d2, d3, d4, d5] }
  | _ => none }
def DamageMapsWrongFalsely : Prop := damageMapsRow.holds Try.pinned (OpenSpec.ofChange damageMapsWrong)

/-- 'kinescopelaw06.PlaneReads': WHATEVER THE INPUT: true; the input reads as it did. -/
def planeReadsSpec : ChangeSpec := { name := "planeReads", fn := fun _ => fun
  | [d1, d2, d3, d4, d5, d6, d7] => { results := [.lit (.bool true)], args := [d1, d2, d3, d4, d5, d6, d7] }
  | _ => none }
def planeReadsRow : OpenClaim := { program := "ytggdaefgaakijaa", sum := "4ef010cb6eca18e09b7b775994d54cd02937fa2906fb3654bcd584ef1f8bf5bc", func := "kinescope/kinescopelaw06.PlaneReads", spec := "planeReads", unfollowed := true, recurses := true, apart := false }
def PlaneReadsSaid : Prop := planeReadsRow.holds Try.pinned (OpenSpec.ofChange planeReadsSpec)

/-- ITS FALSE NEIGHBOUR: 'it returns false'. Refute it at one input. -/
def planeReadsWrong : ChangeSpec := { name := "planeReads", fn := fun _ => fun
  | [d1, d2, d3, d4, d5, d6, d7] => { results := [.lit (.bool false)], args := [d1, d2, d3, d4, d5, d6, d7] }
  | _ => none }
def PlaneReadsWrongFalsely : Prop := planeReadsRow.holds Try.pinned (OpenSpec.ofChange planeReadsWrong)

/-- 'kinescopelaw13.InterpFlat': WHATEVER THE INPUT: true; the input reads as it did. -/
def interpFlatSpec : ChangeSpec := { name := "interpFlat", fn := fun _ => fun
  | [d1, d2, d3, d4] => { results := [.lit (.bool true)], args := [d1, d2, d3, d4] }
  | _ => none }
def interpFlatRow : OpenClaim := { program := "ytggdaefgaakijaa", sum := "4ef010cb6eca18e09b7b775994d54cd02937fa2906fb3654bcd584ef1f8bf5bc", func := "kinescope/kinescopelaw13.InterpFlat", spec := "interpFlat", apart := false }
def InterpFlatSaid : Prop := interpFlatRow.holds Try.pinned (OpenSpec.ofChange interpFlatSpec)

/-- ITS FALSE NEIGHBOUR: 'it returns false'. Refute it at one input. -/
def interpFlatWrong : ChangeSpec := { name := "interpFlat", fn := fun _ => fun
  | [d1, d2, d3, d4] => { results := [.lit (.bool false)], args := [d1, d2, d3, d4] }
  | _ => none }
def InterpFlatWrongFalsely : Prop := interpFlatRow.holds Try.pinned (OpenSpec.ofChange interpFlatWrong)

/-- 'kinescopelaw13.InterpSamples': WHATEVER THE INPUT: true; the input reads as it did. -/
def interpSamplesSpec : ChangeSpec := { name := "interpSamples", fn := fun _ => fun
  | [d1, d2, d3, d4, d5, d6, d7] => { results := [.lit (.bool true)], args := [d1, d2, d3, d4, d5, d6, d7] }
  | _ => none }
def interpSamplesRow : OpenClaim := { program := "ytggdaefgaakijaa", sum := "4ef010cb6eca18e09b7b775994d54cd02937fa2906fb3654bcd584ef1f8bf5bc", func := "kinescope/kinescopelaw13.InterpSamples", spec := "interpSamples", unfollowed := true, recurses := true, apart := false }
def InterpSamplesSaid : Prop := interpSamplesRow.holds Try.pinned (OpenSpec.ofChange interpSamplesSpec)

/-- ITS FALSE NEIGHBOUR: 'it returns false'. Refute it at one input. -/
def interpSamplesWrong : ChangeSpec := { name := "interpSamples", fn := fun _ => fun
  | [d1, d2, d3, d4, d5, d6, d7] => { results := [.lit (.bool false)], args := [d1, d2, d3, d4, d5, d6, d7] }
  | _ => none }
def InterpSamplesWrongFalsely : Prop := interpSamplesRow.holds Try.pinned (OpenSpec.ofChange interpSamplesWrong)

/-- 'kinescopelaw13.InterpMoves': WHATEVER THE INPUT: true; the input reads as it did. -/
def interpMovesSpec : ChangeSpec := { name := "interpMoves", fn := fun _ => fun
  | [d1, d2, d3, d4, d5, d6] => { results := [.lit (.bool true)], args := [d1, d2, d3, d4, d5, d6] }
  | _ => none }
def interpMovesRow : OpenClaim := { program := "ytggdaefgaakijaa", sum := "4ef010cb6eca18e09b7b775994d54cd02937fa2906fb3654bcd584ef1f8bf5bc", func := "kinescope/kinescopelaw13.InterpMoves", spec := "interpMoves", apart := false }
def InterpMovesSaid : Prop := interpMovesRow.holds Try.pinned (OpenSpec.ofChange interpMovesSpec)

/-- ITS FALSE NEIGHBOUR: 'it returns false'. Refute it at one input. -/
def interpMovesWrong : ChangeSpec := { name := "interpMoves", fn := fun _ => fun
  | [d1, d2, d3, d4, d5, d6] => { results := [.lit (.bool false)], args := [d1, d2, d3, d4, d5, d6] }
  | _ => none }
def InterpMovesWrongFalsely : Prop := interpMovesRow.holds Try.pinned (OpenSpec.ofChange interpMovesWrong)

/-- 'kinescopelaw06.PlaneFrames': WHATEVER THE INPUT: true; the input reads as it did. -/
def planeFramesSpec : ChangeSpec := { name := "planeFrames", fn := fun _ => fun
  | [d1, d2, d3, d4, d5, d6] => { results := [.lit (.bool true)], args := [d1, d2, d3, d4, d5, d6] }
  | _ => none }
def planeFramesRow : OpenClaim := { program := "ytggdaefgaakijaa", sum := "4ef010cb6eca18e09b7b775994d54cd02937fa2906fb3654bcd584ef1f8bf5bc", func := "kinescope/kinescopelaw06.PlaneFrames", spec := "planeFrames", apart := false }
def PlaneFramesSaid : Prop := planeFramesRow.holds Try.pinned (OpenSpec.ofChange planeFramesSpec)

/-- ITS FALSE NEIGHBOUR: 'it returns false'. Refute it at one input. -/
def planeFramesWrong : ChangeSpec := { name := "planeFrames", fn := fun _ => fun
  | [d1, d2, d3, d4, d5, d6] => { results := [.lit (.bool false)], args := [d1, d2, d3, d4, d5, d6] }
  | _ => none }
def PlaneFramesWrongFalsely : Prop := planeFramesRow.holds Try.pinned (OpenSpec.ofChange planeFramesWrong)

/-- 'kinescopelaw06.PlaneNoise': WHATEVER THE INPUT: true; the input reads as it did. -/
def planeNoiseSpec : ChangeSpec := { name := "planeNoise", fn := fun _ => fun
  | [d1, d2, d3, d4, d5, d6] => { results := [.lit (.bool true)], args := [d1, d2, d3, d4, d5, d6] }
  | _ => none }
def planeNoiseRow : OpenClaim := { program := "ytggdaefgaakijaa", sum := "4ef010cb6eca18e09b7b775994d54cd02937fa2906fb3654bcd584ef1f8bf5bc", func := "kinescope/kinescopelaw06.PlaneNoise", spec := "planeNoise", apart := false }
def PlaneNoiseSaid : Prop := planeNoiseRow.holds Try.pinned (OpenSpec.ofChange planeNoiseSpec)

/-- ITS FALSE NEIGHBOUR: 'it returns false'. Refute it at one input. -/
def planeNoiseWrong : ChangeSpec := { name := "planeNoise", fn := fun _ => fun
  | [d1, d2, d3, d4, d5, d6] => { results := [.lit (.bool false)], args := [d1, d2, d3, d4, d5, d6] }
  | _ => none }
def PlaneNoiseWrongFalsely : Prop := planeNoiseRow.holds Try.pinned (OpenSpec.ofChange planeNoiseWrong)

/-- 'kinescopelaw06.PlaneBack': WHATEVER THE INPUT: true; the input reads as it did. -/
def planeBackSpec : ChangeSpec := { name := "planeBack", fn := fun _ => fun
  | [d1, d2, d3] => { results := [.lit (.bool true)], args := [d1, d2, d3] }
  | _ => none }
def planeBackRow : OpenClaim := { program := "ytggdaefgaakijaa", sum := "4ef010cb6eca18e09b7b775994d54cd02937fa2906fb3654bcd584ef1f8bf5bc", func := "kinescope/kinescopelaw06.PlaneBack", spec := "planeBack", apart := false }
def PlaneBackSaid : Prop := planeBackRow.holds Try.pinned (OpenSpec.ofChange planeBackSpec)

/-- ITS FALSE NEIGHBOUR: 'it returns false'. Refute it at one input. -/
def planeBackWrong : ChangeSpec := { name := "planeBack", fn := fun _ => fun
  | [d1, d2, d3] => { results := [.lit (.bool false)], args := [d1, d2, d3] }
  | _ => none }
def PlaneBackWrongFalsely : Prop := planeBackRow.holds Try.pinned (OpenSpec.ofChange planeBackWrong)

/-- 'kinescopelaw06.PlaneFar': WHATEVER THE INPUT: true; the input reads as it did. -/
def planeFarSpec : ChangeSpec := { name := "planeFar", fn := fun _ => fun
  | [d1, d2, d3, d4, d5] => { results := [.lit (.bool true)], args := [d1, d2, d3, d4, d5] }
  | _ => none }
def planeFarRow : OpenClaim := { program := "ytggdaefgaakijaa", sum := "4ef010cb6eca18e09b7b775994d54cd02937fa2906fb3654bcd584ef1f8bf5bc", func := "kinescope/kinescopelaw06.PlaneFar", spec := "planeFar", apart := false }
def PlaneFarSaid : Prop := planeFarRow.holds Try.pinned (OpenSpec.ofChange planeFarSpec)

/-- ITS FALSE NEIGHBOUR: 'it returns false'. Refute it at one input. -/
def planeFarWrong : ChangeSpec := { name := "planeFar", fn := fun _ => fun
  | [d1, d2, d3, d4, d5] => { results := [.lit (.bool false)], args := [d1, d2, d3, d4, d5] }
  | _ => none }
def PlaneFarWrongFalsely : Prop := planeFarRow.holds Try.pinned (OpenSpec.ofChange planeFarWrong)

/-- 'kinescopelaw06.PlaneDraws': WHATEVER THE INPUT: true; the input reads as it did. -/
def planeDrawsSpec : ChangeSpec := { name := "planeDraws", fn := fun _ => fun
  | [d1, d2, d3, d4, d5, d6, d7, d8, d9, d10, d11, d12] => { results := [.lit (.bool true)], args := [d1, d2, d3, d4, d5, d6, d7, d8, d9, d10, d11, d12] }
  | _ => none }
def planeDrawsRow : OpenClaim := { program := "ytggdaefgaakijaa", sum := "4ef010cb6eca18e09b7b775994d54cd02937fa2906fb3654bcd584ef1f8bf5bc", func := "kinescope/kinescopelaw06.PlaneDraws", spec := "planeDraws", apart := false }
def PlaneDrawsSaid : Prop := planeDrawsRow.holds Try.pinned (OpenSpec.ofChange planeDrawsSpec)

/-- ITS FALSE NEIGHBOUR: 'it returns false'. Refute it at one input. -/
def planeDrawsWrong : ChangeSpec := { name := "planeDraws", fn := fun _ => fun
  | [d1, d2, d3, d4, d5, d6, d7, d8, d9, d10, d11, d12] => { results := [.lit (.bool false)], args := [d1, d2, d3, d4, d5, d6, d7, d8, d9, d10, d11, d12] }
  | _ => none }
def PlaneDrawsWrongFalsely : Prop := planeDrawsRow.holds Try.pinned (OpenSpec.ofChange planeDrawsWrong)

/- THE SECOND FORM. 'bulk': how many values and letters a reading holds, each counted each time it is reached (what is shared counts as often as it is met; a slice's spare places count too). A statement '..UptoSaid' is the law's where the arguments, and the package variables that the reading takes, are together of bulk at most 1048576: NARROWER than '..Said'. Prove '..Said' where nothing that the law and all that it calls make is longer than what came in: it says more and counts as full. Else prove '..UptoSaid'. A law counts once. -/
mutual
def uptoBulk {H : Type} : DataW H → Nat
  | .lit (.string bytes) => bytes.length + 1
  | .lit _ => 1
  | .nil => 1
  | .ptr d => uptoBulk d + 1
  | .slice elems spare => uptoBulkAll elems + uptoBulkAll spare + 1
  | .agg parts => uptoBulkAll parts + 1
  | .iface _ d => uptoBulk d + 1
  | .map entries => uptoBulkEntries entries + 1
  | .held _ => 1
def uptoBulkAll {H : Type} : List (DataW H) → Nat
  | [] => 0
  | d :: r => uptoBulk d + uptoBulkAll r
def uptoBulkEntries {H : Type} : List (Lit × DataW H) → Nat
  | [] => 0
  | x :: r => uptoBulkEntry x + uptoBulkEntries r
def uptoBulkEntry {H : Type} : Lit × DataW H → Nat
  | (.string bytes, d) => bytes.length + uptoBulk d + 1
  | (_, d) => uptoBulk d + 1
 end
def uptoSmall : (H : Type) → List (DataW H) → Bool := fun _ ds => decide (uptoBulkAll ds ≤ 1048576)
def OpenSpec.upto (s : _root_.Go.ChangeSpec) : _root_.Go.OpenSpec := { _root_.Go.OpenSpec.ofChange s with cond := some uptoSmall }

/-- 'kinescopelaw13.InterpSpans', WHERE WHAT IT READS IS OF BULK AT MOST 1048576: true; the input reads as it did. -/
def interpSpansUptoRow : OpenClaim := { program := "ytggdaefgaakijaa", sum := "4ef010cb6eca18e09b7b775994d54cd02937fa2906fb3654bcd584ef1f8bf5bc", func := "kinescope/kinescopelaw13.InterpSpans", spec := "interpSpans", apart := false, narrowed := true }
def InterpSpansUptoSaid : Prop := interpSpansUptoRow.holds Try.pinned (OpenSpec.upto interpSpansSpec)

/-- 'kinescopelaw25.DamageSizes', WHERE WHAT IT READS IS OF BULK AT MOST 1048576: true; the input reads as it did. -/
def damageSizesUptoRow : OpenClaim := { program := "ytggdaefgaakijaa", sum := "4ef010cb6eca18e09b7b775994d54cd02937fa2906fb3654bcd584ef1f8bf5bc", func := "kinescope/kinescopelaw25.DamageSizes", spec := "damageSizes", apart := false, narrowed := true }
def DamageSizesUptoSaid : Prop := damageSizesUptoRow.holds Try.pinned (OpenSpec.upto damageSizesSpec)

/-- 'kinescopelaw25.DamageMaps', WHERE WHAT IT READS IS OF BULK AT MOST 1048576: true; the input reads as it did. -/
def damageMapsUptoRow : OpenClaim := { program := "ytggdaefgaakijaa", sum := "4ef010cb6eca18e09b7b775994d54cd02937fa2906fb3654bcd584ef1f8bf5bc", func := "kinescope/kinescopelaw25.DamageMaps", spec := "damageMaps", apart := false, narrowed := true }
def DamageMapsUptoSaid : Prop := damageMapsUptoRow.holds Try.pinned (OpenSpec.upto damageMapsSpec)

/-- 'kinescopelaw06.PlaneReads', WHERE WHAT IT READS IS OF BULK AT MOST 1048576: true; the input reads as it did. -/
def planeReadsUptoRow : OpenClaim := { program := "ytggdaefgaakijaa", sum := "4ef010cb6eca18e09b7b775994d54cd02937fa2906fb3654bcd584ef1f8bf5bc", func := "kinescope/kinescopelaw06.PlaneReads", spec := "planeReads", unfollowed := true, recurses := true, apart := false, narrowed := true }
def PlaneReadsUptoSaid : Prop := planeReadsUptoRow.holds Try.pinned (OpenSpec.upto planeReadsSpec)

/-- 'kinescopelaw13.InterpFlat', WHERE WHAT IT READS IS OF BULK AT MOST 1048576: true; the input reads as it did. -/
def interpFlatUptoRow : OpenClaim := { program := "ytggdaefgaakijaa", sum := "4ef010cb6eca18e09b7b775994d54cd02937fa2906fb3654bcd584ef1f8bf5bc", func := "kinescope/kinescopelaw13.InterpFlat", spec := "interpFlat", apart := false, narrowed := true }
def InterpFlatUptoSaid : Prop := interpFlatUptoRow.holds Try.pinned (OpenSpec.upto interpFlatSpec)

/-- 'kinescopelaw13.InterpSamples', WHERE WHAT IT READS IS OF BULK AT MOST 1048576: true; the input reads as it did. -/
def interpSamplesUptoRow : OpenClaim := { program := "ytggdaefgaakijaa", sum := "4ef010cb6eca18e09b7b775994d54cd02937fa2906fb3654bcd584ef1f8bf5bc", func := "kinescope/kinescopelaw13.InterpSamples", spec := "interpSamples", unfollowed := true, recurses := true, apart := false, narrowed := true }
def InterpSamplesUptoSaid : Prop := interpSamplesUptoRow.holds Try.pinned (OpenSpec.upto interpSamplesSpec)

/-- 'kinescopelaw13.InterpMoves', WHERE WHAT IT READS IS OF BULK AT MOST 1048576: true; the input reads as it did. -/
def interpMovesUptoRow : OpenClaim := { program := "ytggdaefgaakijaa", sum := "4ef010cb6eca18e09b7b775994d54cd02937fa2906fb3654bcd584ef1f8bf5bc", func := "kinescope/kinescopelaw13.InterpMoves", spec := "interpMoves", apart := false, narrowed := true }
def InterpMovesUptoSaid : Prop := interpMovesUptoRow.holds Try.pinned (OpenSpec.upto interpMovesSpec)

/-- 'kinescopelaw06.PlaneFrames', WHERE WHAT IT READS IS OF BULK AT MOST 1048576: true; the input reads as it did. -/
def planeFramesUptoRow : OpenClaim := { program := "ytggdaefgaakijaa", sum := "4ef010cb6eca18e09b7b775994d54cd02937fa2906fb3654bcd584ef1f8bf5bc", func := "kinescope/kinescopelaw06.PlaneFrames", spec := "planeFrames", apart := false, narrowed := true }
def PlaneFramesUptoSaid : Prop := planeFramesUptoRow.holds Try.pinned (OpenSpec.upto planeFramesSpec)

/-- 'kinescopelaw06.PlaneNoise', WHERE WHAT IT READS IS OF BULK AT MOST 1048576: true; the input reads as it did. -/
def planeNoiseUptoRow : OpenClaim := { program := "ytggdaefgaakijaa", sum := "4ef010cb6eca18e09b7b775994d54cd02937fa2906fb3654bcd584ef1f8bf5bc", func := "kinescope/kinescopelaw06.PlaneNoise", spec := "planeNoise", apart := false, narrowed := true }
def PlaneNoiseUptoSaid : Prop := planeNoiseUptoRow.holds Try.pinned (OpenSpec.upto planeNoiseSpec)

/-- 'kinescopelaw06.PlaneBack', WHERE WHAT IT READS IS OF BULK AT MOST 1048576: true; the input reads as it did. -/
def planeBackUptoRow : OpenClaim := { program := "ytggdaefgaakijaa", sum := "4ef010cb6eca18e09b7b775994d54cd02937fa2906fb3654bcd584ef1f8bf5bc", func := "kinescope/kinescopelaw06.PlaneBack", spec := "planeBack", apart := false, narrowed := true }
def PlaneBackUptoSaid : Prop := planeBackUptoRow.holds Try.pinned (OpenSpec.upto planeBackSpec)

/-- 'kinescopelaw06.PlaneFar', WHERE WHAT IT READS IS OF BULK AT MOST 1048576: true; the input reads as it did. -/
def planeFarUptoRow : OpenClaim := { program := "ytggdaefgaakijaa", sum := "4ef010cb6eca18e09b7b775994d54cd02937fa2906fb3654bcd584ef1f8bf5bc", func := "kinescope/kinescopelaw06.PlaneFar", spec := "planeFar", apart := false, narrowed := true }
def PlaneFarUptoSaid : Prop := planeFarUptoRow.holds Try.pinned (OpenSpec.upto planeFarSpec)

/-- 'kinescopelaw06.PlaneDraws', WHERE WHAT IT READS IS OF BULK AT MOST 1048576: true; the input reads as it did. -/
def planeDrawsUptoRow : OpenClaim := { program := "ytggdaefgaakijaa", sum := "4ef010cb6eca18e09b7b775994d54cd02937fa2906fb3654bcd584ef1f8bf5bc", func := "kinescope/kinescopelaw06.PlaneDraws", spec := "planeDraws", apart := false, narrowed := true }
def PlaneDrawsUptoSaid : Prop := planeDrawsUptoRow.holds Try.pinned (OpenSpec.upto planeDrawsSpec)

end Rows
end Go.Proofs.Ytggdaefgaakijaa
