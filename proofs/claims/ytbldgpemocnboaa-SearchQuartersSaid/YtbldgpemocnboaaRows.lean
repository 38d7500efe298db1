/-
  No cell of these rows narrows 'for every input' (looked for: loops, veiled, ifaces, maps, wideKeys, modest, calm, conditions, laid).
  DERIVED. THE GIVEN ROWS OF THIS SEAT. 17 by the template 'for every input the law returns true; each argument reads behind the call as it read before'; 0 by the template 'total and deterministic' (their statements: YtbldgpemocnboaaTotals.lean).
  GIVEN WITH THE SEED: the statements are not yours to turn. If you find one false, say at which input.
  Laid BY PROGRAM, IN A SANDBOX (cutbox-rows.mjs): the forced cells as the released guide's own fill.sh prints them over the translation b43418bb03e43889… (all of the seat's roots in one cut). By AI agents, Wed Nov 11 2026. No macro, syntax, notation, axiom, sorry.
-/
import Derived.Test.YtbldgpemocnboaaChecked
import GoSem.Claim
import GoSem.ClaimJoined
import GoSem.ClaimMapViews
import Derived.JoinedTies
import Derived.KernelRfl
namespace Go.Proofs.Ytbldgpemocnboaa
/- THE CELL 'sum', in the pinned program and in every row, IS THE sha256 OF THE DUMP (.gsa) THAT YtbldgpemocnboaaProg.lean LOADS. Nothing in Lean hashes anything: it is a label: what it is worth is what the hold of that sum in a sandbox is worth. -/
noncomputable def Try.pinned : Pinned := { name := "ytbldgpemocnboaa", sum := "b43418bb03e438899996f4b220a4aadb50ec609f72f257712adec0586453c3a5", checked := Try.checked }
namespace Rows
def none {H : Type} : Left H := { results := [], args := [] }

/-- 'kinescopelaw08.QuantBound': WHATEVER THE INPUT: true; the input reads as it did. -/
def quantBoundSpec : ChangeSpec := { name := "quantBound", fn := fun _ => fun
  | [d1, d2, d3, d4, d5] => { results := [.lit (.bool true)], args := [d1, d2, d3, d4, d5] }
  | _ => none }
def quantBoundRow : OpenClaim := { program := "ytbldgpemocnboaa", sum := "b43418bb03e438899996f4b220a4aadb50ec609f72f257712adec0586453c3a5", func := "kinescope/kinescopelaw08.QuantBound", spec := "quantBound", apart := false }
def QuantBoundSaid : Prop := quantBoundRow.holds Try.pinned (OpenSpec.ofChange quantBoundSpec)

/-- ITS FALSE NEIGHBOUR: 'it returns false'. Refute it at one input. -/
def quantBoundWrong : ChangeSpec := { name := "quantBound", fn := fun _ => fun
  | [d1, d2, d3, d4, d5] => { results := [.lit (.bool false)], args := [d1, d2, d3, d4, d5] }
  | _ => none }
def QuantBoundWrongFalsely : Prop := quantBoundRow.holds Try.pinned (OpenSpec.ofChange quantBoundWrong)

/-- 'kinescopelaw06.PlaneDraws': WHATEVER THE INPUT: true; the input reads as it did. -/
def planeDrawsSpec : ChangeSpec := { name := "planeDraws", fn := fun _ => fun
  | [d1, d2, d3, d4, d5, d6, d7, d8, d9, d10, d11, d12] => { results := [.lit (.bool true)], args := [d1, d2, d3, d4, d5, d6, d7, d8, d9, d10, d11, d12] }
  | _ => none }
def planeDrawsRow : OpenClaim := { program := "ytbldgpemocnboaa", sum := "b43418bb03e438899996f4b220a4aadb50ec609f72f257712adec0586453c3a5", func := "kinescope/kinescopelaw06.PlaneDraws", spec := "planeDraws", apart := false }
def PlaneDrawsSaid : Prop := planeDrawsRow.holds Try.pinned (OpenSpec.ofChange planeDrawsSpec)

/-- ITS FALSE NEIGHBOUR: 'it returns false'. Refute it at one input. -/
def planeDrawsWrong : ChangeSpec := { name := "planeDraws", fn := fun _ => fun
  | [d1, d2, d3, d4, d5, d6, d7, d8, d9, d10, d11, d12] => { results := [.lit (.bool false)], args := [d1, d2, d3, d4, d5, d6, d7, d8, d9, d10, d11, d12] }
  | _ => none }
def PlaneDrawsWrongFalsely : Prop := planeDrawsRow.holds Try.pinned (OpenSpec.ofChange planeDrawsWrong)

/-- 'kinescopelaw26.ConcealVectors': WHATEVER THE INPUT: true; the input reads as it did. -/
def concealVectorsSpec : ChangeSpec := { name := "concealVectors", fn := fun _ => fun
  | [d1, d2, d3, d4, d5, d6] => { results := [.lit (.bool true)], args := [d1, d2, d3, d4, d5, d6] }
  | _ => none }
def concealVectorsRow : OpenClaim := { program := "ytbldgpemocnboaa", sum := "b43418bb03e438899996f4b220a4aadb50ec609f72f257712adec0586453c3a5", func := "kinescope/kinescopelaw26.ConcealVectors", spec := "concealVectors", apart := false }
def ConcealVectorsSaid : Prop := concealVectorsRow.holds Try.pinned (OpenSpec.ofChange concealVectorsSpec)

/-- ITS FALSE NEIGHBOUR: 'it returns false'. Refute it at one input. -/
def concealVectorsWrong : ChangeSpec := { name := "concealVectors", fn := fun _ => fun
  | [d1, d2, d3, d4, d5, d6] => { results := [.lit (.bool false)], args := [d1, d2, d3, d4, d5, d6] }
  | _ => none }
def ConcealVectorsWrongFalsely : Prop := concealVectorsRow.holds Try.pinned (OpenSpec.ofChange concealVectorsWrong)

/-- 'kinescopelaw26.ConcealAgain': WHATEVER THE INPUT: true; the input reads as it did. -/
def concealAgainSpec : ChangeSpec := { name := "concealAgain", fn := fun _ => fun
  | [d1, d2, d3, d4] => { results := [.lit (.bool true)], args := [d1, d2, d3, d4] }
  | _ => none }
def concealAgainRow : OpenClaim := { program := "ytbldgpemocnboaa", sum := "b43418bb03e438899996f4b220a4aadb50ec609f72f257712adec0586453c3a5", func := "kinescope/kinescopelaw26.ConcealAgain", spec := "concealAgain", apart := false }
def ConcealAgainSaid : Prop := concealAgainRow.holds Try.pinned (OpenSpec.ofChange concealAgainSpec)

/-- ITS FALSE NEIGHBOUR: 'it returns false'. Refute it at one input. -/
def concealAgainWrong : ChangeSpec := { name := "concealAgain", fn := fun _ => fun
  | [d1, d2, d3, d4] => { results := [.lit (.bool false)], args := [d1, d2, d3, d4] }
  | _ => none }
def ConcealAgainWrongFalsely : Prop := concealAgainRow.holds Try.pinned (OpenSpec.ofChange concealAgainWrong)

/-- 'kinescopelaw26.ConcealSpreads': WHATEVER THE INPUT: true; the input reads as it did. -/
def concealSpreadsSpec : ChangeSpec := { name := "concealSpreads", fn := fun _ => fun
  | [d1, d2, d3] => { results := [.lit (.bool true)], args := [d1, d2, d3] }
  | _ => none }
def concealSpreadsRow : OpenClaim := { program := "ytbldgpemocnboaa", sum := "b43418bb03e438899996f4b220a4aadb50ec609f72f257712adec0586453c3a5", func := "kinescope/kinescopelaw26.ConcealSpreads", spec := "concealSpreads", apart := false }
def ConcealSpreadsSaid : Prop := concealSpreadsRow.holds Try.pinned (OpenSpec.ofChange concealSpreadsSpec)

/-- ITS FALSE NEIGHBOUR: 'it returns false'. Refute it at one input. -/
def concealSpreadsWrong : ChangeSpec := { name := "concealSpreads", fn := fun _ => fun
  | [d1, d2, d3] => { results := [.lit (.bool false)], args := [d1, d2, d3] }
  | _ => none }
def ConcealSpreadsWrongFalsely : Prop := concealSpreadsRow.holds Try.pinned (OpenSpec.ofChange concealSpreadsWrong)

/-- 'kinescopelaw28.SearchWhole': WHATEVER THE INPUT: true; the input reads as it did. -/
def searchWholeSpec : ChangeSpec := { name := "searchWhole", fn := fun _ => fun
  | [d1, d2, d3, d4, d5, d6] => { results := [.lit (.bool true)], args := [d1, d2, d3, d4, d5, d6] }
  | _ => none }
def searchWholeRow : OpenClaim := { program := "ytbldgpemocnboaa", sum := "b43418bb03e438899996f4b220a4aadb50ec609f72f257712adec0586453c3a5", func := "kinescope/kinescopelaw28.SearchWhole", spec := "searchWhole", unfollowed := true, recurses := true, apart := false }
def SearchWholeSaid : Prop := searchWholeRow.holds Try.pinned (OpenSpec.ofChange searchWholeSpec)

/-- ITS FALSE NEIGHBOUR: 'it returns false'. Refute it at one input. -/
def searchWholeWrong : ChangeSpec := { name := "searchWhole", fn := fun _ => fun
  | [d1, d2, d3, d4, d5, d6] => { results := [.lit (.bool false)], args := [d1, d2, d3, d4, d5, d6] }
  | _ => none }
def SearchWholeWrongFalsely : Prop := searchWholeRow.holds Try.pinned (OpenSpec.ofChange searchWholeWrong)

/-- 'kinescopelaw28.SearchAway': WHATEVER THE INPUT: true; the input reads as it did. -/
def searchAwaySpec : ChangeSpec := { name := "searchAway", fn := fun _ => fun
  | [d1, d2, d3, d4, d5, d6, d7] => { results := [.lit (.bool true)], args := [d1, d2, d3, d4, d5, d6, d7] }
  | _ => none }
def searchAwayRow : OpenClaim := { program := "ytbldgpemocnboaa", sum := "b43418bb03e438899996f4b220a4aadb50ec609f72f257712adec0586453c3a5", func := "kinescope/kinescopelaw28.SearchAway", spec := "searchAway", unfollowed := true, recurses := true, apart := false }
def SearchAwaySaid : Prop := searchAwayRow.holds Try.pinned (OpenSpec.ofChange searchAwaySpec)

/-- ITS FALSE NEIGHBOUR: 'it returns false'. Refute it at one input. -/
def searchAwayWrong : ChangeSpec := { name := "searchAway", fn := fun _ => fun
  | [d1, d2, d3, d4, d5, d6, d7] => { results := [.lit (.bool false)], args := [d1, d2, d3, d4, d5, d6, d7] }
  | _ => none }
def SearchAwayWrongFalsely : Prop := searchAwayRow.holds Try.pinned (OpenSpec.ofChange searchAwayWrong)

/-- 'kinescopelaw28.SearchQuarters': WHATEVER THE INPUT: true; the input reads as it did. -/
def searchQuartersSpec : ChangeSpec := { name := "searchQuarters", fn := fun _ => fun
  | [d1, d2, d3, d4, d5, d6, d7] => { results := [.lit (.bool true)], args := [d1, d2, d3, d4, d5, d6, d7] }
  | _ => none }
def searchQuartersRow : OpenClaim := { program := "ytbldgpemocnboaa", sum := "b43418bb03e438899996f4b220a4aadb50ec609f72f257712adec0586453c3a5", func := "kinescope/kinescopelaw28.SearchQuarters", spec := "searchQuarters", unfollowed := true, recurses := true, apart := false }
def SearchQuartersSaid : Prop := searchQuartersRow.holds Try.pinned (OpenSpec.ofChange searchQuartersSpec)

/-- ITS FALSE NEIGHBOUR: 'it returns false'. Refute it at one input. -/
def searchQuartersWrong : ChangeSpec := { name := "searchQuarters", fn := fun _ => fun
  | [d1, d2, d3, d4, d5, d6, d7] => { results := [.lit (.bool false)], args := [d1, d2, d3, d4, d5, d6, d7] }
  | _ => none }
def SearchQuartersWrongFalsely : Prop := searchQuartersRow.holds Try.pinned (OpenSpec.ofChange searchQuartersWrong)

/-- 'kinescopelaw28.SearchFinds': WHATEVER THE INPUT: true; the input reads as it did. -/
def searchFindsSpec : ChangeSpec := { name := "searchFinds", fn := fun _ => fun
  | [d1, d2, d3, d4] => { results := [.lit (.bool true)], args := [d1, d2, d3, d4] }
  | _ => none }
def searchFindsRow : OpenClaim := { program := "ytbldgpemocnboaa", sum := "b43418bb03e438899996f4b220a4aadb50ec609f72f257712adec0586453c3a5", func := "kinescope/kinescopelaw28.SearchFinds", spec := "searchFinds", unfollowed := true, recurses := true, apart := false }
def SearchFindsSaid : Prop := searchFindsRow.holds Try.pinned (OpenSpec.ofChange searchFindsSpec)

/-- ITS FALSE NEIGHBOUR: 'it returns false'. Refute it at one input. -/
def searchFindsWrong : ChangeSpec := { name := "searchFinds", fn := fun _ => fun
  | [d1, d2, d3, d4] => { results := [.lit (.bool false)], args := [d1, d2, d3, d4] }
  | _ => none }
def SearchFindsWrongFalsely : Prop := searchFindsRow.holds Try.pinned (OpenSpec.ofChange searchFindsWrong)

/-- 'kinescopelaw26.ConcealFlat': WHATEVER THE INPUT: true; the input reads as it did. -/
def concealFlatSpec : ChangeSpec := { name := "concealFlat", fn := fun _ => fun
  | [d1, d2, d3, d4, d5, d6, d7] => { results := [.lit (.bool true)], args := [d1, d2, d3, d4, d5, d6, d7] }
  | _ => none }
def concealFlatRow : OpenClaim := { program := "ytbldgpemocnboaa", sum := "b43418bb03e438899996f4b220a4aadb50ec609f72f257712adec0586453c3a5", func := "kinescope/kinescopelaw26.ConcealFlat", spec := "concealFlat", apart := false }
def ConcealFlatSaid : Prop := concealFlatRow.holds Try.pinned (OpenSpec.ofChange concealFlatSpec)

/-- ITS FALSE NEIGHBOUR: 'it returns false'. Refute it at one input. -/
def concealFlatWrong : ChangeSpec := { name := "concealFlat", fn := fun _ => fun
  | [d1, d2, d3, d4, d5, d6, d7] => { results := [.lit (.bool false)], args := [d1, d2, d3, d4, d5, d6, d7] }
  | _ => none }
def ConcealFlatWrongFalsely : Prop := concealFlatRow.holds Try.pinned (OpenSpec.ofChange concealFlatWrong)

/-- 'kinescopelaw26.ConcealCopies': WHATEVER THE INPUT: true; the input reads as it did. -/
def concealCopiesSpec : ChangeSpec := { name := "concealCopies", fn := fun _ => fun
  | [d1, d2, d3, d4, d5, d6] => { results := [.lit (.bool true)], args := [d1, d2, d3, d4, d5, d6] }
  | _ => none }
def concealCopiesRow : OpenClaim := { program := "ytbldgpemocnboaa", sum := "b43418bb03e438899996f4b220a4aadb50ec609f72f257712adec0586453c3a5", func := "kinescope/kinescopelaw26.ConcealCopies", spec := "concealCopies", apart := false }
def ConcealCopiesSaid : Prop := concealCopiesRow.holds Try.pinned (OpenSpec.ofChange concealCopiesSpec)

/-- ITS FALSE NEIGHBOUR: 'it returns false'. Refute it at one input. -/
def concealCopiesWrong : ChangeSpec := { name := "concealCopies", fn := fun _ => fun
  | [d1, d2, d3, d4, d5, d6] => { results := [.lit (.bool false)], args := [d1, d2, d3, d4, d5, d6] }
  | _ => none }
def ConcealCopiesWrongFalsely : Prop := concealCopiesRow.holds Try.pinned (OpenSpec.ofChange concealCopiesWrong)

/-- 'kinescopelaw14.CompTouches': WHATEVER THE INPUT: true; the input reads as it did. -/
def compTouchesSpec : ChangeSpec := { name := "compTouches", fn := fun _ => fun
  | [d1, d2, d3, d4] => { results := [.lit (.bool true)], args := [d1, d2, d3, d4] }
  | _ => none }
def compTouchesRow : OpenClaim := { program := "ytbldgpemocnboaa", sum := "b43418bb03e438899996f4b220a4aadb50ec609f72f257712adec0586453c3a5", func := "kinescope/kinescopelaw14.CompTouches", spec := "compTouches", recurses := true, apart := false }
def CompTouchesSaid : Prop := compTouchesRow.holds Try.pinned (OpenSpec.ofChange compTouchesSpec)

/-- ITS FALSE NEIGHBOUR: 'it returns false'. Refute it at one input. -/
def compTouchesWrong : ChangeSpec := { name := "compTouches", fn := fun _ => fun
  | [d1, d2, d3, d4] => { results := [.lit (.bool false)], args := [d1, d2, d3, d4] }
  | _ => none }
def CompTouchesWrongFalsely : Prop := compTouchesRow.holds Try.pinned (OpenSpec.ofChange compTouchesWrong)

/-- 'kinescopelaw25.DamageFrom': WHATEVER THE INPUT: true; the input reads as it did. -/
def damageFromSpec : ChangeSpec := { name := "damageFrom", fn := fun _ => fun
  | [d1, d2, d3, d4, d5] => { results := [.lit (.bool true)], args := [d1, d2, d3, d4, d5] }
  | _ => none }
def damageFromRow : OpenClaim := { program := "ytbldgpemocnboaa", sum := "b43418bb03e438899996f4b220a4aadb50ec609f72f257712adec0586453c3a5", func := "kinescope/kinescopelaw25.DamageFrom", spec := "damageFrom", recurses := true, apart := false }
def DamageFromSaid : Prop := damageFromRow.holds Try.pinned (OpenSpec.ofChange damageFromSpec)

/-- ITS FALSE NEIGHBOUR: 'it returns false'. Refute it at one input. -/
def damageFromWrong : ChangeSpec := { name := "damageFrom", fn := fun _ => fun
  | [d1, d2, d3, d4, d5] => { results := [.lit (.bool false)], args := [d1, d2, d3, d4, d5] }
  | _ => none }
def DamageFromWrongFalsely : Prop := damageFromRow.holds Try.pinned (OpenSpec.ofChange damageFromWrong)

/-- 'kinescopelaw25.DamageGrows': WHATEVER THE INPUT: true; the input reads as it did. -/
def damageGrowsSpec : ChangeSpec := { name := "damageGrows", fn := fun _ => fun
  | [d1, d2, d3, d4, d5, d6] => { results := [.lit (.bool true)], args := [d1, d2, d3, d4, d5, d6] }
  | _ => none }
def damageGrowsRow : OpenClaim := { program := "ytbldgpemocnboaa", sum := "b43418bb03e438899996f4b220a4aadb50ec609f72f257712adec0586453c3a5", func := "kinescope/kinescopelaw25.DamageGrows", spec := "damageGrows", recurses := true, apart := false }
def DamageGrowsSaid : Prop := damageGrowsRow.holds Try.pinned (OpenSpec.ofChange damageGrowsSpec)

/-- ITS FALSE NEIGHBOUR: 'it returns false'. Refute it at one input. -/
def damageGrowsWrong : ChangeSpec := { name := "damageGrows", fn := fun _ => fun
  | [d1, d2, d3, d4, d5, d6] => { results := [.lit (.bool false)], args := [d1, d2, d3, d4, d5, d6] }
  | _ => none }
def DamageGrowsWrongFalsely : Prop := damageGrowsRow.holds Try.pinned (OpenSpec.ofChange damageGrowsWrong)

/-- 'kinescopelaw14.CompPredicts': WHATEVER THE INPUT: true; the input reads as it did. -/
def compPredictsSpec : ChangeSpec := { name := "compPredicts", fn := fun _ => fun
  | [d1, d2, d3, d4] => { results := [.lit (.bool true)], args := [d1, d2, d3, d4] }
  | _ => none }
def compPredictsRow : OpenClaim := { program := "ytbldgpemocnboaa", sum := "b43418bb03e438899996f4b220a4aadb50ec609f72f257712adec0586453c3a5", func := "kinescope/kinescopelaw14.CompPredicts", spec := "compPredicts", recurses := true, apart := false }
def CompPredictsSaid : Prop := compPredictsRow.holds Try.pinned (OpenSpec.ofChange compPredictsSpec)

/-- ITS FALSE NEIGHBOUR: 'it returns false'. Refute it at one input. -/
def compPredictsWrong : ChangeSpec := { name := "compPredicts", fn := fun _ => fun
  | [d1, d2, d3, d4] => { results := [.lit (.bool false)], args := [d1, d2, d3, d4] }
  | _ => none }
def CompPredictsWrongFalsely : Prop := compPredictsRow.holds Try.pinned (OpenSpec.ofChange compPredictsWrong)

/-- 'kinescopelaw14.CompLocal': WHATEVER THE INPUT: true; the input reads as it did. -/
def compLocalSpec : ChangeSpec := { name := "compLocal", fn := fun _ => fun
  | [d1, d2, d3, d4, d5] => { results := [.lit (.bool true)], args := [d1, d2, d3, d4, d5] }
  | _ => none }
def compLocalRow : OpenClaim := { program := "ytbldgpemocnboaa", sum := "b43418bb03e438899996f4b220a4aadb50ec609f72f257712adec0586453c3a5", func := "kinescope/kinescopelaw14.CompLocal", spec := "compLocal", recurses := true, apart := false }
def CompLocalSaid : Prop := compLocalRow.holds Try.pinned (OpenSpec.ofChange compLocalSpec)

/-- ITS FALSE NEIGHBOUR: 'it returns false'. Refute it at one input. -/
def compLocalWrong : ChangeSpec := { name := "compLocal", fn := fun _ => fun
  | [d1, d2, d3, d4, d5] => { results := [.lit (.bool false)], args := [d1, d2, d3, d4, d5] }
  | _ => none }
def CompLocalWrongFalsely : Prop := compLocalRow.holds Try.pinned (OpenSpec.ofChange compLocalWrong)

/-- 'kinescopelaw14.CompWhole': WHATEVER THE INPUT: true; the input reads as it did. -/
def compWholeSpec : ChangeSpec := { name := "compWhole", fn := fun _ => fun
  | [d1, d2, d3, d4, d5] => { results := [.lit (.bool true)], args := [d1, d2, d3, d4, d5] }
  | _ => none }
def compWholeRow : OpenClaim := { program := "ytbldgpemocnboaa", sum := "b43418bb03e438899996f4b220a4aadb50ec609f72f257712adec0586453c3a5", func := "kinescope/kinescopelaw14.CompWhole", spec := "compWhole", recurses := true, apart := false }
def CompWholeSaid : Prop := compWholeRow.holds Try.pinned (OpenSpec.ofChange compWholeSpec)

/-- ITS FALSE NEIGHBOUR: 'it returns false'. Refute it at one input. -/
def compWholeWrong : ChangeSpec := { name := "compWhole", fn := fun _ => fun
  | [d1, d2, d3, d4, d5] => { results := [.lit (.bool false)], args := [d1, d2, d3, d4, d5] }
  | _ => none }
def CompWholeWrongFalsely : Prop := compWholeRow.holds Try.pinned (OpenSpec.ofChange compWholeWrong)

/- THE SECOND FORM. 'bulk': how many values and letters a reading holds, each counted each time it is reached (what is shared counts as often as it is met; a slice's spare places count too). A statement '..UptoSaid' is the law's where the arguments, and the package variables that the reading takes, are together of bulk at most 1048576: NARROWER than '..Said'. Prove '..Said' where nothing that the law and all that it calls make is longer than what came in: it says more and counts as full. Else prove '..UptoSaid'. A law counts once. -/
mutual
def uptoBulk {H : Type} : DataW H → Nat
  | .lit (.string bytes) => bytes.length + 1
  | .lit _ => 1
  | .nil => 1
  | .ptr d => uptoBulk d + 1
  | .slice elems spare => uptoBulkAll elems + uptoBulkAll spare + 1
  | .agg parts => uptoBulkAll parts + 1
  | .iface _ d => uptoBulk d + 1
  | .map entries => uptoBulkEntries entries + 1
  | .held _ => 1
def uptoBulkAll {H : Type} : List (DataW H) → Nat
  | [] => 0
  | d :: r => uptoBulk d + uptoBulkAll r
def uptoBulkEntries {H : Type} : List (Lit × DataW H) → Nat
  | [] => 0
  | x :: r => uptoBulkEntry x + uptoBulkEntries r
def uptoBulkEntry {H : Type} : Lit × DataW H → Nat
  | (.string bytes, d) => bytes.length + uptoBulk d + 1
  | (_, d) => uptoBulk d + 1
 end
def uptoSmall : (H : Type) → List (DataW H) → Bool := fun _ ds => decide (uptoBulkAll ds ≤ 1048576)
def OpenSpec.upto (s : _root_.Go.ChangeSpec) : _root_.Go.OpenSpec := { _root_.Go.OpenSpec.ofChange s with cond := some uptoSmall }

/-- 'kinescopelaw08.QuantBound', WHERE WHAT IT READS IS OF BULK AT MOST 1048576: true; the input reads as it did. -/
def quantBoundUptoRow : OpenClaim := { program := "ytbldgpemocnboaa", sum := "b43418bb03e438899996f4b220a4aadb50ec609f72f257712adec0586453c3a5", func := "kinescope/kinescopelaw08.QuantBound", spec := "quantBound", apart := false, narrowed := true }
def QuantBoundUptoSaid : Prop := quantBoundUptoRow.holds Try.pinned (OpenSpec.upto quantBoundSpec)

/-- 'kinescopelaw06.PlaneDraws', WHERE WHAT IT READS IS OF BULK AT MOST 1048576: true; the input reads as it did. -/
def planeDrawsUptoRow : OpenClaim := { program := "ytbldgpemocnboaa", sum := "b43418bb03e438899996f4b220a4aadb50ec609f72f257712adec0586453c3a5", func := "kinescope/kinescopelaw06.PlaneDraws", spec := "planeDraws", apart := false, narrowed := true }
def PlaneDrawsUptoSaid : Prop := planeDrawsUptoRow.holds Try.pinned (OpenSpec.upto planeDrawsSpec)

/-- 'kinescopelaw26.ConcealVectors', WHERE WHAT IT READS IS OF BULK AT MOST 1048576: true; the input reads as it did. -/
def concealVectorsUptoRow : OpenClaim := { program := "ytbldgpemocnboaa", sum := "b43418bb03e438899996f4b220a4aadb50ec609f72f257712adec0586453c3a5", func := "kinescope/kinescopelaw26.ConcealVectors", spec := "concealVectors", apart := false, narrowed := true }
def ConcealVectorsUptoSaid : Prop := concealVectorsUptoRow.holds Try.pinned (OpenSpec.upto concealVectorsSpec)

/-- 'kinescopelaw26.ConcealAgain', WHERE WHAT IT READS IS OF BULK AT MOST 1048576: true; the input reads as it did. -/
def concealAgainUptoRow : OpenClaim := { program := "ytbldgpemocnboaa", sum := "b43418bb03e438899996f4b220a4aadb50ec609f72f257712adec0586453c3a5", func := "kinescope/kinescopelaw26.ConcealAgain", spec := "concealAgain", apart := false, narrowed := true }
def ConcealAgainUptoSaid : Prop := concealAgainUptoRow.holds Try.pinned (OpenSpec.upto concealAgainSpec)

/-- 'kinescopelaw26.ConcealSpreads', WHERE WHAT IT READS IS OF BULK AT MOST 1048576: true; the input reads as it did. -/
def concealSpreadsUptoRow : OpenClaim := { program := "ytbldgpemocnboaa", sum := "b43418bb03e438899996f4b220a4aadb50ec609f72f257712adec0586453c3a5", func := "kinescope/kinescopelaw26.ConcealSpreads", spec := "concealSpreads", apart := false, narrowed := true }
def ConcealSpreadsUptoSaid : Prop := concealSpreadsUptoRow.holds Try.pinned (OpenSpec.upto concealSpreadsSpec)

/-- 'kinescopelaw28.SearchWhole', WHERE WHAT IT READS IS OF BULK AT MOST 1048576: true; the input reads as it did. -/
def searchWholeUptoRow : OpenClaim := { program := "ytbldgpemocnboaa", sum := "b43418bb03e438899996f4b220a4aadb50ec609f72f257712adec0586453c3a5", func := "kinescope/kinescopelaw28.SearchWhole", spec := "searchWhole", unfollowed := true, recurses := true, apart := false, narrowed := true }
def SearchWholeUptoSaid : Prop := searchWholeUptoRow.holds Try.pinned (OpenSpec.upto searchWholeSpec)

/-- 'kinescopelaw28.SearchAway', WHERE WHAT IT READS IS OF BULK AT MOST 1048576: true; the input reads as it did. -/
def searchAwayUptoRow : OpenClaim := { program := "ytbldgpemocnboaa", sum := "b43418bb03e438899996f4b220a4aadb50ec609f72f257712adec0586453c3a5", func := "kinescope/kinescopelaw28.SearchAway", spec := "searchAway", unfollowed := true, recurses := true, apart := false, narrowed := true }
def SearchAwayUptoSaid : Prop := searchAwayUptoRow.holds Try.pinned (OpenSpec.upto searchAwaySpec)

/-- 'kinescopelaw28.SearchQuarters', WHERE WHAT IT READS IS OF BULK AT MOST 1048576: true; the input reads as it did. -/
def searchQuartersUptoRow : OpenClaim := { program := "ytbldgpemocnboaa", sum := "b43418bb03e438899996f4b220a4aadb50ec609f72f257712adec0586453c3a5", func := "kinescope/kinescopelaw28.SearchQuarters", spec := "searchQuarters", unfollowed := true, recurses := true, apart := false, narrowed := true }
def SearchQuartersUptoSaid : Prop := searchQuartersUptoRow.holds Try.pinned (OpenSpec.upto searchQuartersSpec)

/-- 'kinescopelaw28.SearchFinds', WHERE WHAT IT READS IS OF BULK AT MOST 1048576: true; the input reads as it did. -/
def searchFindsUptoRow : OpenClaim := { program := "ytbldgpemocnboaa", sum := "b43418bb03e438899996f4b220a4aadb50ec609f72f257712adec0586453c3a5", func := "kinescope/kinescopelaw28.SearchFinds", spec := "searchFinds", unfollowed := true, recurses := true, apart := false, narrowed := true }
def SearchFindsUptoSaid : Prop := searchFindsUptoRow.holds Try.pinned (OpenSpec.upto searchFindsSpec)

/-- 'kinescopelaw26.ConcealFlat', WHERE WHAT IT READS IS OF BULK AT MOST 1048576: true; the input reads as it did. -/
def concealFlatUptoRow : OpenClaim := { program := "ytbldgpemocnboaa", sum := "b43418bb03e438899996f4b220a4aadb50ec609f72f257712adec0586453c3a5", func := "kinescope/kinescopelaw26.ConcealFlat", spec := "concealFlat", apart := false, narrowed := true }
def ConcealFlatUptoSaid : Prop := concealFlatUptoRow.holds Try.pinned (OpenSpec.upto concealFlatSpec)

/-- 'kinescopelaw26.ConcealCopies', WHERE WHAT IT READS IS OF BULK AT MOST 1048576: true; the input reads as it did. -/
def concealCopiesUptoRow : OpenClaim := { program := "ytbldgpemocnboaa", sum := "b43418bb03e438899996f4b220a4aadb50ec609f72f257712adec0586453c3a5", func := "kinescope/kinescopelaw26.ConcealCopies", spec := "concealCopies", apart := false, narrowed := true }
def ConcealCopiesUptoSaid : Prop := concealCopiesUptoRow.holds Try.pinned (OpenSpec.upto concealCopiesSpec)

/-- 'kinescopelaw14.CompTouches', WHERE WHAT IT READS IS OF BULK AT MOST 1048576: true; the input reads as it did. -/
def compTouchesUptoRow : OpenClaim := { program := "ytbldgpemocnboaa", sum := "b43418bb03e438899996f4b220a4aadb50ec609f72f257712adec0586453c3a5", func := "kinescope/kinescopelaw14.CompTouches", spec := "compTouches", recurses := true, apart := false, narrowed := true }
def CompTouchesUptoSaid : Prop := compTouchesUptoRow.holds Try.pinned (OpenSpec.upto compTouchesSpec)

/-- 'kinescopelaw25.DamageFrom', WHERE WHAT IT READS IS OF BULK AT MOST 1048576: true; the input reads as it did. -/
def damageFromUptoRow : OpenClaim := { program := "ytbldgpemocnboaa", sum := "b43418bb03e438899996f4b220a4aadb50ec609f72f257712adec0586453c3a5", func := "kinescope/kinescopelaw25.DamageFrom", spec := "damageFrom", recurses := true, apart := false, narrowed := true }
def DamageFromUptoSaid : Prop := damageFromUptoRow.holds Try.pinned (OpenSpec.upto damageFromSpec)

/-- 'kinescopelaw25.DamageGrows', WHERE WHAT IT READS IS OF BULK AT MOST 1048576: true; the input reads as it did. -/
def damageGrowsUptoRow : OpenClaim := { program := "ytbldgpemocnboaa", sum := "b43418bb03e438899996f4b220a4aadb50ec609f72f257712adec0586453c3a5", func := "kinescope/kinescopelaw25.DamageGrows", spec := "damageGrows", recurses := true, apart := false, narrowed := true }
def DamageGrowsUptoSaid : Prop := damageGrowsUptoRow.holds Try.pinned (OpenSpec.upto damageGrowsSpec)

/-- 'kinescopelaw14.CompPredicts', WHERE WHAT IT READS IS OF BULK AT MOST 1048576: true; the input reads as it did. -/
def compPredictsUptoRow : OpenClaim := { program := "ytbldgpemocnboaa", sum := "b43418bb03e438899996f4b220a4aadb50ec609f72f257712adec0586453c3a5", func := "kinescope/kinescopelaw14.CompPredicts", spec := "compPredicts", recurses := true, apart := false, narrowed := true }
def CompPredictsUptoSaid : Prop := compPredictsUptoRow.holds Try.pinned (OpenSpec.upto compPredictsSpec)

/-- 'kinescopelaw14.CompLocal', WHERE WHAT IT READS IS OF BULK AT MOST 1048576: true; the input reads as it did. -/
def compLocalUptoRow : OpenClaim := { program := "ytbldgpemocnboaa", sum := "b43418bb03e438899996f4b220a4aadb50ec609f72f257712adec0586453c3a5", func := "kinescope/kinescopelaw14.CompLocal", spec := "compLocal", recurses := true, apart := false, narrowed := true }
def CompLocalUptoSaid : Prop := compLocalUptoRow.holds Try.pinned (OpenSpec.upto compLocalSpec)

/-- 'kinescopelaw14.CompWhole', WHERE WHAT IT READS IS OF BULK AT MOST 1048576: true; the input reads as it did. -/
def compWholeUptoRow : OpenClaim := { program := "ytbldgpemocnboaa", sum := "b43418bb03e438899996f4b220a4aadb50ec609f72f257712adec0586453c3a5", func := "kinescope/kinescopelaw14.CompWhole", spec := "compWhole", recurses := true, apart := false, narrowed := true }
def CompWholeUptoSaid : Prop := compWholeUptoRow.holds Try.pinned (OpenSpec.upto compWholeSpec)

end Rows
end Go.Proofs.Ytbldgpemocnboaa
