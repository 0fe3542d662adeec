/-
  No cell of these rows narrows 'for every input' (looked for: loops, veiled, ifaces, maps, wideKeys, modest, calm, conditions, laid).
  DERIVED. THE GIVEN ROWS OF THIS SEAT. 12 by the template 'for every input the law returns true; each argument reads behind the call as it read before'; 0 by the template 'total and deterministic' (their statements: YthofdojknjhpgaaTotals.lean).
  GIVEN WITH THE SEED: the statements are not yours to turn. If you find one false, say at which input.
  Laid BY PROGRAM, IN A SANDBOX (cutbox-rows.mjs): the forced cells as the released guide's own fill.sh prints them over the translation a4da1c247dc59304… (all of the seat's roots in one cut). By AI agents, Wed Nov 11 2026. No macro, syntax, notation, axiom, sorry.
-/
import Derived.Test.YthofdojknjhpgaaChecked
import GoSem.Claim
import GoSem.ClaimJoined
import GoSem.ClaimMapViews
import Derived.JoinedTies
import Derived.KernelRfl
namespace Go.Proofs.Ythofdojknjhpgaa
/- THE CELL 'sum', in the pinned program and in every row, IS THE sha256 OF THE DUMP (.gsa) THAT YthofdojknjhpgaaProg.lean LOADS. Nothing in Lean hashes anything: it is a label: what it is worth is what the hold of that sum in a sandbox is worth. -/
noncomputable def Try.pinned : Pinned := { name := "ythofdojknjhpgaa", sum := "a4da1c247dc59304289cdb45a525e7ff8ac3381655a2bc49ce6bd11c6301461c", checked := Try.checked }
namespace Rows
def none {H : Type} : Left H := { results := [], args := [] }

/-- 'railplanlaw38.TakeoverIdentify': WHATEVER THE INPUT: true; the input reads as it did. -/
def takeoverIdentifySpec : ChangeSpec := { name := "takeoverIdentify", fn := fun _ => fun
  | [d1, d2, d3, d4, d5, d6] => { results := [.lit (.bool true)], args := [d1, d2, d3, d4, d5, d6] }
  | _ => none }
def takeoverIdentifyRow : OpenClaim := { program := "ythofdojknjhpgaa", sum := "a4da1c247dc59304289cdb45a525e7ff8ac3381655a2bc49ce6bd11c6301461c", func := "railplan/railplanlaw38.TakeoverIdentify", spec := "takeoverIdentify", recurses := true, apart := false }
def TakeoverIdentifySaid : Prop := takeoverIdentifyRow.holds Try.pinned (OpenSpec.ofChange takeoverIdentifySpec)

/-- ITS FALSE NEIGHBOUR: 'it returns false'. Refute it at one input. -/
def takeoverIdentifyWrong : ChangeSpec := { name := "takeoverIdentify", fn := fun _ => fun
  | [d1, d2, d3, d4, d5, d6] => { results := [.lit (.bool false)], args := [d1, d2, d3, d4, d5, d6] }
  | _ => none }
def TakeoverIdentifyWrongFalsely : Prop := takeoverIdentifyRow.holds Try.pinned (OpenSpec.ofChange takeoverIdentifyWrong)

/-- 'railplanlaw38.TakeoverFound': WHATEVER THE INPUT: true; the input reads as it did. -/
def takeoverFoundSpec : ChangeSpec := { name := "takeoverFound", fn := fun _ => fun
  | [d1, d2, d3] => { results := [.lit (.bool true)], args := [d1, d2, d3] }
  | _ => none }
def takeoverFoundRow : OpenClaim := { program := "ythofdojknjhpgaa", sum := "a4da1c247dc59304289cdb45a525e7ff8ac3381655a2bc49ce6bd11c6301461c", func := "railplan/railplanlaw38.TakeoverFound", spec := "takeoverFound", recurses := true, apart := false }
def TakeoverFoundSaid : Prop := takeoverFoundRow.holds Try.pinned (OpenSpec.ofChange takeoverFoundSpec)

/-- ITS FALSE NEIGHBOUR: 'it returns false'. Refute it at one input. -/
def takeoverFoundWrong : ChangeSpec := { name := "takeoverFound", fn := fun _ => fun
  | [d1, d2, d3] => { results := [.lit (.bool false)], args := [d1, d2, d3] }
  | _ => none }
def TakeoverFoundWrongFalsely : Prop := takeoverFoundRow.holds Try.pinned (OpenSpec.ofChange takeoverFoundWrong)

/-- 'railplanlaw35.PrecedenceValid': WHATEVER THE INPUT: true; the input reads as it did. -/
def precedenceValidSpec : ChangeSpec := { name := "precedenceValid", fn := fun _ => fun
  | [d1, d2, d3, d4, d5] => { results := [.lit (.bool true)], args := [d1, d2, d3, d4, d5] }
  | _ => none }
def precedenceValidRow : OpenClaim := { program := "ythofdojknjhpgaa", sum := "a4da1c247dc59304289cdb45a525e7ff8ac3381655a2bc49ce6bd11c6301461c", func := "railplan/railplanlaw35.PrecedenceValid", spec := "precedenceValid", unfollowed := true, recurses := true, apart := false }
def PrecedenceValidSaid : Prop := precedenceValidRow.holds Try.pinned (OpenSpec.ofChange precedenceValidSpec)

/-- ITS FALSE NEIGHBOUR: 'it returns false'. Refute it at one input. -/
def precedenceValidWrong : ChangeSpec := { name := "precedenceValid", fn := fun _ => fun
  | [d1, d2, d3, d4, d5] => { results := [.lit (.bool false)], args := [d1, d2, d3, d4, d5] }
  | _ => none }
def PrecedenceValidWrongFalsely : Prop := precedenceValidRow.holds Try.pinned (OpenSpec.ofChange precedenceValidWrong)

/-- 'railplanlaw35.PrecedenceCheck': WHATEVER THE INPUT: true; the input reads as it did. -/
def precedenceCheckSpec : ChangeSpec := { name := "precedenceCheck", fn := fun _ => fun
  | [d1, d2, d3, d4, d5, d6, d7] => { results := [.lit (.bool true)], args := [d1, d2, d3, d4, d5, d6, d7] }
  | _ => none }
def precedenceCheckRow : OpenClaim := { program := "ythofdojknjhpgaa", sum := "a4da1c247dc59304289cdb45a525e7ff8ac3381655a2bc49ce6bd11c6301461c", func := "railplan/railplanlaw35.PrecedenceCheck", spec := "precedenceCheck", unfollowed := true, recurses := true, apart := false }
def PrecedenceCheckSaid : Prop := precedenceCheckRow.holds Try.pinned (OpenSpec.ofChange precedenceCheckSpec)

/-- ITS FALSE NEIGHBOUR: 'it returns false'. Refute it at one input. -/
def precedenceCheckWrong : ChangeSpec := { name := "precedenceCheck", fn := fun _ => fun
  | [d1, d2, d3, d4, d5, d6, d7] => { results := [.lit (.bool false)], args := [d1, d2, d3, d4, d5, d6, d7] }
  | _ => none }
def PrecedenceCheckWrongFalsely : Prop := precedenceCheckRow.holds Try.pinned (OpenSpec.ofChange precedenceCheckWrong)

/-- 'railplanlaw35.PrecedenceUsed': WHATEVER THE INPUT: true; the input reads as it did. -/
def precedenceUsedSpec : ChangeSpec := { name := "precedenceUsed", fn := fun _ => fun
  | [d1, d2, d3] => { results := [.lit (.bool true)], args := [d1, d2, d3] }
  | _ => none }
def precedenceUsedRow : OpenClaim := { program := "ythofdojknjhpgaa", sum := "a4da1c247dc59304289cdb45a525e7ff8ac3381655a2bc49ce6bd11c6301461c", func := "railplan/railplanlaw35.PrecedenceUsed", spec := "precedenceUsed", unfollowed := true, recurses := true, apart := false }
def PrecedenceUsedSaid : Prop := precedenceUsedRow.holds Try.pinned (OpenSpec.ofChange precedenceUsedSpec)

/-- ITS FALSE NEIGHBOUR: 'it returns false'. Refute it at one input. -/
def precedenceUsedWrong : ChangeSpec := { name := "precedenceUsed", fn := fun _ => fun
  | [d1, d2, d3] => { results := [.lit (.bool false)], args := [d1, d2, d3] }
  | _ => none }
def PrecedenceUsedWrongFalsely : Prop := precedenceUsedRow.holds Try.pinned (OpenSpec.ofChange precedenceUsedWrong)

/-- 'railplanlaw35.PrecedenceCycle': WHATEVER THE INPUT: true; the input reads as it did. -/
def precedenceCycleSpec : ChangeSpec := { name := "precedenceCycle", fn := fun _ => fun
  | [d1, d2, d3] => { results := [.lit (.bool true)], args := [d1, d2, d3] }
  | _ => none }
def precedenceCycleRow : OpenClaim := { program := "ythofdojknjhpgaa", sum := "a4da1c247dc59304289cdb45a525e7ff8ac3381655a2bc49ce6bd11c6301461c", func := "railplan/railplanlaw35.PrecedenceCycle", spec := "precedenceCycle", unfollowed := true, recurses := true, apart := false }
def PrecedenceCycleSaid : Prop := precedenceCycleRow.holds Try.pinned (OpenSpec.ofChange precedenceCycleSpec)

/-- ITS FALSE NEIGHBOUR: 'it returns false'. Refute it at one input. -/
def precedenceCycleWrong : ChangeSpec := { name := "precedenceCycle", fn := fun _ => fun
  | [d1, d2, d3] => { results := [.lit (.bool false)], args := [d1, d2, d3] }
  | _ => none }
def PrecedenceCycleWrongFalsely : Prop := precedenceCycleRow.holds Try.pinned (OpenSpec.ofChange precedenceCycleWrong)

/-- 'railplanlaw35.PrecedenceTimes': WHATEVER THE INPUT: true; the input reads as it did. -/
def precedenceTimesSpec : ChangeSpec := { name := "precedenceTimes", fn := fun _ => fun
  | [d1, d2, d3, d4] => { results := [.lit (.bool true)], args := [d1, d2, d3, d4] }
  | _ => none }
def precedenceTimesRow : OpenClaim := { program := "ythofdojknjhpgaa", sum := "a4da1c247dc59304289cdb45a525e7ff8ac3381655a2bc49ce6bd11c6301461c", func := "railplan/railplanlaw35.PrecedenceTimes", spec := "precedenceTimes", unfollowed := true, recurses := true, apart := false }
def PrecedenceTimesSaid : Prop := precedenceTimesRow.holds Try.pinned (OpenSpec.ofChange precedenceTimesSpec)

/-- ITS FALSE NEIGHBOUR: 'it returns false'. Refute it at one input. -/
def precedenceTimesWrong : ChangeSpec := { name := "precedenceTimes", fn := fun _ => fun
  | [d1, d2, d3, d4] => { results := [.lit (.bool false)], args := [d1, d2, d3, d4] }
  | _ => none }
def PrecedenceTimesWrongFalsely : Prop := precedenceTimesRow.holds Try.pinned (OpenSpec.ofChange precedenceTimesWrong)

/-- 'railplanlaw35.PrecedenceRest': WHATEVER THE INPUT: true; the input reads as it did. -/
def precedenceRestSpec : ChangeSpec := { name := "precedenceRest", fn := fun _ => fun
  | [d1, d2, d3, d4] => { results := [.lit (.bool true)], args := [d1, d2, d3, d4] }
  | _ => none }
def precedenceRestRow : OpenClaim := { program := "ythofdojknjhpgaa", sum := "a4da1c247dc59304289cdb45a525e7ff8ac3381655a2bc49ce6bd11c6301461c", func := "railplan/railplanlaw35.PrecedenceRest", spec := "precedenceRest", unfollowed := true, recurses := true, apart := false }
def PrecedenceRestSaid : Prop := precedenceRestRow.holds Try.pinned (OpenSpec.ofChange precedenceRestSpec)

/-- ITS FALSE NEIGHBOUR: 'it returns false'. Refute it at one input. -/
def precedenceRestWrong : ChangeSpec := { name := "precedenceRest", fn := fun _ => fun
  | [d1, d2, d3, d4] => { results := [.lit (.bool false)], args := [d1, d2, d3, d4] }
  | _ => none }
def PrecedenceRestWrongFalsely : Prop := precedenceRestRow.holds Try.pinned (OpenSpec.ofChange precedenceRestWrong)

/-- 'railplanlaw35.PrecedenceExample': WHATEVER THE INPUT: true; the input reads as it did. -/
def precedenceExampleSpec : ChangeSpec := { name := "precedenceExample", fn := fun _ => fun
  | [] => { results := [.lit (.bool true)], args := [] }
  | _ => none }
def precedenceExampleRow : OpenClaim := { program := "ythofdojknjhpgaa", sum := "a4da1c247dc59304289cdb45a525e7ff8ac3381655a2bc49ce6bd11c6301461c", func := "railplan/railplanlaw35.PrecedenceExample", spec := "precedenceExample", unfollowed := true, recurses := true, apart := false }
def PrecedenceExampleSaid : Prop := precedenceExampleRow.holds Try.pinned (OpenSpec.ofChange precedenceExampleSpec)

/-- ITS FALSE NEIGHBOUR: 'it returns false'. Refute it at one input. -/
def precedenceExampleWrong : ChangeSpec := { name := "precedenceExample", fn := fun _ => fun
  | [] => { results := [.lit (.bool false)], args := [] }
  | _ => none }
def PrecedenceExampleWrongFalsely : Prop := precedenceExampleRow.holds Try.pinned (OpenSpec.ofChange precedenceExampleWrong)

/-- 'railplanlaw35.PrecedenceRaw': WHATEVER THE INPUT: true; the input reads as it did. -/
def precedenceRawSpec : ChangeSpec := { name := "precedenceRaw", fn := fun _ => fun
  | [d1, d2, d3, d4] => { results := [.lit (.bool true)], args := [d1, d2, d3, d4] }
  | _ => none }
def precedenceRawRow : OpenClaim := { program := "ythofdojknjhpgaa", sum := "a4da1c247dc59304289cdb45a525e7ff8ac3381655a2bc49ce6bd11c6301461c", func := "railplan/railplanlaw35.PrecedenceRaw", spec := "precedenceRaw", unfollowed := true, recurses := true, apart := false }
def PrecedenceRawSaid : Prop := precedenceRawRow.holds Try.pinned (OpenSpec.ofChange precedenceRawSpec)

/-- ITS FALSE NEIGHBOUR: 'it returns false'. Refute it at one input. -/
def precedenceRawWrong : ChangeSpec := { name := "precedenceRaw", fn := fun _ => fun
  | [d1, d2, d3, d4] => { results := [.lit (.bool false)], args := [d1, d2, d3, d4] }
  | _ => none }
def PrecedenceRawWrongFalsely : Prop := precedenceRawRow.holds Try.pinned (OpenSpec.ofChange precedenceRawWrong)

/-- 'railplanlaw35.PrecedenceSort': WHATEVER THE INPUT: true; the input reads as it did. -/
def precedenceSortSpec : ChangeSpec := { name := "precedenceSort", fn := fun _ => fun
  | [d1, d2, d3, d4, d5, d6] => { results := [.lit (.bool true)], args := [d1, d2, d3, d4, d5, d6] }
  | _ => none }
def precedenceSortRow : OpenClaim := { program := "ythofdojknjhpgaa", sum := "a4da1c247dc59304289cdb45a525e7ff8ac3381655a2bc49ce6bd11c6301461c", func := "railplan/railplanlaw35.PrecedenceSort", spec := "precedenceSort", unfollowed := true, recurses := true, apart := false }
def PrecedenceSortSaid : Prop := precedenceSortRow.holds Try.pinned (OpenSpec.ofChange precedenceSortSpec)

/-- ITS FALSE NEIGHBOUR: 'it returns false'. Refute it at one input. -/
def precedenceSortWrong : ChangeSpec := { name := "precedenceSort", fn := fun _ => fun
  | [d1, d2, d3, d4, d5, d6] => { results := [.lit (.bool false)], args := [d1, d2, d3, d4, d5, d6] }
  | _ => none }
def PrecedenceSortWrongFalsely : Prop := precedenceSortRow.holds Try.pinned (OpenSpec.ofChange precedenceSortWrong)

/-- 'railplanlaw35.PrecedenceStable': WHATEVER THE INPUT: true; the input reads as it did. -/
def precedenceStableSpec : ChangeSpec := { name := "precedenceStable", fn := fun _ => fun
  | [d1, d2, d3] => { results := [.lit (.bool true)], args := [d1, d2, d3] }
  | _ => none }
def precedenceStableRow : OpenClaim := { program := "ythofdojknjhpgaa", sum := "a4da1c247dc59304289cdb45a525e7ff8ac3381655a2bc49ce6bd11c6301461c", func := "railplan/railplanlaw35.PrecedenceStable", spec := "precedenceStable", unfollowed := true, recurses := true, apart := false }
def PrecedenceStableSaid : Prop := precedenceStableRow.holds Try.pinned (OpenSpec.ofChange precedenceStableSpec)

/-- ITS FALSE NEIGHBOUR: 'it returns false'. Refute it at one input. -/
def precedenceStableWrong : ChangeSpec := { name := "precedenceStable", fn := fun _ => fun
  | [d1, d2, d3] => { results := [.lit (.bool false)], args := [d1, d2, d3] }
  | _ => none }
def PrecedenceStableWrongFalsely : Prop := precedenceStableRow.holds Try.pinned (OpenSpec.ofChange precedenceStableWrong)

/- THE SECOND FORM. 'bulk': how many values and letters a reading holds, each counted each time it is reached (what is shared counts as often as it is met; a slice's spare places count too). A statement '..UptoSaid' is the law's where the arguments, and the package variables that the reading takes, are together of bulk at most 1048576: NARROWER than '..Said'. Prove '..Said' where nothing that the law and all that it calls make is longer than what came in: it says more and counts as full. Else prove '..UptoSaid'. A law counts once. -/
mutual
def uptoBulk {H : Type} : DataW H → Nat
  | .lit (.string bytes) => bytes.length + 1
  | .lit _ => 1
  | .nil => 1
  | .ptr d => uptoBulk d + 1
  | .slice elems spare => uptoBulkAll elems + uptoBulkAll spare + 1
  | .agg parts => uptoBulkAll parts + 1
  | .iface _ d => uptoBulk d + 1
  | .map entries => uptoBulkEntries entries + 1
  | .held _ => 1
def uptoBulkAll {H : Type} : List (DataW H) → Nat
  | [] => 0
  | d :: r => uptoBulk d + uptoBulkAll r
def uptoBulkEntries {H : Type} : List (Lit × DataW H) → Nat
  | [] => 0
  | x :: r => uptoBulkEntry x + uptoBulkEntries r
def uptoBulkEntry {H : Type} : Lit × DataW H → Nat
  | (.string bytes, d) => bytes.length + uptoBulk d + 1
  | (_, d) => uptoBulk d + 1
 end
def uptoSmall : (H : Type) → List (DataW H) → Bool := fun _ ds => decide (uptoBulkAll ds ≤ 1048576)
def OpenSpec.upto (s : _root_.Go.ChangeSpec) : _root_.Go.OpenSpec := { _root_.Go.OpenSpec.ofChange s with cond := some uptoSmall }

/-- 'railplanlaw38.TakeoverIdentify', WHERE WHAT IT READS IS OF BULK AT MOST 1048576: true; the input reads as it did. -/
def takeoverIdentifyUptoRow : OpenClaim := { program := "ythofdojknjhpgaa", sum := "a4da1c247dc59304289cdb45a525e7ff8ac3381655a2bc49ce6bd11c6301461c", func := "railplan/railplanlaw38.TakeoverIdentify", spec := "takeoverIdentify", recurses := true, apart := false, narrowed := true }
def TakeoverIdentifyUptoSaid : Prop := takeoverIdentifyUptoRow.holds Try.pinned (OpenSpec.upto takeoverIdentifySpec)

/-- 'railplanlaw38.TakeoverFound', WHERE WHAT IT READS IS OF BULK AT MOST 1048576: true; the input reads as it did. -/
def takeoverFoundUptoRow : OpenClaim := { program := "ythofdojknjhpgaa", sum := "a4da1c247dc59304289cdb45a525e7ff8ac3381655a2bc49ce6bd11c6301461c", func := "railplan/railplanlaw38.TakeoverFound", spec := "takeoverFound", recurses := true, apart := false, narrowed := true }
def TakeoverFoundUptoSaid : Prop := takeoverFoundUptoRow.holds Try.pinned (OpenSpec.upto takeoverFoundSpec)

/-- 'railplanlaw35.PrecedenceValid', WHERE WHAT IT READS IS OF BULK AT MOST 1048576: true; the input reads as it did. -/
def precedenceValidUptoRow : OpenClaim := { program := "ythofdojknjhpgaa", sum := "a4da1c247dc59304289cdb45a525e7ff8ac3381655a2bc49ce6bd11c6301461c", func := "railplan/railplanlaw35.PrecedenceValid", spec := "precedenceValid", unfollowed := true, recurses := true, apart := false, narrowed := true }
def PrecedenceValidUptoSaid : Prop := precedenceValidUptoRow.holds Try.pinned (OpenSpec.upto precedenceValidSpec)

/-- 'railplanlaw35.PrecedenceCheck', WHERE WHAT IT READS IS OF BULK AT MOST 1048576: true; the input reads as it did. -/
def precedenceCheckUptoRow : OpenClaim := { program := "ythofdojknjhpgaa", sum := "a4da1c247dc59304289cdb45a525e7ff8ac3381655a2bc49ce6bd11c6301461c", func := "railplan/railplanlaw35.PrecedenceCheck", spec := "precedenceCheck", unfollowed := true, recurses := true, apart := false, narrowed := true }
def PrecedenceCheckUptoSaid : Prop := precedenceCheckUptoRow.holds Try.pinned (OpenSpec.upto precedenceCheckSpec)

/-- 'railplanlaw35.PrecedenceUsed', WHERE WHAT IT READS IS OF BULK AT MOST 1048576: true; the input reads as it did. -/
def precedenceUsedUptoRow : OpenClaim := { program := "ythofdojknjhpgaa", sum := "a4da1c247dc59304289cdb45a525e7ff8ac3381655a2bc49ce6bd11c6301461c", func := "railplan/railplanlaw35.PrecedenceUsed", spec := "precedenceUsed", unfollowed := true, recurses := true, apart := false, narrowed := true }
def PrecedenceUsedUptoSaid : Prop := precedenceUsedUptoRow.holds Try.pinned (OpenSpec.upto precedenceUsedSpec)

/-- 'railplanlaw35.PrecedenceCycle', WHERE WHAT IT READS IS OF BULK AT MOST 1048576: true; the input reads as it did. -/
def precedenceCycleUptoRow : OpenClaim := { program := "ythofdojknjhpgaa", sum := "a4da1c247dc59304289cdb45a525e7ff8ac3381655a2bc49ce6bd11c6301461c", func := "railplan/railplanlaw35.PrecedenceCycle", spec := "precedenceCycle", unfollowed := true, recurses := true, apart := false, narrowed := true }
def PrecedenceCycleUptoSaid : Prop := precedenceCycleUptoRow.holds Try.pinned (OpenSpec.upto precedenceCycleSpec)

/-- 'railplanlaw35.PrecedenceTimes', WHERE WHAT IT READS IS OF BULK AT MOST 1048576: true; the input reads as it did. -/
def precedenceTimesUptoRow : OpenClaim := { program := "ythofdojknjhpgaa", sum := "a4da1c247dc59304289cdb45a525e7ff8ac3381655a2bc49ce6bd11c6301461c", func := "railplan/railplanlaw35.PrecedenceTimes", spec := "precedenceTimes", unfollowed := true, recurses := true, apart := false, narrowed := true }
def PrecedenceTimesUptoSaid : Prop := precedenceTimesUptoRow.holds Try.pinned (OpenSpec.upto precedenceTimesSpec)

/-- 'railplanlaw35.PrecedenceRest', WHERE WHAT IT READS IS OF BULK AT MOST 1048576: true; the input reads as it did. -/
def precedenceRestUptoRow : OpenClaim := { program := "ythofdojknjhpgaa", sum := "a4da1c247dc59304289cdb45a525e7ff8ac3381655a2bc49ce6bd11c6301461c", func := "railplan/railplanlaw35.PrecedenceRest", spec := "precedenceRest", unfollowed := true, recurses := true, apart := false, narrowed := true }
def PrecedenceRestUptoSaid : Prop := precedenceRestUptoRow.holds Try.pinned (OpenSpec.upto precedenceRestSpec)

/-- 'railplanlaw35.PrecedenceExample', WHERE WHAT IT READS IS OF BULK AT MOST 1048576: true; the input reads as it did. -/
def precedenceExampleUptoRow : OpenClaim := { program := "ythofdojknjhpgaa", sum := "a4da1c247dc59304289cdb45a525e7ff8ac3381655a2bc49ce6bd11c6301461c", func := "railplan/railplanlaw35.PrecedenceExample", spec := "precedenceExample", unfollowed := true, recurses := true, apart := false, narrowed := true }
def PrecedenceExampleUptoSaid : Prop := precedenceExampleUptoRow.holds Try.pinned (OpenSpec.upto precedenceExampleSpec)

/-- 'railplanlaw35.PrecedenceRaw', WHERE WHAT IT READS IS OF BULK AT MOST 1048576: true; the input reads as it did. -/
def precedenceRawUptoRow : OpenClaim := { program := "ythofdojknjhpgaa", sum := "a4da1c247dc59304289cdb45a525e7ff8ac3381655a2bc49ce6bd11c6301461c", func := "railplan/railplanlaw35.PrecedenceRaw", spec := "precedenceRaw", unfollowed := true, recurses := true, apart := false, narrowed := true }
def PrecedenceRawUptoSaid : Prop := precedenceRawUptoRow.holds Try.pinned (OpenSpec.upto precedenceRawSpec)

/-- 'railplanlaw35.PrecedenceSort', WHERE WHAT IT READS IS OF BULK AT MOST 1048576: true; the input reads as it did. -/
def precedenceSortUptoRow : OpenClaim := { program := "ythofdojknjhpgaa", sum := "a4da1c247dc59304289cdb45a525e7ff8ac3381655a2bc49ce6bd11c6301461c", func := "railplan/railplanlaw35.PrecedenceSort", spec := "precedenceSort", unfollowed := true, recurses := true, apart := false, narrowed := true }
def PrecedenceSortUptoSaid : Prop := precedenceSortUptoRow.holds Try.pinned (OpenSpec.upto precedenceSortSpec)

/-- 'railplanlaw35.PrecedenceStable', WHERE WHAT IT READS IS OF BULK AT MOST 1048576: true; the input reads as it did. -/
def precedenceStableUptoRow : OpenClaim := { program := "ythofdojknjhpgaa", sum := "a4da1c247dc59304289cdb45a525e7ff8ac3381655a2bc49ce6bd11c6301461c", func := "railplan/railplanlaw35.PrecedenceStable", spec := "precedenceStable", unfollowed := true, recurses := true, apart := false, narrowed := true }
def PrecedenceStableUptoSaid : Prop := precedenceStableUptoRow.holds Try.pinned (OpenSpec.upto precedenceStableSpec)

end Rows
end Go.Proofs.Ythofdojknjhpgaa
