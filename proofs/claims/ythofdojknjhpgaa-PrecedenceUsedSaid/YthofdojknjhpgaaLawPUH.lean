/- Own texts, merged: a part of the proof that is told in the last text of this claim. -/
import Derived.Test.YthofdojknjhpgaaCMXo
import Derived.Test.YthofdojknjhpgaaLawPUE
set_option linter.unnecessarySimpa false
set_option linter.unusedSectionVars false
set_option linter.defProp false
set_option linter.unusedVariables false
set_option linter.unusedSimpArgs false
namespace Go.Proofs.Ythofdojknjhpgaa
open Go
section
variable {h : AH}
theorem f110_ok {x : Int} : AC Go.Proofs.Try.prog 110 [.int .i64 x] h (.bool false) h := by
  refine AC.of_ec (EC.intro f110_is ?_)
  unfold f110_c
  (refine EX.rg (by intro KK hkk; unfold f110_r0; simp only [SX, Nat.reduceEqDiff, ↓reduceIte, Nat.reduceSub, Nat.reduceAdd, Nat.reduceLT, Nat.reduceLeDiff, I.quiet, false_implies, implies_true, -List.reduceReplicate]; exact hkk) ?_)
  (refine EX.rg (by intro KK hkk; unfold f110_r1; simp only [SX, Nat.reduceEqDiff, ↓reduceIte, Nat.reduceSub, Nat.reduceAdd, Nat.reduceLT, Nat.reduceLeDiff, I.quiet, false_implies, implies_true, -List.reduceReplicate, decide_eq_false (show ¬ x ≠ x by simp)]; exact hkk) ?_)
  ((with_reducible repeat first|apply EX.seq|apply EX.blk); refine EX.ret ?_; (with_reducible repeat first|apply nA|apply nB|apply nC|apply nD|apply nE|apply nF|apply nG (by decide)|apply nH|apply nI|apply nJ); refine ⟨_, rfl, ?_⟩; simp only [packV, upd, Nat.reduceEqDiff, reduceIte, if_true, if_false, Nat.one_ne_zero, Nat.zero_ne_one])
  exact ⟨trivial, trivial⟩
end
end Go.Proofs.Ythofdojknjhpgaa
