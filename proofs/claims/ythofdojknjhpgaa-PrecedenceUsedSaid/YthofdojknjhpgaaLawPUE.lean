/- Own texts, merged: a part of the proof that is told in the last text of this claim. -/
import Derived.Test.YthofdojknjhpgaaCMX
import Derived.Test.YthofdojknjhpgaaLawPUA
set_option linter.unnecessarySimpa false
set_option linter.unusedSectionVars false
set_option linter.defProp false
set_option linter.unusedVariables false
set_option linter.unusedSimpArgs false
namespace Go.Proofs.Ythofdojknjhpgaa
open Go
def clockB (x : Int) : Bool := decide (0 ≤ x ∧ x ≤ 4194304)
def resB (x : Int) : Bool := decide (0 ≤ x ∧ x < 144)
section
variable {h : AH}

theorem f18_ok {v n : Int} (h0 : 0 < n) (h1 : n < 4294967296) : AC Go.Proofs.Try.prog 18 [.int .i64 v, .int .i64 n] h (.int .i64 ((IntKind.wrap .u64 v) % n)) h := by
  have hw : IntKind.wrap .u64 n = n := IntWalk.u64_in n (by omega)
  have hv : 0 ≤ IntKind.wrap .u64 v := (Int.emod_nonneg v (by decide))
  have hm := Int.emod_lt_of_pos (IntKind.wrap .u64 v) h0
  have hm0 := Int.emod_nonneg (IntKind.wrap .u64 v) (show n ≠ 0 by omega)
  refine AC.of_ec (EC.intro f18_is ?_)
  unfold f18_c
  (refine EX.rg (by intro KK hkk; unfold f18_r0; simp only [SX, Nat.reduceEqDiff, ↓reduceIte, Nat.reduceSub, Nat.reduceAdd, Nat.reduceLT, Nat.reduceLeDiff, I.quiet, false_implies, implies_true, -List.reduceReplicate]; exact hkk) ?_)
  (refine EX.rg (by intro KK hkk; unfold f18_r1; simp only [SX, Nat.reduceEqDiff, ↓reduceIte, Nat.reduceSub, Nat.reduceAdd, Nat.reduceLT, Nat.reduceLeDiff, I.quiet, false_implies, implies_true, -List.reduceReplicate, hw, vbin_rem (show n ≠ 0 by omega), Int.tmod_eq_emod_of_nonneg hv, wrap_id (show -9223372036854775808 ≤ (IntKind.wrap .u64 v) % n by omega) (by omega)]; exact hkk) ?_)
  ((with_reducible repeat first|apply EX.seq|apply EX.blk); refine EX.ret ?_; (with_reducible repeat first|apply nA|apply nB|apply nC|apply nD|apply nE|apply nF|apply nG (by decide)|apply nH|apply nI|apply nJ); refine ⟨_, rfl, ?_⟩; simp only [packV, upd, Nat.reduceEqDiff, reduceIte, if_true, if_false, Nat.one_ne_zero, Nat.zero_ne_one])
  exact ⟨trivial, trivial⟩

theorem f94_ok {x : Int} : AC Go.Proofs.Try.prog 94 [.int .i64 x] h (.bool (resB x)) h := by
  refine AC.of_ec (EC.intro f94_is ?_)
  unfold f94_c
  (refine EX.rg (by intro KK hkk; unfold f94_r0; simp only [SX, Nat.reduceEqDiff, ↓reduceIte, Nat.reduceSub, Nat.reduceAdd, Nat.reduceLT, Nat.reduceLeDiff, I.quiet, false_implies, implies_true, -List.reduceReplicate]; exact hkk) ?_)
  by_cases h0 : (0 : Int) ≤ x
  · (refine EX.rg (by intro KK hkk; unfold f94_r1; simp only [SX, Nat.reduceEqDiff, ↓reduceIte, Nat.reduceSub, Nat.reduceAdd, Nat.reduceLT, Nat.reduceLeDiff, I.quiet, false_implies, implies_true, -List.reduceReplicate, h0]; exact hkk) ?_)
    ((with_reducible repeat first|apply EX.seq|apply EX.blk); refine EX.ret ?_; (with_reducible repeat first|apply nA|apply nB|apply nC|apply nD|apply nE|apply nF|apply nG (by decide)|apply nH|apply nI|apply nJ); refine ⟨_, rfl, ?_⟩; simp only [packV, upd, Nat.reduceEqDiff, reduceIte, if_true, if_false, Nat.one_ne_zero, Nat.zero_ne_one])
    simp [h0, resB]
  · (refine EX.rg (by intro KK hkk; unfold f94_r1; simp only [SX, Nat.reduceEqDiff, ↓reduceIte, Nat.reduceSub, Nat.reduceAdd, Nat.reduceLT, Nat.reduceLeDiff, I.quiet, false_implies, implies_true, -List.reduceReplicate, h0]; exact hkk) ?_)
    ((with_reducible repeat first|apply EX.seq|apply EX.blk); refine EX.ret ?_; (with_reducible repeat first|apply nA|apply nB|apply nC|apply nD|apply nE|apply nF|apply nG (by decide)|apply nH|apply nI|apply nJ); refine ⟨_, rfl, ?_⟩; simp only [packV, upd, Nat.reduceEqDiff, reduceIte, if_true, if_false, Nat.one_ne_zero, Nat.zero_ne_one])
    simp [h0, resB]
theorem f96_ok {x : Int} : AC Go.Proofs.Try.prog 96 [.int .i64 x] h (.bool (resB x)) h := by
  refine AC.of_ec (EC.intro f96_is ?_)
  unfold f96_c
  (refine EX.rg (by intro KK hkk; unfold f96_r0; simp only [SX, Nat.reduceEqDiff, ↓reduceIte, Nat.reduceSub, Nat.reduceAdd, Nat.reduceLT, Nat.reduceLeDiff, I.quiet, false_implies, implies_true, -List.reduceReplicate]; exact hkk) ?_)
  by_cases h0 : (0 : Int) ≤ x
  · (refine EX.rg (by intro KK hkk; unfold f96_r1; simp only [SX, Nat.reduceEqDiff, ↓reduceIte, Nat.reduceSub, Nat.reduceAdd, Nat.reduceLT, Nat.reduceLeDiff, I.quiet, false_implies, implies_true, -List.reduceReplicate, h0]; exact hkk) ?_)
    ((with_reducible repeat first|apply EX.seq|apply EX.blk); refine EX.ret ?_; (with_reducible repeat first|apply nA|apply nB|apply nC|apply nD|apply nE|apply nF|apply nG (by decide)|apply nH|apply nI|apply nJ); refine ⟨_, rfl, ?_⟩; simp only [packV, upd, Nat.reduceEqDiff, reduceIte, if_true, if_false, Nat.one_ne_zero, Nat.zero_ne_one])
    simp [h0, resB]
  · (refine EX.rg (by intro KK hkk; unfold f96_r1; simp only [SX, Nat.reduceEqDiff, ↓reduceIte, Nat.reduceSub, Nat.reduceAdd, Nat.reduceLT, Nat.reduceLeDiff, I.quiet, false_implies, implies_true, -List.reduceReplicate, h0]; exact hkk) ?_)
    ((with_reducible repeat first|apply EX.seq|apply EX.blk); refine EX.ret ?_; (with_reducible repeat first|apply nA|apply nB|apply nC|apply nD|apply nE|apply nF|apply nG (by decide)|apply nH|apply nI|apply nJ); refine ⟨_, rfl, ?_⟩; simp only [packV, upd, Nat.reduceEqDiff, reduceIte, if_true, if_false, Nat.one_ne_zero, Nat.zero_ne_one])
    simp [h0, resB]
theorem f82_ok {x : Int} : AC Go.Proofs.Try.prog 82 [.int .i64 x] h (.bool (clockB x)) h := by
  refine AC.of_ec (EC.intro f82_is ?_)
  unfold f82_c
  (refine EX.rg (by intro KK hkk; unfold f82_r0; simp only [SX, Nat.reduceEqDiff, ↓reduceIte, Nat.reduceSub, Nat.reduceAdd, Nat.reduceLT, Nat.reduceLeDiff, I.quiet, false_implies, implies_true, -List.reduceReplicate]; exact hkk) ?_)
  by_cases h0 : (0 : Int) ≤ x
  · (refine EX.rg (by intro KK hkk; unfold f82_r1; simp only [SX, Nat.reduceEqDiff, ↓reduceIte, Nat.reduceSub, Nat.reduceAdd, Nat.reduceLT, Nat.reduceLeDiff, I.quiet, false_implies, implies_true, -List.reduceReplicate, h0]; exact hkk) ?_)
    ((with_reducible repeat first|apply EX.seq|apply EX.blk); refine EX.ret ?_; (with_reducible repeat first|apply nA|apply nB|apply nC|apply nD|apply nE|apply nF|apply nG (by decide)|apply nH|apply nI|apply nJ); refine ⟨_, rfl, ?_⟩; simp only [packV, upd, Nat.reduceEqDiff, reduceIte, if_true, if_false, Nat.one_ne_zero, Nat.zero_ne_one])
    simp [h0, clockB]
  · (refine EX.rg (by intro KK hkk; unfold f82_r1; simp only [SX, Nat.reduceEqDiff, ↓reduceIte, Nat.reduceSub, Nat.reduceAdd, Nat.reduceLT, Nat.reduceLeDiff, I.quiet, false_implies, implies_true, -List.reduceReplicate, h0]; exact hkk) ?_)
    ((with_reducible repeat first|apply EX.seq|apply EX.blk); refine EX.ret ?_; (with_reducible repeat first|apply nA|apply nB|apply nC|apply nD|apply nE|apply nF|apply nG (by decide)|apply nH|apply nI|apply nJ); refine ⟨_, rfl, ?_⟩; simp only [packV, upd, Nat.reduceEqDiff, reduceIte, if_true, if_false, Nat.one_ne_zero, Nat.zero_ne_one])
    simp [h0, clockB]
theorem f83_ok {x : Int} : AC Go.Proofs.Try.prog 83 [.int .i64 x] h (.bool (clockB x)) h := by
  refine AC.of_ec (EC.intro f83_is ?_)
  unfold f83_c
  (refine EX.rg (by intro KK hkk; unfold f83_r0; simp only [SX, Nat.reduceEqDiff, ↓reduceIte, Nat.reduceSub, Nat.reduceAdd, Nat.reduceLT, Nat.reduceLeDiff, I.quiet, false_implies, implies_true, -List.reduceReplicate]; exact hkk) ?_)
  by_cases h0 : (0 : Int) ≤ x
  · (refine EX.rg (by intro KK hkk; unfold f83_r1; simp only [SX, Nat.reduceEqDiff, ↓reduceIte, Nat.reduceSub, Nat.reduceAdd, Nat.reduceLT, Nat.reduceLeDiff, I.quiet, false_implies, implies_true, -List.reduceReplicate, h0]; exact hkk) ?_)
    ((with_reducible repeat first|apply EX.seq|apply EX.blk); refine EX.ret ?_; (with_reducible repeat first|apply nA|apply nB|apply nC|apply nD|apply nE|apply nF|apply nG (by decide)|apply nH|apply nI|apply nJ); refine ⟨_, rfl, ?_⟩; simp only [packV, upd, Nat.reduceEqDiff, reduceIte, if_true, if_false, Nat.one_ne_zero, Nat.zero_ne_one])
    simp [h0, clockB]
  · (refine EX.rg (by intro KK hkk; unfold f83_r1; simp only [SX, Nat.reduceEqDiff, ↓reduceIte, Nat.reduceSub, Nat.reduceAdd, Nat.reduceLT, Nat.reduceLeDiff, I.quiet, false_implies, implies_true, -List.reduceReplicate, h0]; exact hkk) ?_)
    ((with_reducible repeat first|apply EX.seq|apply EX.blk); refine EX.ret ?_; (with_reducible repeat first|apply nA|apply nB|apply nC|apply nD|apply nE|apply nF|apply nG (by decide)|apply nH|apply nI|apply nJ); refine ⟨_, rfl, ?_⟩; simp only [packV, upd, Nat.reduceEqDiff, reduceIte, if_true, if_false, Nat.one_ne_zero, Nat.zero_ne_one])
    simp [h0, clockB]
/-- 'slices.Index' of ints. -/
theorem f112_ok {xs : List Int} {x : Int} : AC Go.Proofs.Try.prog 112 [L xs, .int .i64 x] h (.int .i64 (if x ∈ xs then (xs.idxOf x : Int) else -1)) h := by
  refine AC.bd 0 rfl fun bx => ?_
  refine AC.of_ec (EC.intro f112_is ?_)
  unfold f112_c
  (refine EX.rg (by intro KK hkk; unfold f112_r0; simp only [SX, Nat.reduceEqDiff, ↓reduceIte, Nat.reduceSub, Nat.reduceAdd, Nat.reduceLT, Nat.reduceLeDiff, I.quiet, false_implies, implies_true, -List.reduceReplicate]; exact hkk) ?_)
  (refine EX.rg (by intro KK hkk; unfold f112_r1; simp only [SX, Nat.reduceEqDiff, ↓reduceIte, Nat.reduceSub, Nat.reduceAdd, Nat.reduceLT, Nat.reduceLeDiff, I.quiet, false_implies, implies_true, -List.reduceReplicate]; exact hkk) ?_)
  (with_reducible repeat first|apply EX.seq|apply EX.blk)
  refine EX.loop (fun k => upd (upd (upd (upd TE 0 (L xs)) 1 (.int .i64 x)) 7 (.int .i64 xs.length)) 8 (.int .i64 (k : Nat))) (fun _ => h) (fun k => k ≤ xs.length ∧ x ∉ xs.take k) (fun k => xs.length - k) 0 (by simp) (Less.wk (by (repeat refine Less.upd ?_ (by rfl)); exact Less.nil)) ?_
  intro k ⟨hk, hkt⟩
  (refine EX.rg (by intro KK hkk; unfold f112_r2; simp only [SX, Nat.reduceEqDiff, ↓reduceIte, Nat.reduceSub, Nat.reduceAdd, Nat.reduceLT, Nat.reduceLeDiff, I.quiet, false_implies, implies_true, -List.reduceReplicate, lt_nat]; exact hkk) ?_)
  (with_reducible repeat first|apply EX.seq|apply EX.blk)
  refine EX.dec rfl (fun hlt => ?_) (fun hlt => ?_)
  · (refine EX.skip ?_; (with_reducible repeat first|apply nA|apply nB|apply nC|apply nD|apply nE|apply nF|apply nG (by decide)|apply nH|apply nI|apply nJ))
    (refine EX.rg (by intro KK hkk; unfold f112_r3; simp only [SX, Nat.reduceEqDiff, ↓reduceIte, Nat.reduceSub, Nat.reduceAdd, Nat.reduceLT, Nat.reduceLeDiff, I.quiet, false_implies, implies_true, -List.reduceReplicate]; exact hkk) ?_)
    (refine EX.rg (by intro KK hkk; unfold f112_r4; simp only [SX, Nat.reduceEqDiff, ↓reduceIte, Nat.reduceSub, Nat.reduceAdd, Nat.reduceLT, Nat.reduceLeDiff, I.quiet, false_implies, implies_true, -List.reduceReplicate, hlt, ld1_ef hlt o1i, rd_eq hlt]; exact hkk) ?_)
    have hx : xs = xs.take k ++ xs[k] :: xs.drop (k + 1) := by rw [← List.drop_eq_getElem_cons hlt, List.take_append_drop]
    refine EX.dec rfl (fun hd => ?_) (fun hd => ?_)
    · (refine EX.rg (by intro KK hkk; unfold f112_r5; simp only [SX, Nat.reduceEqDiff, ↓reduceIte, Nat.reduceSub, Nat.reduceAdd, Nat.reduceLT, Nat.reduceLeDiff, I.quiet, false_implies, implies_true, -List.reduceReplicate]; exact hkk) ?_)
      ((with_reducible repeat first|apply EX.seq|apply EX.blk); refine EX.ret ?_; (with_reducible repeat first|apply nA|apply nB|apply nC|apply nD|apply nE|apply nF|apply nG (by decide)|apply nH|apply nI|apply nJ); refine ⟨_, rfl, ?_⟩; simp only [packV, upd, Nat.reduceEqDiff, reduceIte, if_true, if_false, Nat.one_ne_zero, Nat.zero_ne_one])
      refine ⟨?_, trivial⟩
      have hm : x ∈ xs := by rw [hd]; exact List.getElem_mem _
      have hi : xs.idxOf x = k := by
        rw [hx, List.idxOf_append, if_neg hkt, ← hd, List.idxOf_cons_self, List.length_take]; omega
      rw [if_pos hm, hi]
    · (refine EX.skip ?_; (with_reducible repeat first|apply nA|apply nB|apply nC|apply nD|apply nE|apply nF|apply nG (by decide)|apply nH|apply nI|apply nJ))
      (refine EX.rg (by intro KK hkk; unfold f112_r6; simp only [SX, Nat.reduceEqDiff, ↓reduceIte, Nat.reduceSub, Nat.reduceAdd, Nat.reduceLT, Nat.reduceLeDiff, I.quiet, false_implies, implies_true, -List.reduceReplicate, wrap_nat (show k < 4611686018427387904 by have := bx.1; omega)]; exact hkk) ?_)
      refine ⟨k + 1, ⟨by omega, ?_⟩, by omega, Less.wk (by (repeat refine Less.upd ?_ (by rfl)); exact Less.nil)⟩
      show x ∉ _
      rw [List.take_add_one, List.getElem?_eq_getElem hlt]
      simp only [List.mem_append, Option.toList_some, List.mem_singleton, not_or]
      exact ⟨hkt, hd⟩
  · (refine EX.exit ?_; (with_reducible repeat first|apply nA|apply nB|apply nC|apply nD|apply nE|apply nF|apply nG (by decide)|apply nH|apply nI|apply nJ))
    (refine EX.rg (by intro KK hkk; unfold f112_r7; simp only [SX, Nat.reduceEqDiff, ↓reduceIte, Nat.reduceSub, Nat.reduceAdd, Nat.reduceLT, Nat.reduceLeDiff, I.quiet, false_implies, implies_true, -List.reduceReplicate]; exact hkk) ?_)
    ((with_reducible repeat first|apply EX.seq|apply EX.blk); refine EX.ret ?_; (with_reducible repeat first|apply nA|apply nB|apply nC|apply nD|apply nE|apply nF|apply nG (by decide)|apply nH|apply nI|apply nJ); refine ⟨_, rfl, ?_⟩; simp only [packV, upd, Nat.reduceEqDiff, reduceIte, if_true, if_false, Nat.one_ne_zero, Nat.zero_ne_one])
    have e : k = xs.length := by omega
    subst e
    rw [List.take_length] at hkt
    simp [hkt]
/-- 'slices.Contains' of ints. -/
theorem f95_ok {xs : List Int} {x : Int} : AC Go.Proofs.Try.prog 95 [L xs, .int .i64 x] h (.bool (decide (x ∈ xs))) h := by
  refine AC.of_ec (EC.intro f95_is ?_)
  unfold f95_c
  (refine EX.rg (by intro KK hkk; unfold f95_r0; simp only [SX, Nat.reduceEqDiff, ↓reduceIte, Nat.reduceSub, Nat.reduceAdd, Nat.reduceLT, Nat.reduceLeDiff, I.quiet, false_implies, implies_true, -List.reduceReplicate]; exact hkk) ?_)
  (refine EX.rg (by intro KK hkk; unfold f95_r1; simp only [SX, Nat.reduceEqDiff, ↓reduceIte, Nat.reduceSub, Nat.reduceAdd, Nat.reduceLT, Nat.reduceLeDiff, I.quiet, false_implies, implies_true, -List.reduceReplicate]; refine RO_callvS (f112_ok) ?_; simp only [SX, Nat.reduceEqDiff, ↓reduceIte, Nat.reduceSub, Nat.reduceAdd, Nat.reduceLT, Nat.reduceLeDiff, I.quiet, false_implies, implies_true, -List.reduceReplicate]; exact hkk) ?_)
  ((with_reducible repeat first|apply EX.seq|apply EX.blk); refine EX.ret ?_; (with_reducible repeat first|apply nA|apply nB|apply nC|apply nD|apply nE|apply nF|apply nG (by decide)|apply nH|apply nI|apply nJ); refine ⟨_, rfl, ?_⟩; simp only [packV, upd, Nat.reduceEqDiff, reduceIte, if_true, if_false, Nat.one_ne_zero, Nat.zero_ne_one])
  by_cases hm : x ∈ xs <;> simp [hm]
end
end Go.Proofs.Ythofdojknjhpgaa
set_option linter.unusedVariables false
set_option linter.unusedSimpArgs false
namespace Go.Proofs.Ythofdojknjhpgaa
open Go
structure Stg where
  sec : Int
  pts : List Int
  min : Int
  not : Int
deriving DecidableEq, Inhabited
instance : Enc Stg where
  w := 4
  cells g := [.int .i64 g.sec, L g.pts, .int .i64 g.min, .int .i64 g.not]
  bd g := Bd g.pts
  len _ := rfl
  pos := by decide
  one _ := rfl
  cl a v hv := by
    simp only [List.mem_cons, List.not_mem_nil, or_false] at hv
    rcases hv with rfl | rfl | rfl | rfl
    · exact Cl.int
    · exact L_cl
    · exact Cl.int
    · exact Cl.int
  vbd a φ n us hu := by
    obtain ⟨c, _, hc⟩ := hu.get (i := 1) rfl
    exact L_bd hc
theorem cells_stg {g : Stg} : Enc.cells g = [.int .i64 g.sec, L g.pts, .int .i64 g.min, .int .i64 g.not] := nr rfl
theorem w4s : Enc.w Stg = 4 := rfl
theorem o4s {o : Nat} (h : o < 4) : o < Enc.w Stg := h
/-- A stage by value. -/
def stgV (g : Stg) : Value := .agg [.int .i64 g.sec, L g.pts, .int .i64 g.min, .int .i64 g.not].toArray
def stageB (g : Stg) : Bool := g.pts.all (fun p => resB p && decide (p ≠ g.sec)) && decide g.pts.Nodup && resB g.sec && decide (g.pts.length ≤ 2) && clockB g.min && clockB g.not

section
variable {h : AH}
/-- 'precedence.stage'. -/
theorem f59_ok {g : Stg} (la : g.pts.length < 4611686018427387904) : AC Go.Proofs.Try.prog 59 [.agg [.int .i64 g.sec, L g.pts, .int .i64 g.min, .int .i64 g.not].toArray] h (.bool (stageB g)) h := by
  refine AC.wf fun hw => AC.of_app hw Cl.bool (EC.intro f59_is ?_)
  unfold f59_c
  (refine EX.rg (by intro KK hkk; unfold f59_r0; simp only [SX, Nat.reduceEqDiff, ↓reduceIte, Nat.reduceSub, Nat.reduceAdd, Nat.reduceLT, Nat.reduceLeDiff, I.quiet, false_implies, implies_true, -List.reduceReplicate, new_app hw]; exact hkk) ?_)
  (refine EX.rg (by intro KK hkk; unfold f59_r1; simp only [SX, Nat.reduceEqDiff, ↓reduceIte, Nat.reduceSub, Nat.reduceAdd, Nat.reduceLT, Nat.reduceLeDiff, I.quiet, false_implies, implies_true, -List.reduceReplicate]; exact hkk) ?_)
  (with_reducible repeat first|apply EX.seq|apply EX.blk)
  refine EX.loop (fun k => upd (upd (upd (upd TE 1 (.pointer (some ⟨h.next, 0, none⟩))) 6 (L g.pts)) 7 (.int .i64 g.pts.length)) 8 (.int .i64 (k : Nat))) (fun _ => h.app [some (.row 65 0 [.int .i64 g.sec, L g.pts, .int .i64 g.min, .int .i64 g.not])]) (fun k => k ≤ g.pts.length ∧ (g.pts.take k).all (fun p => resB p && decide (p ≠ g.sec)) = true ∧ (g.pts.take k).Nodup) (fun k => g.pts.length - k) 0 (by simp) (Less.wk (by (repeat refine Less.upd ?_ (by rfl)); exact Less.nil)) ?_
  intro k ⟨hk, hk1, hk2⟩
  (refine EX.rg (by intro KK hkk; unfold f59_r2; simp only [SX, Nat.reduceEqDiff, ↓reduceIte, Nat.reduceSub, Nat.reduceAdd, Nat.reduceLT, Nat.reduceLeDiff, I.quiet, false_implies, implies_true, -List.reduceReplicate, lt_nat]; exact hkk) ?_)
  (with_reducible repeat first|apply EX.seq|apply EX.blk)
  refine EX.dec rfl (fun hlt => ?_) (fun hlt => ?_)
  · (refine EX.skip ?_; (with_reducible repeat first|apply nA|apply nB|apply nC|apply nD|apply nE|apply nF|apply nG (by decide)|apply nH|apply nI|apply nJ))
    have hlt' : k < g.pts.length := hlt
    (refine EX.rg (by intro KK hkk; unfold f59_r3; simp only [SX, Nat.reduceEqDiff, ↓reduceIte, Nat.reduceSub, Nat.reduceAdd, Nat.reduceLT, Nat.reduceLeDiff, I.quiet, false_implies, implies_true, -List.reduceReplicate, hlt', ld1_ef hlt' o1i, rd_eq hlt']; exact hkk) ?_)
    have hmem : g.pts[k] ∈ g.pts := List.getElem_mem _
    have hb1 : (resB g.pts[k] && decide (g.pts[k] ≠ g.sec)) = false → stageB g = false := by
      intro hf
      have : (g.pts.all fun p => resB p && decide (p ≠ g.sec)) = false := by
        rw [Bool.eq_false_iff]; intro ha; rw [List.all_eq_true] at ha; rw [ha _ hmem] at hf; cases hf
      simp only [stageB, this, Bool.false_and]
    have hb2 : g.pts[k] ∈ g.pts.take k → stageB g = false := by
      intro hm
      have : ¬ g.pts.Nodup := by
        intro hn
        have hx : g.pts = g.pts.take k ++ g.pts[k] :: g.pts.drop (k + 1) := by rw [← List.drop_eq_getElem_cons hlt', List.take_append_drop]
        rw [hx, List.nodup_append] at hn
        exact hn.2.2 _ hm _ (List.mem_cons_self) rfl
      simp only [stageB, this, decide_false, Bool.and_false, Bool.false_and]
    cases c1 : resB g.pts[k] with
    | false =>
      (refine EX.rg (by intro KK hkk; unfold f59_r4; simp only [SX, Nat.reduceEqDiff, ↓reduceIte, Nat.reduceSub, Nat.reduceAdd, Nat.reduceLT, Nat.reduceLeDiff, I.quiet, false_implies, implies_true, -List.reduceReplicate, c1]; refine RO_callvS (f94_ok) ?_; simp only [SX, Nat.reduceEqDiff, ↓reduceIte, Nat.reduceSub, Nat.reduceAdd, Nat.reduceLT, Nat.reduceLeDiff, I.quiet, false_implies, implies_true, -List.reduceReplicate, c1]; exact hkk) ?_)
      refine EX.condT rfl ?_
      (refine EX.rg (by intro KK hkk; unfold f59_r5; simp only [SX, Nat.reduceEqDiff, ↓reduceIte, Nat.reduceSub, Nat.reduceAdd, Nat.reduceLT, Nat.reduceLeDiff, I.quiet, false_implies, implies_true, -List.reduceReplicate]; exact hkk) ?_)
      ((with_reducible repeat first|apply EX.seq|apply EX.blk); refine EX.ret ?_; (with_reducible repeat first|apply nA|apply nB|apply nC|apply nD|apply nE|apply nF|apply nG (by decide)|apply nH|apply nI|apply nJ); refine ⟨_, rfl, ?_⟩; simp only [packV, upd, Nat.reduceEqDiff, reduceIte, if_true, if_false, Nat.one_ne_zero, Nat.zero_ne_one])
      exact ⟨by rw [hb1 (by rw [c1]; rfl)], _, rfl⟩
    | true =>
      by_cases c2 : g.pts[k] = g.sec
      · (refine EX.rg (by intro KK hkk; unfold f59_r4; simp only [SX, Nat.reduceEqDiff, ↓reduceIte, Nat.reduceSub, Nat.reduceAdd, Nat.reduceLT, Nat.reduceLeDiff, I.quiet, false_implies, implies_true, -List.reduceReplicate, c1, decide_eq_true c2]; refine RO_callvS (f94_ok) ?_; simp only [SX, Nat.reduceEqDiff, ↓reduceIte, Nat.reduceSub, Nat.reduceAdd, Nat.reduceLT, Nat.reduceLeDiff, I.quiet, false_implies, implies_true, -List.reduceReplicate, c1, decide_eq_true c2]; exact hkk) ?_)
        refine EX.condT rfl ?_
        (refine EX.rg (by intro KK hkk; unfold f59_r5; simp only [SX, Nat.reduceEqDiff, ↓reduceIte, Nat.reduceSub, Nat.reduceAdd, Nat.reduceLT, Nat.reduceLeDiff, I.quiet, false_implies, implies_true, -List.reduceReplicate]; exact hkk) ?_)
        ((with_reducible repeat first|apply EX.seq|apply EX.blk); refine EX.ret ?_; (with_reducible repeat first|apply nA|apply nB|apply nC|apply nD|apply nE|apply nF|apply nG (by decide)|apply nH|apply nI|apply nJ); refine ⟨_, rfl, ?_⟩; simp only [packV, upd, Nat.reduceEqDiff, reduceIte, if_true, if_false, Nat.one_ne_zero, Nat.zero_ne_one])
        exact ⟨by rw [hb1 (by simp [c2])], _, rfl⟩
      · have s1 : sls1 1 (L g.pts) none (some (.int .i64 (k : Nat))) (h.app [some (.row 65 0 [.int .i64 g.sec, L g.pts, .int .i64 g.min, .int .i64 g.not])]) = _ := sls1_Ll w1i (by omega) (show (k : Int).toNat ≤ _ by omega)
        have hv : stageB g = true → g.pts[k] ∉ g.pts.take k := fun a b => by rw [hb2 b] at a; cases a
        cases c3 : decide (g.pts[k] ∈ g.pts.take k) with
        | true =>
          (refine EX.rg (by intro KK hkk; unfold f59_r4; simp only [SX, Nat.reduceEqDiff, ↓reduceIte, Nat.reduceSub, Nat.reduceAdd, Nat.reduceLT, Nat.reduceLeDiff, I.quiet, false_implies, implies_true, -List.reduceReplicate, c1, decide_eq_false c2, s1, c3]; refine RO_callvS (f94_ok) ?_; simp only [SX, Nat.reduceEqDiff, ↓reduceIte, Nat.reduceSub, Nat.reduceAdd, Nat.reduceLT, Nat.reduceLeDiff, I.quiet, false_implies, implies_true, -List.reduceReplicate, c1, decide_eq_false c2, s1, c3]; refine RO_callvS (f95_ok) ?_; simp only [SX, Nat.reduceEqDiff, ↓reduceIte, Nat.reduceSub, Nat.reduceAdd, Nat.reduceLT, Nat.reduceLeDiff, I.quiet, false_implies, implies_true, -List.reduceReplicate, c1, decide_eq_false c2, s1, c3]; exact hkk) ?_)
          refine EX.condT rfl ?_
          (refine EX.rg (by intro KK hkk; unfold f59_r5; simp only [SX, Nat.reduceEqDiff, ↓reduceIte, Nat.reduceSub, Nat.reduceAdd, Nat.reduceLT, Nat.reduceLeDiff, I.quiet, false_implies, implies_true, -List.reduceReplicate]; exact hkk) ?_)
          ((with_reducible repeat first|apply EX.seq|apply EX.blk); refine EX.ret ?_; (with_reducible repeat first|apply nA|apply nB|apply nC|apply nD|apply nE|apply nF|apply nG (by decide)|apply nH|apply nI|apply nJ); refine ⟨_, rfl, ?_⟩; simp only [packV, upd, Nat.reduceEqDiff, reduceIte, if_true, if_false, Nat.one_ne_zero, Nat.zero_ne_one])
          exact ⟨by rw [hb2 (of_decide_eq_true c3)], _, rfl⟩
        | false =>
          have c4 := of_decide_eq_false c3
          (refine EX.rg (by intro KK hkk; unfold f59_r4; simp only [SX, Nat.reduceEqDiff, ↓reduceIte, Nat.reduceSub, Nat.reduceAdd, Nat.reduceLT, Nat.reduceLeDiff, I.quiet, false_implies, implies_true, -List.reduceReplicate, c1, decide_eq_false c2, s1, c3]; refine RO_callvS (f94_ok) ?_; simp only [SX, Nat.reduceEqDiff, ↓reduceIte, Nat.reduceSub, Nat.reduceAdd, Nat.reduceLT, Nat.reduceLeDiff, I.quiet, false_implies, implies_true, -List.reduceReplicate, c1, decide_eq_false c2, s1, c3]; refine RO_callvS (f95_ok) ?_; simp only [SX, Nat.reduceEqDiff, ↓reduceIte, Nat.reduceSub, Nat.reduceAdd, Nat.reduceLT, Nat.reduceLeDiff, I.quiet, false_implies, implies_true, -List.reduceReplicate, c1, decide_eq_false c2, s1, c3]; exact hkk) ?_)
          refine EX.condF rfl ?_
          (refine EX.skip ?_; (with_reducible repeat first|apply nA|apply nB|apply nC|apply nD|apply nE|apply nF|apply nG (by decide)|apply nH|apply nI|apply nJ))
          (refine EX.rg (by intro KK hkk; unfold f59_r6; simp only [SX, Nat.reduceEqDiff, ↓reduceIte, Nat.reduceSub, Nat.reduceAdd, Nat.reduceLT, Nat.reduceLeDiff, I.quiet, false_implies, implies_true, -List.reduceReplicate, wrap_nat (show k < 4611686018427387904 by omega)]; exact hkk) ?_)
          refine ⟨k + 1, ⟨by omega, ?_, ?_⟩, by omega, Less.wk (by (repeat refine Less.upd ?_ (by rfl)); exact Less.nil)⟩
          · show List.all _ _ = true
            rw [List.take_add_one, List.getElem?_eq_getElem hlt', List.all_append, hk1]
            simp [c1, c2]
          · show List.Nodup _
            rw [List.take_add_one, List.getElem?_eq_getElem hlt', List.nodup_append]
            refine ⟨hk2, by simp, ?_⟩
            intro a ha b hb hab
            simp at hb
            exact c4 (by rw [← hb, ← hab]; exact ha)
  · (refine EX.exit ?_; (with_reducible repeat first|apply nA|apply nB|apply nC|apply nD|apply nE|apply nF|apply nG (by decide)|apply nH|apply nI|apply nJ))
    have e : k = g.pts.length := by omega
    subst e
    rw [List.take_length] at hk1 hk2
    have hst : stageB g = (resB g.sec && decide (g.pts.length ≤ 2) && clockB g.min && clockB g.not) := by simp only [stageB, hk1, hk2, decide_true, Bool.true_and]
    rw [hst]
    cases c1 : resB g.sec with
    | false =>
      (refine EX.rg (by intro KK hkk; unfold f59_r7; simp only [SX, Nat.reduceEqDiff, ↓reduceIte, Nat.reduceSub, Nat.reduceAdd, Nat.reduceLT, Nat.reduceLeDiff, I.quiet, false_implies, implies_true, -List.reduceReplicate, c1]; refine RO_callvS (f94_ok) ?_; simp only [SX, Nat.reduceEqDiff, ↓reduceIte, Nat.reduceSub, Nat.reduceAdd, Nat.reduceLT, Nat.reduceLeDiff, I.quiet, false_implies, implies_true, -List.reduceReplicate, c1]; exact hkk) ?_)
      ((with_reducible repeat first|apply EX.seq|apply EX.blk); refine EX.ret ?_; (with_reducible repeat first|apply nA|apply nB|apply nC|apply nD|apply nE|apply nF|apply nG (by decide)|apply nH|apply nI|apply nJ); refine ⟨_, rfl, ?_⟩; simp only [packV, upd, Nat.reduceEqDiff, reduceIte, if_true, if_false, Nat.one_ne_zero, Nat.zero_ne_one])
      exact ⟨by simp, _, rfl⟩
    | true =>
      cases c2 : decide (g.pts.length ≤ 2) with
      | false =>
        have c2' : decide ((g.pts.length : Int) ≤ 2) = false := by have := of_decide_eq_false c2; exact decide_eq_false (by omega)
        (refine EX.rg (by intro KK hkk; unfold f59_r7; simp only [SX, Nat.reduceEqDiff, ↓reduceIte, Nat.reduceSub, Nat.reduceAdd, Nat.reduceLT, Nat.reduceLeDiff, I.quiet, false_implies, implies_true, -List.reduceReplicate, c1, c2']; refine RO_callvS (f94_ok) ?_; simp only [SX, Nat.reduceEqDiff, ↓reduceIte, Nat.reduceSub, Nat.reduceAdd, Nat.reduceLT, Nat.reduceLeDiff, I.quiet, false_implies, implies_true, -List.reduceReplicate, c1, c2']; exact hkk) ?_)
        ((with_reducible repeat first|apply EX.seq|apply EX.blk); refine EX.ret ?_; (with_reducible repeat first|apply nA|apply nB|apply nC|apply nD|apply nE|apply nF|apply nG (by decide)|apply nH|apply nI|apply nJ); refine ⟨_, rfl, ?_⟩; simp only [packV, upd, Nat.reduceEqDiff, reduceIte, if_true, if_false, Nat.one_ne_zero, Nat.zero_ne_one])
        exact ⟨by simp, _, rfl⟩
      | true =>
        have c2' : decide ((g.pts.length : Int) ≤ 2) = true := by have := of_decide_eq_true c2; exact decide_eq_true (by omega)
        cases c3 : clockB g.min with
        | false =>
          (refine EX.rg (by intro KK hkk; unfold f59_r7; simp only [SX, Nat.reduceEqDiff, ↓reduceIte, Nat.reduceSub, Nat.reduceAdd, Nat.reduceLT, Nat.reduceLeDiff, I.quiet, false_implies, implies_true, -List.reduceReplicate, c1, c2', c3]; refine RO_callvS (f94_ok) ?_; simp only [SX, Nat.reduceEqDiff, ↓reduceIte, Nat.reduceSub, Nat.reduceAdd, Nat.reduceLT, Nat.reduceLeDiff, I.quiet, false_implies, implies_true, -List.reduceReplicate, c1, c2', c3]; refine RO_callvS (f82_ok) ?_; simp only [SX, Nat.reduceEqDiff, ↓reduceIte, Nat.reduceSub, Nat.reduceAdd, Nat.reduceLT, Nat.reduceLeDiff, I.quiet, false_implies, implies_true, -List.reduceReplicate, c1, c2', c3]; exact hkk) ?_)
          ((with_reducible repeat first|apply EX.seq|apply EX.blk); refine EX.ret ?_; (with_reducible repeat first|apply nA|apply nB|apply nC|apply nD|apply nE|apply nF|apply nG (by decide)|apply nH|apply nI|apply nJ); refine ⟨_, rfl, ?_⟩; simp only [packV, upd, Nat.reduceEqDiff, reduceIte, if_true, if_false, Nat.one_ne_zero, Nat.zero_ne_one])
          exact ⟨by simp, _, rfl⟩
        | true =>
          cases c4 : clockB g.not with
          | false =>
            (refine EX.rg (by intro KK hkk; unfold f59_r7; simp only [SX, Nat.reduceEqDiff, ↓reduceIte, Nat.reduceSub, Nat.reduceAdd, Nat.reduceLT, Nat.reduceLeDiff, I.quiet, false_implies, implies_true, -List.reduceReplicate, c1, c2', c3, c4]; refine RO_callvS (f94_ok) ?_; simp only [SX, Nat.reduceEqDiff, ↓reduceIte, Nat.reduceSub, Nat.reduceAdd, Nat.reduceLT, Nat.reduceLeDiff, I.quiet, false_implies, implies_true, -List.reduceReplicate, c1, c2', c3, c4]; refine RO_callvS (f82_ok) ?_; simp only [SX, Nat.reduceEqDiff, ↓reduceIte, Nat.reduceSub, Nat.reduceAdd, Nat.reduceLT, Nat.reduceLeDiff, I.quiet, false_implies, implies_true, -List.reduceReplicate, c1, c2', c3, c4]; refine RO_callvS (f82_ok) ?_; simp only [SX, Nat.reduceEqDiff, ↓reduceIte, Nat.reduceSub, Nat.reduceAdd, Nat.reduceLT, Nat.reduceLeDiff, I.quiet, false_implies, implies_true, -List.reduceReplicate, c1, c2', c3, c4]; exact hkk) ?_)
            ((with_reducible repeat first|apply EX.seq|apply EX.blk); refine EX.ret ?_; (with_reducible repeat first|apply nA|apply nB|apply nC|apply nD|apply nE|apply nF|apply nG (by decide)|apply nH|apply nI|apply nJ); refine ⟨_, rfl, ?_⟩; simp only [packV, upd, Nat.reduceEqDiff, reduceIte, if_true, if_false, Nat.one_ne_zero, Nat.zero_ne_one])
            exact ⟨by simp, _, rfl⟩
          | true =>
            (refine EX.rg (by intro KK hkk; unfold f59_r7; simp only [SX, Nat.reduceEqDiff, ↓reduceIte, Nat.reduceSub, Nat.reduceAdd, Nat.reduceLT, Nat.reduceLeDiff, I.quiet, false_implies, implies_true, -List.reduceReplicate, c1, c2', c3, c4]; refine RO_callvS (f94_ok) ?_; simp only [SX, Nat.reduceEqDiff, ↓reduceIte, Nat.reduceSub, Nat.reduceAdd, Nat.reduceLT, Nat.reduceLeDiff, I.quiet, false_implies, implies_true, -List.reduceReplicate, c1, c2', c3, c4]; refine RO_callvS (f82_ok) ?_; simp only [SX, Nat.reduceEqDiff, ↓reduceIte, Nat.reduceSub, Nat.reduceAdd, Nat.reduceLT, Nat.reduceLeDiff, I.quiet, false_implies, implies_true, -List.reduceReplicate, c1, c2', c3, c4]; refine RO_callvS (f82_ok) ?_; simp only [SX, Nat.reduceEqDiff, ↓reduceIte, Nat.reduceSub, Nat.reduceAdd, Nat.reduceLT, Nat.reduceLeDiff, I.quiet, false_implies, implies_true, -List.reduceReplicate, c1, c2', c3, c4]; exact hkk) ?_)
            ((with_reducible repeat first|apply EX.seq|apply EX.blk); refine EX.ret ?_; (with_reducible repeat first|apply nA|apply nB|apply nC|apply nD|apply nE|apply nF|apply nG (by decide)|apply nH|apply nI|apply nJ); refine ⟨_, rfl, ?_⟩; simp only [packV, upd, Nat.reduceEqDiff, reduceIte, if_true, if_false, Nat.one_ne_zero, Nat.zero_ne_one])
            exact ⟨by simp, _, rfl⟩
/-- 'validStage'. -/
theorem f60_ok {g : Stg} (la : g.pts.length < 4611686018427387904) : AC Go.Proofs.Try.prog 60 [.agg [.int .i64 g.sec, L g.pts, .int .i64 g.min, .int .i64 g.not].toArray] h (.bool (stageB g)) h := by
  refine AC.wf fun hw => AC.of_app hw Cl.bool (EC.intro f60_is ?_)
  unfold f60_c
  (refine EX.rg (by intro KK hkk; unfold f60_r0; simp only [SX, Nat.reduceEqDiff, ↓reduceIte, Nat.reduceSub, Nat.reduceAdd, Nat.reduceLT, Nat.reduceLeDiff, I.quiet, false_implies, implies_true, -List.reduceReplicate, new_app hw]; exact hkk) ?_)
  cases c1 : resB g.sec with
  | false =>
    (refine EX.rg (by intro KK hkk; unfold f60_r1; simp only [SX, Nat.reduceEqDiff, ↓reduceIte, Nat.reduceSub, Nat.reduceAdd, Nat.reduceLT, Nat.reduceLeDiff, I.quiet, false_implies, implies_true, -List.reduceReplicate, c1]; refine RO_callvS (f96_ok) ?_; simp only [SX, Nat.reduceEqDiff, ↓reduceIte, Nat.reduceSub, Nat.reduceAdd, Nat.reduceLT, Nat.reduceLeDiff, I.quiet, false_implies, implies_true, -List.reduceReplicate, c1]; exact hkk) ?_)
    refine EX.condT rfl ?_
    (refine EX.rg (by intro KK hkk; unfold f60_r2; simp only [SX, Nat.reduceEqDiff, ↓reduceIte, Nat.reduceSub, Nat.reduceAdd, Nat.reduceLT, Nat.reduceLeDiff, I.quiet, false_implies, implies_true, -List.reduceReplicate]; exact hkk) ?_)
    ((with_reducible repeat first|apply EX.seq|apply EX.blk); refine EX.ret ?_; (with_reducible repeat first|apply nA|apply nB|apply nC|apply nD|apply nE|apply nF|apply nG (by decide)|apply nH|apply nI|apply nJ); refine ⟨_, rfl, ?_⟩; simp only [packV, upd, Nat.reduceEqDiff, reduceIte, if_true, if_false, Nat.one_ne_zero, Nat.zero_ne_one])
    exact ⟨by simp [stageB, c1], _, rfl⟩
  | true =>
  cases c2 : decide (g.pts.length ≤ 2) with
  | false =>
    have c2' : decide (2 < (g.pts.length : Int)) = true := by have := of_decide_eq_false c2; exact decide_eq_true (by omega)
    (refine EX.rg (by intro KK hkk; unfold f60_r1; simp only [SX, Nat.reduceEqDiff, ↓reduceIte, Nat.reduceSub, Nat.reduceAdd, Nat.reduceLT, Nat.reduceLeDiff, I.quiet, false_implies, implies_true, -List.reduceReplicate, c1, c2']; refine RO_callvS (f96_ok) ?_; simp only [SX, Nat.reduceEqDiff, ↓reduceIte, Nat.reduceSub, Nat.reduceAdd, Nat.reduceLT, Nat.reduceLeDiff, I.quiet, false_implies, implies_true, -List.reduceReplicate, c1, c2']; exact hkk) ?_)
    refine EX.condT rfl ?_
    (refine EX.rg (by intro KK hkk; unfold f60_r2; simp only [SX, Nat.reduceEqDiff, ↓reduceIte, Nat.reduceSub, Nat.reduceAdd, Nat.reduceLT, Nat.reduceLeDiff, I.quiet, false_implies, implies_true, -List.reduceReplicate]; exact hkk) ?_)
    ((with_reducible repeat first|apply EX.seq|apply EX.blk); refine EX.ret ?_; (with_reducible repeat first|apply nA|apply nB|apply nC|apply nD|apply nE|apply nF|apply nG (by decide)|apply nH|apply nI|apply nJ); refine ⟨_, rfl, ?_⟩; simp only [packV, upd, Nat.reduceEqDiff, reduceIte, if_true, if_false, Nat.one_ne_zero, Nat.zero_ne_one])
    exact ⟨by simp only [stageB, c2, Bool.and_false, Bool.false_and], _, rfl⟩
  | true =>
  have c2' : decide (2 < (g.pts.length : Int)) = false := by have := of_decide_eq_true c2; exact decide_eq_false (by omega)
  cases c3 : clockB g.min with
  | false =>
    (refine EX.rg (by intro KK hkk; unfold f60_r1; simp only [SX, Nat.reduceEqDiff, ↓reduceIte, Nat.reduceSub, Nat.reduceAdd, Nat.reduceLT, Nat.reduceLeDiff, I.quiet, false_implies, implies_true, -List.reduceReplicate, c1, c2', c3]; refine RO_callvS (f96_ok) ?_; simp only [SX, Nat.reduceEqDiff, ↓reduceIte, Nat.reduceSub, Nat.reduceAdd, Nat.reduceLT, Nat.reduceLeDiff, I.quiet, false_implies, implies_true, -List.reduceReplicate, c1, c2', c3]; refine RO_callvS (f83_ok) ?_; simp only [SX, Nat.reduceEqDiff, ↓reduceIte, Nat.reduceSub, Nat.reduceAdd, Nat.reduceLT, Nat.reduceLeDiff, I.quiet, false_implies, implies_true, -List.reduceReplicate, c1, c2', c3]; exact hkk) ?_)
    refine EX.condT rfl ?_
    (refine EX.rg (by intro KK hkk; unfold f60_r2; simp only [SX, Nat.reduceEqDiff, ↓reduceIte, Nat.reduceSub, Nat.reduceAdd, Nat.reduceLT, Nat.reduceLeDiff, I.quiet, false_implies, implies_true, -List.reduceReplicate]; exact hkk) ?_)
    ((with_reducible repeat first|apply EX.seq|apply EX.blk); refine EX.ret ?_; (with_reducible repeat first|apply nA|apply nB|apply nC|apply nD|apply nE|apply nF|apply nG (by decide)|apply nH|apply nI|apply nJ); refine ⟨_, rfl, ?_⟩; simp only [packV, upd, Nat.reduceEqDiff, reduceIte, if_true, if_false, Nat.one_ne_zero, Nat.zero_ne_one])
    exact ⟨by simp [stageB, c3], _, rfl⟩
  | true =>
  cases c4 : clockB g.not with
  | false =>
    (refine EX.rg (by intro KK hkk; unfold f60_r1; simp only [SX, Nat.reduceEqDiff, ↓reduceIte, Nat.reduceSub, Nat.reduceAdd, Nat.reduceLT, Nat.reduceLeDiff, I.quiet, false_implies, implies_true, -List.reduceReplicate, c1, c2', c3, c4]; refine RO_callvS (f96_ok) ?_; simp only [SX, Nat.reduceEqDiff, ↓reduceIte, Nat.reduceSub, Nat.reduceAdd, Nat.reduceLT, Nat.reduceLeDiff, I.quiet, false_implies, implies_true, -List.reduceReplicate, c1, c2', c3, c4]; refine RO_callvS (f83_ok) ?_; simp only [SX, Nat.reduceEqDiff, ↓reduceIte, Nat.reduceSub, Nat.reduceAdd, Nat.reduceLT, Nat.reduceLeDiff, I.quiet, false_implies, implies_true, -List.reduceReplicate, c1, c2', c3, c4]; refine RO_callvS (f83_ok) ?_; simp only [SX, Nat.reduceEqDiff, ↓reduceIte, Nat.reduceSub, Nat.reduceAdd, Nat.reduceLT, Nat.reduceLeDiff, I.quiet, false_implies, implies_true, -List.reduceReplicate, c1, c2', c3, c4]; exact hkk) ?_)
    refine EX.condT rfl ?_
    (refine EX.rg (by intro KK hkk; unfold f60_r2; simp only [SX, Nat.reduceEqDiff, ↓reduceIte, Nat.reduceSub, Nat.reduceAdd, Nat.reduceLT, Nat.reduceLeDiff, I.quiet, false_implies, implies_true, -List.reduceReplicate]; exact hkk) ?_)
    ((with_reducible repeat first|apply EX.seq|apply EX.blk); refine EX.ret ?_; (with_reducible repeat first|apply nA|apply nB|apply nC|apply nD|apply nE|apply nF|apply nG (by decide)|apply nH|apply nI|apply nJ); refine ⟨_, rfl, ?_⟩; simp only [packV, upd, Nat.reduceEqDiff, reduceIte, if_true, if_false, Nat.one_ne_zero, Nat.zero_ne_one])
    exact ⟨by simp [stageB, c4], _, rfl⟩
  | true =>
  have hle := of_decide_eq_true c2
  (refine EX.rg (by intro KK hkk; unfold f60_r1; simp only [SX, Nat.reduceEqDiff, ↓reduceIte, Nat.reduceSub, Nat.reduceAdd, Nat.reduceLT, Nat.reduceLeDiff, I.quiet, false_implies, implies_true, -List.reduceReplicate, c1, c2', c3, c4]; refine RO_callvS (f96_ok) ?_; simp only [SX, Nat.reduceEqDiff, ↓reduceIte, Nat.reduceSub, Nat.reduceAdd, Nat.reduceLT, Nat.reduceLeDiff, I.quiet, false_implies, implies_true, -List.reduceReplicate, c1, c2', c3, c4]; refine RO_callvS (f83_ok) ?_; simp only [SX, Nat.reduceEqDiff, ↓reduceIte, Nat.reduceSub, Nat.reduceAdd, Nat.reduceLT, Nat.reduceLeDiff, I.quiet, false_implies, implies_true, -List.reduceReplicate, c1, c2', c3, c4]; refine RO_callvS (f83_ok) ?_; simp only [SX, Nat.reduceEqDiff, ↓reduceIte, Nat.reduceSub, Nat.reduceAdd, Nat.reduceLT, Nat.reduceLeDiff, I.quiet, false_implies, implies_true, -List.reduceReplicate, c1, c2', c3, c4]; exact hkk) ?_)
  refine EX.condF rfl ?_
  (refine EX.skip ?_; (with_reducible repeat first|apply nA|apply nB|apply nC|apply nD|apply nE|apply nF|apply nG (by decide)|apply nH|apply nI|apply nJ))
  (refine EX.rg (by intro KK hkk; unfold f60_r3; simp only [SX, Nat.reduceEqDiff, ↓reduceIte, Nat.reduceSub, Nat.reduceAdd, Nat.reduceLT, Nat.reduceLeDiff, I.quiet, false_implies, implies_true, -List.reduceReplicate]; exact hkk) ?_)
  (with_reducible repeat first|apply EX.seq|apply EX.blk)
  refine EX.loop (fun k => upd (upd (upd (upd TE 1 (.pointer (some ⟨h.next, 0, none⟩))) 28 (L g.pts)) 29 (.int .i64 g.pts.length)) 30 (.int .i64 (k : Nat))) (fun _ => h.app [some (.row 65 0 [.int .i64 g.sec, L g.pts, .int .i64 g.min, .int .i64 g.not])]) (fun k => k ≤ g.pts.length ∧ (g.pts.take k).all (fun p => resB p && decide (p ≠ g.sec)) = true ∧ (g.pts.take k).Nodup) (fun k => g.pts.length - k) 0 (by simp) (Less.wk (by (repeat refine Less.upd ?_ (by rfl)); exact Less.nil)) ?_
  intro k ⟨hk, hk1, hk2⟩
  (refine EX.rg (by intro KK hkk; unfold f60_r4; simp only [SX, Nat.reduceEqDiff, ↓reduceIte, Nat.reduceSub, Nat.reduceAdd, Nat.reduceLT, Nat.reduceLeDiff, I.quiet, false_implies, implies_true, -List.reduceReplicate, lt_nat]; exact hkk) ?_)
  (with_reducible repeat first|apply EX.seq|apply EX.blk)
  refine EX.dec rfl (fun hlt => ?_) (fun hlt => ?_)
  · (refine EX.skip ?_; (with_reducible repeat first|apply nA|apply nB|apply nC|apply nD|apply nE|apply nF|apply nG (by decide)|apply nH|apply nI|apply nJ))
    have hlt' : k < g.pts.length := hlt
    (refine EX.rg (by intro KK hkk; unfold f60_r5; simp only [SX, Nat.reduceEqDiff, ↓reduceIte, Nat.reduceSub, Nat.reduceAdd, Nat.reduceLT, Nat.reduceLeDiff, I.quiet, false_implies, implies_true, -List.reduceReplicate, hlt', ld1_ef hlt' o1i, rd_eq hlt']; exact hkk) ?_)
    have hmem : g.pts[k] ∈ g.pts := List.getElem_mem _
    have hb1 : (resB g.pts[k] && decide (g.pts[k] ≠ g.sec)) = false → stageB g = false := by
      intro hf
      have : (g.pts.all fun p => resB p && decide (p ≠ g.sec)) = false := by
        rw [Bool.eq_false_iff]; intro ha; rw [List.all_eq_true] at ha; rw [ha _ hmem] at hf; cases hf
      simp only [stageB, this, Bool.false_and]
    have hb2 : g.pts[k] ∈ g.pts.take k → stageB g = false := by
      intro hm
      have : ¬ g.pts.Nodup := by
        intro hn
        have hx : g.pts = g.pts.take k ++ g.pts[k] :: g.pts.drop (k + 1) := by rw [← List.drop_eq_getElem_cons hlt', List.take_append_drop]
        rw [hx, List.nodup_append] at hn
        exact hn.2.2 _ hm _ (List.mem_cons_self) rfl
      simp only [stageB, this, decide_false, Bool.and_false, Bool.false_and]
    have fin : resB g.pts[k] = true → g.pts[k] ≠ g.sec → g.pts[k] ∉ g.pts.take k → (g.pts.take (k + 1)).all (fun p => resB p && decide (p ≠ g.sec)) = true ∧ (g.pts.take (k + 1)).Nodup := by
      intro d1 d2 d3
      refine ⟨?_, ?_⟩
      · rw [List.take_add_one, List.getElem?_eq_getElem hlt', List.all_append, hk1]
        simp [d1, d2]
      · rw [List.take_add_one, List.getElem?_eq_getElem hlt', List.nodup_append]
        refine ⟨hk2, by simp, ?_⟩
        intro a ha b hb hab
        simp at hb
        exact d3 (by rw [← hb, ← hab]; exact ha)
    cases c5 : resB g.pts[k] with
    | false =>
      (refine EX.rg (by intro KK hkk; unfold f60_r6; simp only [SX, Nat.reduceEqDiff, ↓reduceIte, Nat.reduceSub, Nat.reduceAdd, Nat.reduceLT, Nat.reduceLeDiff, I.quiet, false_implies, implies_true, -List.reduceReplicate, c5]; refine RO_callvS (f96_ok) ?_; simp only [SX, Nat.reduceEqDiff, ↓reduceIte, Nat.reduceSub, Nat.reduceAdd, Nat.reduceLT, Nat.reduceLeDiff, I.quiet, false_implies, implies_true, -List.reduceReplicate, c5]; exact hkk) ?_)
      refine EX.condT rfl ?_
      (refine EX.rg (by intro KK hkk; unfold f60_r7; simp only [SX, Nat.reduceEqDiff, ↓reduceIte, Nat.reduceSub, Nat.reduceAdd, Nat.reduceLT, Nat.reduceLeDiff, I.quiet, false_implies, implies_true, -List.reduceReplicate]; exact hkk) ?_)
      ((with_reducible repeat first|apply EX.seq|apply EX.blk); refine EX.ret ?_; (with_reducible repeat first|apply nA|apply nB|apply nC|apply nD|apply nE|apply nF|apply nG (by decide)|apply nH|apply nI|apply nJ); refine ⟨_, rfl, ?_⟩; simp only [packV, upd, Nat.reduceEqDiff, reduceIte, if_true, if_false, Nat.one_ne_zero, Nat.zero_ne_one])
      exact ⟨by rw [hb1 (by rw [c5]; rfl)], _, rfl⟩
    | true =>
    cases c6 : decide (g.pts[k] = g.sec) with
    | true =>
      have c6' := of_decide_eq_true c6
      (refine EX.rg (by intro KK hkk; unfold f60_r6; simp only [SX, Nat.reduceEqDiff, ↓reduceIte, Nat.reduceSub, Nat.reduceAdd, Nat.reduceLT, Nat.reduceLeDiff, I.quiet, false_implies, implies_true, -List.reduceReplicate, c5, c6]; refine RO_callvS (f96_ok) ?_; simp only [SX, Nat.reduceEqDiff, ↓reduceIte, Nat.reduceSub, Nat.reduceAdd, Nat.reduceLT, Nat.reduceLeDiff, I.quiet, false_implies, implies_true, -List.reduceReplicate, c5, c6]; exact hkk) ?_)
      refine EX.condT rfl ?_
      (refine EX.rg (by intro KK hkk; unfold f60_r7; simp only [SX, Nat.reduceEqDiff, ↓reduceIte, Nat.reduceSub, Nat.reduceAdd, Nat.reduceLT, Nat.reduceLeDiff, I.quiet, false_implies, implies_true, -List.reduceReplicate]; exact hkk) ?_)
      ((with_reducible repeat first|apply EX.seq|apply EX.blk); refine EX.ret ?_; (with_reducible repeat first|apply nA|apply nB|apply nC|apply nD|apply nE|apply nF|apply nG (by decide)|apply nH|apply nI|apply nJ); refine ⟨_, rfl, ?_⟩; simp only [packV, upd, Nat.reduceEqDiff, reduceIte, if_true, if_false, Nat.one_ne_zero, Nat.zero_ne_one])
      exact ⟨by rw [hb1 (by simp [c6'])], _, rfl⟩
    | false =>
    have c6' := of_decide_eq_false c6
    by_cases hk0 : k = 0
    · subst hk0
      have z : decide ((0 : Int) < ((0 : Nat) : Int)) = false := rfl
      (refine EX.rg (by intro KK hkk; unfold f60_r6; simp only [SX, Nat.reduceEqDiff, ↓reduceIte, Nat.reduceSub, Nat.reduceAdd, Nat.reduceLT, Nat.reduceLeDiff, I.quiet, false_implies, implies_true, -List.reduceReplicate, c5, c6, z]; refine RO_callvS (f96_ok) ?_; simp only [SX, Nat.reduceEqDiff, ↓reduceIte, Nat.reduceSub, Nat.reduceAdd, Nat.reduceLT, Nat.reduceLeDiff, I.quiet, false_implies, implies_true, -List.reduceReplicate, c5, c6, z]; exact hkk) ?_)
      refine EX.condF rfl ?_
      (refine EX.skip ?_; (with_reducible repeat first|apply nA|apply nB|apply nC|apply nD|apply nE|apply nF|apply nG (by decide)|apply nH|apply nI|apply nJ))
      (refine EX.rg (by intro KK hkk; unfold f60_r8; simp only [SX, Nat.reduceEqDiff, ↓reduceIte, Nat.reduceSub, Nat.reduceAdd, Nat.reduceLT, Nat.reduceLeDiff, I.quiet, false_implies, implies_true, -List.reduceReplicate, wrap_nat (show 0 < 4611686018427387904 by omega)]; exact hkk) ?_)
      have := fin c5 c6' (by simp)
      exact ⟨1, ⟨by omega, this⟩, by omega, Less.wk (by (repeat refine Less.upd ?_ (by rfl)); exact Less.nil)⟩
    · obtain rfl : k = 1 := by omega
      have z : decide ((0 : Int) < ((1 : Nat) : Int)) = true := rfl
      have h0p : 0 < g.pts.length := by omega
      have ht : g.pts.take 1 = [g.pts[0]] := by
        rw [List.take_one]; rw [List.head?_eq_getElem?, List.getElem?_eq_getElem (show 0 < g.pts.length by omega)]; rfl
      cases c7 : decide (g.pts[1] = g.pts[0]) with
      | true =>
        have c7' := of_decide_eq_true c7
        (refine EX.rg (by intro KK hkk; unfold f60_r6; simp only [SX, Nat.reduceEqDiff, ↓reduceIte, Nat.reduceSub, Nat.reduceAdd, Nat.reduceLT, Nat.reduceLeDiff, I.quiet, false_implies, implies_true, -List.reduceReplicate, c5, c6, z, c7, h0p, Int.le_refl, Int.toNat_zero, ld1_ef h0p o1i, rd_eq h0p]; refine RO_callvS (f96_ok) ?_; simp only [SX, Nat.reduceEqDiff, ↓reduceIte, Nat.reduceSub, Nat.reduceAdd, Nat.reduceLT, Nat.reduceLeDiff, I.quiet, false_implies, implies_true, -List.reduceReplicate, c5, c6, z, c7, h0p, Int.le_refl, Int.toNat_zero, ld1_ef h0p o1i, rd_eq h0p]; exact hkk) ?_)
        refine EX.condT rfl ?_
        (refine EX.rg (by intro KK hkk; unfold f60_r7; simp only [SX, Nat.reduceEqDiff, ↓reduceIte, Nat.reduceSub, Nat.reduceAdd, Nat.reduceLT, Nat.reduceLeDiff, I.quiet, false_implies, implies_true, -List.reduceReplicate]; exact hkk) ?_)
        ((with_reducible repeat first|apply EX.seq|apply EX.blk); refine EX.ret ?_; (with_reducible repeat first|apply nA|apply nB|apply nC|apply nD|apply nE|apply nF|apply nG (by decide)|apply nH|apply nI|apply nJ); refine ⟨_, rfl, ?_⟩; simp only [packV, upd, Nat.reduceEqDiff, reduceIte, if_true, if_false, Nat.one_ne_zero, Nat.zero_ne_one])
        exact ⟨by rw [hb2 (by rw [ht, c7']; simp)], _, rfl⟩
      | false =>
        have c7' := of_decide_eq_false c7
        (refine EX.rg (by intro KK hkk; unfold f60_r6; simp only [SX, Nat.reduceEqDiff, ↓reduceIte, Nat.reduceSub, Nat.reduceAdd, Nat.reduceLT, Nat.reduceLeDiff, I.quiet, false_implies, implies_true, -List.reduceReplicate, c5, c6, z, c7, h0p, Int.le_refl, Int.toNat_zero, ld1_ef h0p o1i, rd_eq h0p]; refine RO_callvS (f96_ok) ?_; simp only [SX, Nat.reduceEqDiff, ↓reduceIte, Nat.reduceSub, Nat.reduceAdd, Nat.reduceLT, Nat.reduceLeDiff, I.quiet, false_implies, implies_true, -List.reduceReplicate, c5, c6, z, c7, h0p, Int.le_refl, Int.toNat_zero, ld1_ef h0p o1i, rd_eq h0p]; exact hkk) ?_)
        refine EX.condF rfl ?_
        (refine EX.skip ?_; (with_reducible repeat first|apply nA|apply nB|apply nC|apply nD|apply nE|apply nF|apply nG (by decide)|apply nH|apply nI|apply nJ))
        (refine EX.rg (by intro KK hkk; unfold f60_r8; simp only [SX, Nat.reduceEqDiff, ↓reduceIte, Nat.reduceSub, Nat.reduceAdd, Nat.reduceLT, Nat.reduceLeDiff, I.quiet, false_implies, implies_true, -List.reduceReplicate, wrap_nat (show 1 < 4611686018427387904 by omega)]; exact hkk) ?_)
        have := fin c5 c6' (by rw [ht]; simpa using c7')
        exact ⟨2, ⟨by omega, this⟩, by omega, Less.wk (by (repeat refine Less.upd ?_ (by rfl)); exact Less.nil)⟩
  · (refine EX.exit ?_; (with_reducible repeat first|apply nA|apply nB|apply nC|apply nD|apply nE|apply nF|apply nG (by decide)|apply nH|apply nI|apply nJ))
    have e : k = g.pts.length := by omega
    subst e
    rw [List.take_length] at hk1 hk2
    have hst : stageB g = true := by simp only [stageB, hk1, hk2, c1, c2, c3, c4, decide_true, Bool.true_and]
    (refine EX.rg (by intro KK hkk; unfold f60_r9; simp only [SX, Nat.reduceEqDiff, ↓reduceIte, Nat.reduceSub, Nat.reduceAdd, Nat.reduceLT, Nat.reduceLeDiff, I.quiet, false_implies, implies_true, -List.reduceReplicate]; exact hkk) ?_)
    ((with_reducible repeat first|apply EX.seq|apply EX.blk); refine EX.ret ?_; (with_reducible repeat first|apply nA|apply nB|apply nC|apply nD|apply nE|apply nF|apply nG (by decide)|apply nH|apply nI|apply nJ); refine ⟨_, rfl, ?_⟩; simp only [packV, upd, Nat.reduceEqDiff, reduceIte, if_true, if_false, Nat.one_ne_zero, Nat.zero_ne_one])
    exact ⟨by rw [hst], _, rfl⟩
end
end Go.Proofs.Ythofdojknjhpgaa
set_option linter.unusedVariables false
set_option linter.unusedSimpArgs false
namespace Go.Proofs.Ythofdojknjhpgaa
open Go
def goodAt (ps : List (List Stg)) (xs : List Int) (k : Nat) : Bool := match xs[k]?, ps[k]? with
  | some x, some p => decide (-1 ≤ x) && decide (x ≤ p.length)
  | _, _ => false
def goodB (ps : List (List Stg)) (xs : List Int) : Bool := decide (xs.length = ps.length) && (List.range xs.length).all (goodAt ps xs)
section
variable {h : AH}
/-- 'good' of precedence. -/
theorem f68_ok {ps : List (List Stg)} {xs : List Int} : AC Go.Proofs.Try.prog 68 [L ps, L xs] h (.bool (goodB ps xs)) h := by
  refine AC.bd 0 rfl fun bp => AC.bd 1 rfl fun bx => ?_
  have la := bx.1
  refine AC.of_ec (EC.intro f68_is ?_)
  unfold f68_c
  (refine EX.rg (by intro KK hkk; unfold f68_r0; simp only [SX, Nat.reduceEqDiff, ↓reduceIte, Nat.reduceSub, Nat.reduceAdd, Nat.reduceLT, Nat.reduceLeDiff, I.quiet, false_implies, implies_true, -List.reduceReplicate]; exact hkk) ?_)
  (refine EX.rg (by intro KK hkk; unfold f68_r1; simp only [SX, Nat.reduceEqDiff, ↓reduceIte, Nat.reduceSub, Nat.reduceAdd, Nat.reduceLT, Nat.reduceLeDiff, I.quiet, false_implies, implies_true, -List.reduceReplicate]; exact hkk) ?_)
  refine EX.dec rfl (fun hne => ?_) (fun hne => ?_)
  · (refine EX.rg (by intro KK hkk; unfold f68_r2; simp only [SX, Nat.reduceEqDiff, ↓reduceIte, Nat.reduceSub, Nat.reduceAdd, Nat.reduceLT, Nat.reduceLeDiff, I.quiet, false_implies, implies_true, -List.reduceReplicate]; exact hkk) ?_)
    ((with_reducible repeat first|apply EX.seq|apply EX.blk); refine EX.ret ?_; (with_reducible repeat first|apply nA|apply nB|apply nC|apply nD|apply nE|apply nF|apply nG (by decide)|apply nH|apply nI|apply nJ); refine ⟨_, rfl, ?_⟩; simp only [packV, upd, Nat.reduceEqDiff, reduceIte, if_true, if_false, Nat.one_ne_zero, Nat.zero_ne_one])
    have : ¬ xs.length = ps.length := by omega
    simp [goodB, this]
  (refine EX.skip ?_; (with_reducible repeat first|apply nA|apply nB|apply nC|apply nD|apply nE|apply nF|apply nG (by decide)|apply nH|apply nI|apply nJ))
  have hl : xs.length = ps.length := by omega
  (refine EX.rg (by intro KK hkk; unfold f68_r3; simp only [SX, Nat.reduceEqDiff, ↓reduceIte, Nat.reduceSub, Nat.reduceAdd, Nat.reduceLT, Nat.reduceLeDiff, I.quiet, false_implies, implies_true, -List.reduceReplicate]; exact hkk) ?_)
  (with_reducible repeat first|apply EX.seq|apply EX.blk)
  refine EX.loop (fun k => upd (upd (upd (upd TE 0 (L ps)) 12 (L xs)) 13 (.int .i64 xs.length)) 14 (.int .i64 (k : Nat))) (fun _ => h) (fun k => k ≤ xs.length ∧ (List.range k).all (goodAt ps xs) = true) (fun k => xs.length - k) 0 (by simp) (Less.wk (by (repeat refine Less.upd ?_ (by rfl)); exact Less.nil)) ?_
  intro k ⟨hk, hkt⟩
  (refine EX.rg (by intro KK hkk; unfold f68_r4; simp only [SX, Nat.reduceEqDiff, ↓reduceIte, Nat.reduceSub, Nat.reduceAdd, Nat.reduceLT, Nat.reduceLeDiff, I.quiet, false_implies, implies_true, -List.reduceReplicate, lt_nat]; exact hkk) ?_)
  (with_reducible repeat first|apply EX.seq|apply EX.blk)
  refine EX.dec rfl (fun hlt => ?_) (fun hlt => ?_)
  · (refine EX.skip ?_; (with_reducible repeat first|apply nA|apply nB|apply nC|apply nD|apply nE|apply nF|apply nG (by decide)|apply nH|apply nI|apply nJ))
    have hlp : k < ps.length := by omega
    (refine EX.rg (by intro KK hkk; unfold f68_r5; simp only [SX, Nat.reduceEqDiff, ↓reduceIte, Nat.reduceSub, Nat.reduceAdd, Nat.reduceLT, Nat.reduceLeDiff, I.quiet, false_implies, implies_true, -List.reduceReplicate, hlt, ld1_ef hlt o1i, rd_eq hlt]; exact hkk) ?_)
    have hg : goodAt ps xs k = (decide (-1 ≤ xs[k]) && decide (xs[k] ≤ ps[k].length)) := by
      simp only [goodAt, List.getElem?_eq_getElem hlt, List.getElem?_eq_getElem hlp]
    have bad : goodAt ps xs k = false → goodB ps xs = false := by
      intro hb
      have : (List.range xs.length).all (goodAt ps xs) = false := by
        rw [Bool.eq_false_iff]; intro ht; rw [List.all_eq_true] at ht
        rw [ht k (List.mem_range.2 hlt)] at hb; cases hb
      simp only [goodB, this, Bool.and_false]
    cases c1 : decide (xs[k] < -1) with
    | true =>
      have c1' := of_decide_eq_true c1
      (refine EX.rg (by intro KK hkk; unfold f68_r6; simp only [SX, Nat.reduceEqDiff, ↓reduceIte, Nat.reduceSub, Nat.reduceAdd, Nat.reduceLT, Nat.reduceLeDiff, I.quiet, false_implies, implies_true, -List.reduceReplicate, c1]; exact hkk) ?_)
      refine EX.condT rfl ?_
      (refine EX.rg (by intro KK hkk; unfold f68_r7; simp only [SX, Nat.reduceEqDiff, ↓reduceIte, Nat.reduceSub, Nat.reduceAdd, Nat.reduceLT, Nat.reduceLeDiff, I.quiet, false_implies, implies_true, -List.reduceReplicate]; exact hkk) ?_)
      ((with_reducible repeat first|apply EX.seq|apply EX.blk); refine EX.ret ?_; (with_reducible repeat first|apply nA|apply nB|apply nC|apply nD|apply nE|apply nF|apply nG (by decide)|apply nH|apply nI|apply nJ); refine ⟨_, rfl, ?_⟩; simp only [packV, upd, Nat.reduceEqDiff, reduceIte, if_true, if_false, Nat.one_ne_zero, Nat.zero_ne_one])
      exact ⟨by rw [bad (by rw [hg]; simp; omega)], trivial⟩
    | false =>
    have c1' := of_decide_eq_false c1
    cases c2 : decide ((ps[k].length : Int) < xs[k]) with
    | true =>
      have c2' := of_decide_eq_true c2
      (refine EX.rg (by intro KK hkk; unfold f68_r6; simp only [SX, Nat.reduceEqDiff, ↓reduceIte, Nat.reduceSub, Nat.reduceAdd, Nat.reduceLT, Nat.reduceLeDiff, I.quiet, false_implies, implies_true, -List.reduceReplicate, c1, hlp, ld1_ef hlp o1l, rd_eq hlp, c2]; exact hkk) ?_)
      refine EX.condT rfl ?_
      (refine EX.rg (by intro KK hkk; unfold f68_r7; simp only [SX, Nat.reduceEqDiff, ↓reduceIte, Nat.reduceSub, Nat.reduceAdd, Nat.reduceLT, Nat.reduceLeDiff, I.quiet, false_implies, implies_true, -List.reduceReplicate]; exact hkk) ?_)
      ((with_reducible repeat first|apply EX.seq|apply EX.blk); refine EX.ret ?_; (with_reducible repeat first|apply nA|apply nB|apply nC|apply nD|apply nE|apply nF|apply nG (by decide)|apply nH|apply nI|apply nJ); refine ⟨_, rfl, ?_⟩; simp only [packV, upd, Nat.reduceEqDiff, reduceIte, if_true, if_false, Nat.one_ne_zero, Nat.zero_ne_one])
      exact ⟨by rw [bad (by rw [hg]; simp; omega)], trivial⟩
    | false =>
      have c2' := of_decide_eq_false c2
      (refine EX.rg (by intro KK hkk; unfold f68_r6; simp only [SX, Nat.reduceEqDiff, ↓reduceIte, Nat.reduceSub, Nat.reduceAdd, Nat.reduceLT, Nat.reduceLeDiff, I.quiet, false_implies, implies_true, -List.reduceReplicate, c1, hlp, ld1_ef hlp o1l, rd_eq hlp, c2]; exact hkk) ?_)
      refine EX.condF rfl ?_
      (refine EX.skip ?_; (with_reducible repeat first|apply nA|apply nB|apply nC|apply nD|apply nE|apply nF|apply nG (by decide)|apply nH|apply nI|apply nJ))
      (refine EX.rg (by intro KK hkk; unfold f68_r8; simp only [SX, Nat.reduceEqDiff, ↓reduceIte, Nat.reduceSub, Nat.reduceAdd, Nat.reduceLT, Nat.reduceLeDiff, I.quiet, false_implies, implies_true, -List.reduceReplicate, wrap_nat (show k < 4611686018427387904 by omega)]; exact hkk) ?_)
      refine ⟨k + 1, ⟨by omega, ?_⟩, by omega, Less.wk (by (repeat refine Less.upd ?_ (by rfl)); exact Less.nil)⟩
      rw [List.range_succ, List.all_append, hkt]
      simp [hg]; omega
  · (refine EX.exit ?_; (with_reducible repeat first|apply nA|apply nB|apply nC|apply nD|apply nE|apply nF|apply nG (by decide)|apply nH|apply nI|apply nJ))
    (refine EX.rg (by intro KK hkk; unfold f68_r9; simp only [SX, Nat.reduceEqDiff, ↓reduceIte, Nat.reduceSub, Nat.reduceAdd, Nat.reduceLT, Nat.reduceLeDiff, I.quiet, false_implies, implies_true, -List.reduceReplicate]; exact hkk) ?_)
    ((with_reducible repeat first|apply EX.seq|apply EX.blk); refine EX.ret ?_; (with_reducible repeat first|apply nA|apply nB|apply nC|apply nD|apply nE|apply nF|apply nG (by decide)|apply nH|apply nI|apply nJ); refine ⟨_, rfl, ?_⟩; simp only [packV, upd, Nat.reduceEqDiff, reduceIte, if_true, if_false, Nat.one_ne_zero, Nat.zero_ne_one])
    have e : k = xs.length := by omega
    subst e
    rw [goodB, hkt, decide_eq_true hl]; exact ⟨rfl, trivial⟩
end
end Go.Proofs.Ythofdojknjhpgaa
set_option linter.unusedVariables false
set_option linter.unusedSimpArgs false
namespace Go.Proofs.Ythofdojknjhpgaa
open Go
def stOk (p : List Stg) (k : Nat) : Bool := match p[k]? with
  | some g => stageB g && (k == 0 || match p[k - 1]? with | some f => decide (f.sec ≠ g.sec) | none => true)
  | none => true
def pathB (p : List Stg) : Bool := decide (1 ≤ p.length) && decide (p.length ≤ 64) && (List.range p.length).all (stOk p)
def secsOf (ps : List (List Stg)) : List Int := ps.flatMap fun p => p.map (·.sec)
def ptsOf (ps : List (List Stg)) : List Int := ps.flatMap fun p => p.flatMap (·.pts)
def clashB (S P : List Int) : Bool := (List.range 144).any fun r => decide ((r : Int) ∈ S) && decide ((r : Int) ∈ P)
def validB (ps : List (List Stg)) : Bool := decide (ps.length ≤ 10) && ps.all pathB && !clashB (secsOf ps) (ptsOf ps)
def marks (n : Nat) (S : List Int) : List Bool := (List.range n).map fun (r : Nat) => decide ((r : Int) ∈ S)
theorem marks_nil (n : Nat) : F (marks n []) = List.replicate n (.bool false) := by
  have : ∀ l : List Nat, F (l.map fun (r : Nat) => decide ((r : Int) ∈ ([] : List Int))) = List.replicate l.length (.bool false) := by
    intro l; induction l with
    | nil => rfl
    | cons a l ih => rw [List.map_cons, F_cons, ih]; simp [cells_bool, List.replicate_succ]
  rw [marks, this, List.length_range]
theorem marks_len {n : Nat} {S : List Int} : (marks n S).length = n := by simp [marks]
theorem marks_get {n r : Nat} {S : List Int} (hr : r < n) : rd (marks n S) r = decide ((r : Int) ∈ S) := by
  rw [rd_eq (by rw [marks_len]; exact hr)]; simp [marks]
theorem marks_set {n : Nat} {S : List Int} {s : Int} (h0 : 0 ≤ s) (h1 : s < n) : (marks n S).set s.toNat true = marks n (S ++ [s]) := by
  apply List.ext_getElem?
  intro i
  rw [List.getElem?_set, marks_len]
  by_cases hi : i < n
  · simp only [marks, List.getElem?_map, List.getElem?_range hi, Option.map_some, List.mem_append, List.mem_singleton]
    by_cases e : s.toNat = i
    · have : (i : Int) = s := by omega
      rw [if_pos e, if_pos (by omega)]; simp [this]
    · have : ¬ (i : Int) = s := by omega
      rw [if_neg e]; simp [this]
  · rw [if_neg (by omega), List.getElem?_eq_none (by rw [marks_len]; omega), List.getElem?_eq_none (by rw [marks_len]; omega)]
def mb (S : List Int) : Option Blk := some (.row 95 1 (F (marks 144 S)))
theorem stageB_sec {g : Stg} (hg : stageB g = true) : 0 ≤ g.sec ∧ g.sec < 144 := by
  simp only [stageB, Bool.and_eq_true, resB, decide_eq_true_eq] at hg
  exact hg.1.1.1.2
theorem stageB_pts {g : Stg} (hg : stageB g = true) {p : Int} (hp : p ∈ g.pts) : 0 ≤ p ∧ p < 144 := by
  simp only [stageB, Bool.and_eq_true, List.all_eq_true] at hg
  have := hg.1.1.1.1.1 p hp
  simp only [resB, decide_eq_true_eq] at this
  exact this.1
theorem validB_bad {ps : List (List Stg)} {p : List Stg} (hm : p ∈ ps) (hb : pathB p = false) : validB ps = false := by
  have : ps.all pathB = false := by
    rw [Bool.eq_false_iff]; intro ha; rw [List.all_eq_true] at ha; rw [ha p hm] at hb; cases hb
  simp only [validB, this, Bool.and_false, Bool.false_and]
theorem pathB_bad {p : List Stg} {k : Nat} (hk : k < p.length) (hb : stOk p k = false) : pathB p = false := by
  have : (List.range p.length).all (stOk p) = false := by
    rw [Bool.eq_false_iff]; intro ha; rw [List.all_eq_true] at ha; rw [ha k (List.mem_range.2 hk)] at hb; cases hb
  simp only [pathB, this, Bool.and_false]
section
variable {h : AH}
/-- 'Valid' of the reference. -/
theorem f27_ok {ps : List (List Stg)} : AC Go.Proofs.Try.prog 27 [L ps] h (.bool (validB ps)) h := by
  refine AC.bd 0 rfl fun bp => ?_
  have lp := bp.1
  refine AC.wf fun hw => AC.of_app hw Cl.bool (EC.intro f27_is ?_)
  unfold f27_c
  (refine EX.rg (by intro KK hkk; unfold f27_r0; simp only [SX, Nat.reduceEqDiff, ↓reduceIte, Nat.reduceSub, Nat.reduceAdd, Nat.reduceLT, Nat.reduceLeDiff, I.quiet, false_implies, implies_true, -List.reduceReplicate]; exact hkk) ?_)
  (refine EX.rg (by intro KK hkk; unfold f27_r1; simp only [SX, Nat.reduceEqDiff, ↓reduceIte, Nat.reduceSub, Nat.reduceAdd, Nat.reduceLT, Nat.reduceLeDiff, I.quiet, false_implies, implies_true, -List.reduceReplicate]; exact hkk) ?_)
  refine EX.dec rfl (fun hd => ?_) (fun hd => ?_)
  · (refine EX.rg (by intro KK hkk; unfold f27_r2; simp only [SX, Nat.reduceEqDiff, ↓reduceIte, Nat.reduceSub, Nat.reduceAdd, Nat.reduceLT, Nat.reduceLeDiff, I.quiet, false_implies, implies_true, -List.reduceReplicate]; exact hkk) ?_)
    ((with_reducible repeat first|apply EX.seq|apply EX.blk); refine EX.ret ?_; (with_reducible repeat first|apply nA|apply nB|apply nC|apply nD|apply nE|apply nF|apply nG (by decide)|apply nH|apply nI|apply nJ); refine ⟨_, rfl, ?_⟩; simp only [packV, upd, Nat.reduceEqDiff, reduceIte, if_true, if_false, Nat.one_ne_zero, Nat.zero_ne_one])
    have : ¬ ps.length ≤ 10 := by omega
    exact ⟨by simp [validB, this], [], (app_nil hw).symm⟩
  (refine EX.skip ?_; (with_reducible repeat first|apply nA|apply nB|apply nC|apply nD|apply nE|apply nF|apply nG (by decide)|apply nH|apply nI|apply nJ))
  have h10 : ps.length ≤ 10 := by omega
  (refine EX.rg (by intro KK hkk; unfold f27_r3; simp only [SX, Nat.reduceEqDiff, ↓reduceIte, Nat.reduceSub, Nat.reduceAdd, Nat.reduceLT, Nat.reduceLeDiff, I.quiet, false_implies, implies_true, -List.reduceReplicate, new_app hw, ← marks_nil]; exact hkk) ?_)
  (refine EX.rg (by intro KK hkk; unfold f27_r4; simp only [SX, Nat.reduceEqDiff, ↓reduceIte, Nat.reduceSub, Nat.reduceAdd, Nat.reduceLT, Nat.reduceLeDiff, I.quiet, false_implies, implies_true, -List.reduceReplicate]; exact hkk) ?_)
  (with_reducible repeat first|apply EX.seq|apply EX.blk)
  refine EX.loop (fun i => upd (upd (upd (upd (upd TE 3 (.pointer (some ⟨h.next, 0, none⟩))) 4 (.pointer (some ⟨h.next + 1, 0, none⟩))) 15 (L ps)) 16 (.int .i64 ps.length)) 17 (.int .i64 (i : Nat)))
    (fun i => h.app [mb (secsOf (ps.take i)), mb (ptsOf (ps.take i))]) (fun i => i ≤ ps.length ∧ (ps.take i).all pathB = true) (fun i => ps.length - i) 0 ⟨Nat.zero_le _, rfl⟩ (Less.wk (by (repeat refine Less.upd ?_ (by rfl)); exact Less.nil)) ?_
  intro i ⟨hi, hall⟩
  (refine EX.rg (by intro KK hkk; unfold f27_r5; simp only [SX, Nat.reduceEqDiff, ↓reduceIte, Nat.reduceSub, Nat.reduceAdd, Nat.reduceLT, Nat.reduceLeDiff, I.quiet, false_implies, implies_true, -List.reduceReplicate, lt_nat]; exact hkk) ?_)
  (with_reducible repeat first|apply EX.seq|apply EX.blk)
  refine EX.dec rfl (fun hd1 => ?_) (fun hd1 => ?_)
  · (refine EX.skip ?_; (with_reducible repeat first|apply nA|apply nB|apply nC|apply nD|apply nE|apply nF|apply nG (by decide)|apply nH|apply nI|apply nJ))
    have hmem : ps[i] ∈ ps := List.getElem_mem _
    (refine EX.rg (by intro KK hkk; unfold f27_r6; simp only [SX, Nat.reduceEqDiff, ↓reduceIte, Nat.reduceSub, Nat.reduceAdd, Nat.reduceLT, Nat.reduceLeDiff, I.quiet, false_implies, implies_true, -List.reduceReplicate, hd1, ld1_ef hd1 o1l, rd_eq hd1]; exact hkk) ?_)
    cases c1 : decide ((ps[i].length : Int) < 1) with
    | true =>
      have c1' := of_decide_eq_true c1
      (refine EX.rg (by intro KK hkk; unfold f27_r7; simp only [SX, Nat.reduceEqDiff, ↓reduceIte, Nat.reduceSub, Nat.reduceAdd, Nat.reduceLT, Nat.reduceLeDiff, I.quiet, false_implies, implies_true, -List.reduceReplicate, c1]; exact hkk) ?_)
      refine EX.condT rfl ?_
      (refine EX.rg (by intro KK hkk; unfold f27_r8; simp only [SX, Nat.reduceEqDiff, ↓reduceIte, Nat.reduceSub, Nat.reduceAdd, Nat.reduceLT, Nat.reduceLeDiff, I.quiet, false_implies, implies_true, -List.reduceReplicate]; exact hkk) ?_)
      ((with_reducible repeat first|apply EX.seq|apply EX.blk); refine EX.ret ?_; (with_reducible repeat first|apply nA|apply nB|apply nC|apply nD|apply nE|apply nF|apply nG (by decide)|apply nH|apply nI|apply nJ); refine ⟨_, rfl, ?_⟩; simp only [packV, upd, Nat.reduceEqDiff, reduceIte, if_true, if_false, Nat.one_ne_zero, Nat.zero_ne_one])
      have : pathB ps[i] = false := by rw [pathB, decide_eq_false (by omega)]; rfl
      exact ⟨by rw [validB_bad hmem this], _, rfl⟩
    | false =>
    cases c2 : decide (64 < (ps[i].length : Int)) with
    | true =>
      have c2' := of_decide_eq_true c2
      (refine EX.rg (by intro KK hkk; unfold f27_r7; simp only [SX, Nat.reduceEqDiff, ↓reduceIte, Nat.reduceSub, Nat.reduceAdd, Nat.reduceLT, Nat.reduceLeDiff, I.quiet, false_implies, implies_true, -List.reduceReplicate, c1, c2]; exact hkk) ?_)
      refine EX.condT rfl ?_
      (refine EX.rg (by intro KK hkk; unfold f27_r8; simp only [SX, Nat.reduceEqDiff, ↓reduceIte, Nat.reduceSub, Nat.reduceAdd, Nat.reduceLT, Nat.reduceLeDiff, I.quiet, false_implies, implies_true, -List.reduceReplicate]; exact hkk) ?_)
      ((with_reducible repeat first|apply EX.seq|apply EX.blk); refine EX.ret ?_; (with_reducible repeat first|apply nA|apply nB|apply nC|apply nD|apply nE|apply nF|apply nG (by decide)|apply nH|apply nI|apply nJ); refine ⟨_, rfl, ?_⟩; simp only [packV, upd, Nat.reduceEqDiff, reduceIte, if_true, if_false, Nat.one_ne_zero, Nat.zero_ne_one])
      have : pathB ps[i] = false := by rw [pathB, decide_eq_false (show ¬ ps[i].length ≤ 64 by omega)]; simp
      exact ⟨by rw [validB_bad hmem this], _, rfl⟩
    | false =>
    have c1' := of_decide_eq_false c1
    have c2' := of_decide_eq_false c2
    (refine EX.rg (by intro KK hkk; unfold f27_r7; simp only [SX, Nat.reduceEqDiff, ↓reduceIte, Nat.reduceSub, Nat.reduceAdd, Nat.reduceLT, Nat.reduceLeDiff, I.quiet, false_implies, implies_true, -List.reduceReplicate, c1, c2]; exact hkk) ?_)
    refine EX.condF rfl ?_
    (refine EX.skip ?_; (with_reducible repeat first|apply nA|apply nB|apply nC|apply nD|apply nE|apply nF|apply nG (by decide)|apply nH|apply nI|apply nJ))
    (refine EX.rg (by intro KK hkk; unfold f27_r9; simp only [SX, Nat.reduceEqDiff, ↓reduceIte, Nat.reduceSub, Nat.reduceAdd, Nat.reduceLT, Nat.reduceLeDiff, I.quiet, false_implies, implies_true, -List.reduceReplicate]; exact hkk) ?_)
    (with_reducible repeat first|apply EX.seq|apply EX.blk)
    have ht : ps.take (i + 1) = ps.take i ++ [ps[i]] := by rw [List.take_add_one, List.getElem?_eq_getElem hd1]; rfl
    have hS : secsOf (ps.take (i + 1)) = secsOf (ps.take i) ++ ps[i].map (·.sec) := by rw [ht]; simp only [secsOf, List.flatMap_append, List.flatMap_cons, List.flatMap_nil, List.append_nil]
    have hP : ptsOf (ps.take (i + 1)) = ptsOf (ps.take i) ++ ps[i].flatMap (·.pts) := by rw [ht]; simp only [ptsOf, List.flatMap_append, List.flatMap_cons, List.flatMap_nil, List.append_nil]
    have bpi := bp.2 _ hmem
    generalize hSS : secsOf (ps.take i) = SS at hS ⊢
    generalize hPP : ptsOf (ps.take i) = PP at hP ⊢
    generalize hpi : ps[i] = p at *
    refine EX.loop (fun k => upd (upd (upd (upd (upd (upd (upd (upd (upd TE 3 (.pointer (some ⟨h.next, 0, none⟩))) 4 (.pointer (some ⟨h.next + 1, 0, none⟩))) 6 (L p)) 15 (L ps)) 16 (.int .i64 ps.length)) 17 (.int .i64 (i : Nat))) 29 (L p)) 30 (.int .i64 p.length)) 31 (.int .i64 (k : Nat)))
      (fun k => h.app [mb (SS ++ (p.take k).map (·.sec)), mb (PP ++ (p.take k).flatMap (·.pts))]) (fun k => k ≤ p.length ∧ (List.range k).all (stOk p) = true) (fun k => p.length - k) 0 ⟨Nat.zero_le _, rfl⟩ (by simp only [List.take_zero, List.map_nil, List.flatMap_nil, List.append_nil]; exact Less.wk (by (repeat refine Less.upd ?_ (by rfl)); exact Less.nil)) ?_
    intro k ⟨hk, hst⟩
    (refine EX.rg (by intro KK hkk; unfold f27_r10; simp only [SX, Nat.reduceEqDiff, ↓reduceIte, Nat.reduceSub, Nat.reduceAdd, Nat.reduceLT, Nat.reduceLeDiff, I.quiet, false_implies, implies_true, -List.reduceReplicate, lt_nat]; exact hkk) ?_)
    (with_reducible repeat first|apply EX.seq|apply EX.blk)
    refine EX.dec rfl (fun hk' => ?_) (fun hk2 => ?_)
    · (refine EX.skip ?_; (with_reducible repeat first|apply nA|apply nB|apply nC|apply nD|apply nE|apply nF|apply nG (by decide)|apply nH|apply nI|apply nJ))
      generalize hSk : SS ++ (p.take k).map (·.sec) = SK
      generalize hPk : PP ++ (p.take k).flatMap (·.pts) = PK
      have bg : Bd p[k].pts := bpi.2 _ (List.getElem_mem hk')
      (refine EX.rg (by intro KK hkk; unfold f27_r11; simp only [SX, Nat.reduceEqDiff, ↓reduceIte, Nat.reduceSub, Nat.reduceAdd, Nat.reduceLT, Nat.reduceLeDiff, I.quiet, false_implies, implies_true, -List.reduceReplicate, hk', w4s, lds1_ef hk' (show 0 + 4 ≤ Enc.w Stg from Nat.le_refl 4), rd_eq hk', cells_stg, hw.roi, stAt_all]; exact hkk) ?_)
      have bad : stOk p k = false → validB ps = false := fun hb => validB_bad hmem (pathB_bad hk' hb)
      cases c3 : stageB p[k] with
      | false =>
        (refine EX.dg (by intro KK hkk; unfold f27_r12; simp only [SX, Nat.reduceEqDiff, ↓reduceIte, Nat.reduceSub, Nat.reduceAdd, Nat.reduceLT, Nat.reduceLeDiff, I.quiet, false_implies, implies_true, -List.reduceReplicate, ldsAt_row, Nat.le_refl, c3]; refine RD_callvS (f60_ok bg.1) ?_; simp only [SX, Nat.reduceEqDiff, ↓reduceIte, Nat.reduceSub, Nat.reduceAdd, Nat.reduceLT, Nat.reduceLeDiff, I.quiet, false_implies, implies_true, -List.reduceReplicate, ldsAt_row, Nat.le_refl, c3]; exact hkk) ?_)
        refine EX.condT rfl ?_
        (refine EX.rg (by intro KK hkk; unfold f27_r13; simp only [SX, Nat.reduceEqDiff, ↓reduceIte, Nat.reduceSub, Nat.reduceAdd, Nat.reduceLT, Nat.reduceLeDiff, I.quiet, false_implies, implies_true, -List.reduceReplicate]; exact hkk) ?_)
        ((with_reducible repeat first|apply EX.seq|apply EX.blk); refine EX.ret ?_; (with_reducible repeat first|apply nA|apply nB|apply nC|apply nD|apply nE|apply nF|apply nG (by decide)|apply nH|apply nI|apply nJ); refine ⟨_, rfl, ?_⟩; simp only [packV, upd, Nat.reduceEqDiff, reduceIte, if_true, if_false, Nat.one_ne_zero, Nat.zero_ne_one])
        exact ⟨by rw [bad (by simp only [stOk, List.getElem?_eq_getElem hk', c3, Bool.false_and])], _, rfl⟩
      | true =>
      refine EX.seqR (F := fun T1 H3 => H3 = h.app [mb SK, mb PK, some (.row 65 0 [.int .i64 p[k].sec, L p[k].pts, .int .i64 p[k].min, .int .i64 p[k].not])] ∧ stOk p k = true ∧ T1 3 = .pointer (some ⟨h.next, 0, none⟩) ∧ T1 4 = .pointer (some ⟨h.next + 1, 0, none⟩) ∧ T1 6 = L p ∧ T1 15 = L ps ∧ T1 16 = .int .i64 ps.length ∧ T1 17 = .int .i64 (i : Nat) ∧ T1 29 = L p ∧ T1 30 = .int .i64 p.length ∧ T1 31 = .int .i64 (k : Nat) ∧ T1 8 = .pointer (some ⟨h.next + 2, 0, none⟩)) ?_ ?_
      · by_cases hk0 : k = 0
        · subst hk0
          have z : decide ((0 : Int) < ((0 : Nat) : Int)) = false := rfl
          (refine EX.dg (by intro KK hkk; unfold f27_r12; simp only [SX, Nat.reduceEqDiff, ↓reduceIte, Nat.reduceSub, Nat.reduceAdd, Nat.reduceLT, Nat.reduceLeDiff, I.quiet, false_implies, implies_true, -List.reduceReplicate, ldsAt_row, Nat.le_refl, c3, z]; refine RD_callvS (f60_ok bg.1) ?_; simp only [SX, Nat.reduceEqDiff, ↓reduceIte, Nat.reduceSub, Nat.reduceAdd, Nat.reduceLT, Nat.reduceLeDiff, I.quiet, false_implies, implies_true, -List.reduceReplicate, ldsAt_row, Nat.le_refl, c3, z]; exact hkk) ?_)
          refine EX.condF rfl ?_
          (refine EX.skip ?_; (with_reducible repeat first|apply nA|apply nB|apply nC|apply nD|apply nE|apply nF|apply nG (by decide)|apply nH|apply nI|apply nJ))
          exact ⟨rfl, by simp only [stOk, List.getElem?_eq_getElem hk', c3, BEq.rfl, Bool.true_or, Bool.and_self], rfl, rfl, rfl, rfl, rfl, rfl, rfl, rfl, rfl, rfl⟩
        · have z : decide ((0 : Int) < (k : Int)) = true := decide_eq_true (by omega)
          have hk1 : k - 1 < p.length := by omega
          have wr : IntKind.wrap .i64 ((k : Int) - 1) = ((k - 1 : Nat) : Int) := by rw [wrap_id (by omega) (by omega)]; omega
          have hs : stOk p k = decide (p[k - 1].sec ≠ p[k].sec) := by
            have hb : (k == 0) = false := by simpa using hk0
            simp only [stOk, List.getElem?_eq_getElem hk', List.getElem?_eq_getElem hk1, c3, hb, Bool.false_or, Bool.true_and]
          cases c4 : decide (p[k - 1].sec = p[k].sec) with
          | true =>
            have c4' := of_decide_eq_true c4
            (refine EX.dg (by intro KK hkk; unfold f27_r12; simp only [SX, Nat.reduceEqDiff, ↓reduceIte, Nat.reduceSub, Nat.reduceAdd, Nat.reduceLT, Nat.reduceLeDiff, I.quiet, false_implies, implies_true, -List.reduceReplicate, ldsAt_row, Nat.le_refl, c3, z, wr, hk1, w4s, ld1_ef hk1 (o4s (show 0 < 4 by decide)), cells_stg, rd_eq hk1, c4]; refine RD_callvS (f60_ok bg.1) ?_; simp only [SX, Nat.reduceEqDiff, ↓reduceIte, Nat.reduceSub, Nat.reduceAdd, Nat.reduceLT, Nat.reduceLeDiff, I.quiet, false_implies, implies_true, -List.reduceReplicate, ldsAt_row, Nat.le_refl, c3, z, wr, hk1, w4s, ld1_ef hk1 (o4s (show 0 < 4 by decide)), cells_stg, rd_eq hk1, c4]; exact hkk) ?_)
            refine EX.condT rfl ?_
            (refine EX.rg (by intro KK hkk; unfold f27_r13; simp only [SX, Nat.reduceEqDiff, ↓reduceIte, Nat.reduceSub, Nat.reduceAdd, Nat.reduceLT, Nat.reduceLeDiff, I.quiet, false_implies, implies_true, -List.reduceReplicate]; exact hkk) ?_)
            ((with_reducible repeat first|apply EX.seq|apply EX.blk); refine EX.ret ?_; (with_reducible repeat first|apply nA|apply nB|apply nC|apply nD|apply nE|apply nF|apply nG (by decide)|apply nH|apply nI|apply nJ); refine ⟨_, rfl, ?_⟩; simp only [packV, upd, Nat.reduceEqDiff, reduceIte, if_true, if_false, Nat.one_ne_zero, Nat.zero_ne_one])
            exact ⟨by rw [bad (by rw [hs]; simp [c4'])], _, rfl⟩
          | false =>
            have c4' := of_decide_eq_false c4
            (refine EX.dg (by intro KK hkk; unfold f27_r12; simp only [SX, Nat.reduceEqDiff, ↓reduceIte, Nat.reduceSub, Nat.reduceAdd, Nat.reduceLT, Nat.reduceLeDiff, I.quiet, false_implies, implies_true, -List.reduceReplicate, ldsAt_row, Nat.le_refl, c3, z, wr, hk1, w4s, ld1_ef hk1 (o4s (show 0 < 4 by decide)), cells_stg, rd_eq hk1, c4]; refine RD_callvS (f60_ok bg.1) ?_; simp only [SX, Nat.reduceEqDiff, ↓reduceIte, Nat.reduceSub, Nat.reduceAdd, Nat.reduceLT, Nat.reduceLeDiff, I.quiet, false_implies, implies_true, -List.reduceReplicate, ldsAt_row, Nat.le_refl, c3, z, wr, hk1, w4s, ld1_ef hk1 (o4s (show 0 < 4 by decide)), cells_stg, rd_eq hk1, c4]; exact hkk) ?_)
            refine EX.condF rfl ?_
            (refine EX.skip ?_; (with_reducible repeat first|apply nA|apply nB|apply nC|apply nD|apply nE|apply nF|apply nG (by decide)|apply nH|apply nI|apply nJ))
            exact ⟨rfl, by rw [hs]; exact decide_eq_true c4', rfl, rfl, rfl, rfl, rfl, rfl, rfl, rfl, rfl, rfl⟩
      · rintro T1 H3 ⟨rfl, hsk, t3, t4, t6, t15, t16, t17, t29, t30, t31, t8⟩
        obtain ⟨b0, b1⟩ := stageB_sec c3
        have hk1t : p.take (k + 1) = p.take k ++ [p[k]] := by rw [List.take_add_one, List.getElem?_eq_getElem hk']; rfl
        have hS1 : SK ++ [p[k].sec] = SS ++ (p.take (k + 1)).map (·.sec) := by rw [← hSk, hk1t, List.map_append, List.append_assoc]; rfl
        have hP1 : PK ++ p[k].pts = PP ++ (p.take (k + 1)).flatMap (·.pts) := by rw [← hPk, hk1t, List.flatMap_append, List.append_assoc]; simp only [List.flatMap_cons, List.flatMap_nil, List.append_nil]
        (refine EX.rg (by intro KK hkk; unfold f27_r14; simp only [SX, Nat.reduceEqDiff, ↓reduceIte, Nat.reduceSub, Nat.reduceAdd, Nat.reduceLT, Nat.reduceLeDiff, I.quiet, false_implies, implies_true, -List.reduceReplicate, t8, t3, mb, iaa1_mk b0 b1, stAt_Fb (hw.ro0) (show p[k].sec.toNat < (marks 144 SK).length by rw [marks_len]; omega), marks_set b0 b1]; exact hkk) ?_)
        (refine EX.rg (by intro KK hkk; unfold f27_r15; simp only [SX, Nat.reduceEqDiff, ↓reduceIte, Nat.reduceSub, Nat.reduceAdd, Nat.reduceLT, Nat.reduceLeDiff, I.quiet, false_implies, implies_true, -List.reduceReplicate, t8]; exact hkk) ?_)
        (with_reducible repeat first|apply EX.seq|apply EX.blk)
        refine EX.loop (fun j => upd (upd (upd (upd (upd (upd (upd (upd (upd (upd (upd (upd TE 3 (.pointer (some ⟨h.next, 0, none⟩))) 4 (.pointer (some ⟨h.next + 1, 0, none⟩))) 6 (L p)) 15 (L ps)) 16 (.int .i64 ps.length)) 17 (.int .i64 (i : Nat))) 29 (L p)) 30 (.int .i64 p.length)) 31 (.int .i64 (k : Nat))) 58 (L p[k].pts)) 59 (.int .i64 p[k].pts.length)) 60 (.int .i64 (j : Nat)))
          (fun j => h.app [mb (SK ++ [p[k].sec]), mb (PK ++ p[k].pts.take j), some (.row 65 0 [.int .i64 p[k].sec, L p[k].pts, .int .i64 p[k].min, .int .i64 p[k].not])]) (fun j => j ≤ p[k].pts.length) (fun j => p[k].pts.length - j) 0 (Nat.zero_le _) ?_ ?_
        · simp only [List.take_zero, List.append_nil]
          refine Less.wk (Less.upd (Less.upd (Less.upd (Less.upd (Less.upd (Less.upd (Less.upd (Less.upd (Less.upd (Less.upd (Less.upd (Less.upd Less.nil ?_) ?_) ?_) ?_) ?_) ?_) ?_) ?_) ?_) ?_) ?_) ?_)
          · exact t3
          · exact t4
          · exact t6
          · exact t15
          · exact t16
          · exact t17
          · exact t29
          · exact t30
          · exact t31
          · rfl
          · rfl
          · rfl
        intro j hj
        (refine EX.rg (by intro KK hkk; unfold f27_r16; simp only [SX, Nat.reduceEqDiff, ↓reduceIte, Nat.reduceSub, Nat.reduceAdd, Nat.reduceLT, Nat.reduceLeDiff, I.quiet, false_implies, implies_true, -List.reduceReplicate, lt_nat]; exact hkk) ?_)
        (with_reducible repeat first|apply EX.seq|apply EX.blk)
        refine EX.dec rfl (fun hj' => ?_) (fun hj2 => ?_)
        · (refine EX.skip ?_; (with_reducible repeat first|apply nA|apply nB|apply nC|apply nD|apply nE|apply nF|apply nG (by decide)|apply nH|apply nI|apply nJ))
          obtain ⟨c0, c1⟩ := stageB_pts c3 (List.getElem_mem hj')
          (refine EX.rg (by intro KK hkk; unfold f27_r17; simp only [SX, Nat.reduceEqDiff, ↓reduceIte, Nat.reduceSub, Nat.reduceAdd, Nat.reduceLT, Nat.reduceLeDiff, I.quiet, false_implies, implies_true, -List.reduceReplicate, hj', ld1_ef hj' o1i, rd_eq hj']; exact hkk) ?_)
          have hj1 : (PK ++ p[k].pts.take j) ++ [p[k].pts[j]] = PK ++ p[k].pts.take (j + 1) := by rw [List.take_add_one, List.getElem?_eq_getElem hj', List.append_assoc]; rfl
          (refine EX.rg (by intro KK hkk; unfold f27_r18; simp only [SX, Nat.reduceEqDiff, ↓reduceIte, Nat.reduceSub, Nat.reduceAdd, Nat.reduceLT, Nat.reduceLeDiff, I.quiet, false_implies, implies_true, -List.reduceReplicate, mb, iaa1_mk c0 c1, stAt_Fb (hw.roi) (show p[k].pts[j].toNat < (marks 144 (PK ++ p[k].pts.take j)).length by rw [marks_len]; omega), marks_set c0 c1, hj1]; exact hkk) ?_)
          (refine EX.rg (by intro KK hkk; unfold f27_r19; simp only [SX, Nat.reduceEqDiff, ↓reduceIte, Nat.reduceSub, Nat.reduceAdd, Nat.reduceLT, Nat.reduceLeDiff, I.quiet, false_implies, implies_true, -List.reduceReplicate, wrap_nat (show j < 4611686018427387904 by have := bg.1; omega)]; exact hkk) ?_)
          exact ⟨j + 1, hj', by omega, Less.wk (by (repeat refine Less.upd ?_ (by rfl)); exact Less.nil)⟩
        · (refine EX.exit ?_; (with_reducible repeat first|apply nA|apply nB|apply nC|apply nD|apply nE|apply nF|apply nG (by decide)|apply nH|apply nI|apply nJ))
          obtain rfl : j = p[k].pts.length := by omega
          rw [List.take_length, hP1, hS1]
          (refine EX.rg (by intro KK hkk; unfold f27_r20; simp only [SX, Nat.reduceEqDiff, ↓reduceIte, Nat.reduceSub, Nat.reduceAdd, Nat.reduceLT, Nat.reduceLeDiff, I.quiet, false_implies, implies_true, -List.reduceReplicate, wrap_nat (show k < 4611686018427387904 by omega)]; exact hkk) ?_)
          refine ⟨k + 1, ⟨hk', ?_⟩, by omega, Wk.app (bs0 := [_, _]) [0, 1] hw (by decide) ⟨⟨_, rfl, RB.F⟩, ⟨_, rfl, RB.F⟩, trivial⟩ ?_⟩
          · show (List.range (k + 1)).all (stOk p) = true
            rw [List.range_succ, List.all_append, hst]; simp [hsk]
          · (repeat (first | exact RVs.nil | refine RVs.updc ?_ Cl.int rfl | refine RVs.updc ?_ L_cl rfl | refine RVs.updc ?_ Cl.bool rfl | refine RVs.upd ?_ (RV.ptr (rnm_00 rfl) (by simp only [List.length_cons, List.length_nil]; omega)) | refine RVs.upd ?_ (RV.ptr (rnm_ij rfl) (by simp only [List.length_cons, List.length_nil]; omega)) | refine RVs.upd ?_ (RV.ptr (rnm_i0 rfl) (by simp only [List.length_cons, List.length_nil]; omega)) | refine RVs.upd ?_ (RV.ptr (rnm_0j rfl) (by simp only [List.length_cons, List.length_nil]; omega)) | refine RVs.upd ?_ (RV.slice (rnm_00 rfl) (by simp only [List.length_cons, List.length_nil]; omega)) | refine RVs.upd ?_ (RV.slice (rnm_ij rfl) (by simp only [List.length_cons, List.length_nil]; omega)) | refine RVs.upd ?_ (RV.slice (rnm_i0 rfl) (by simp only [List.length_cons, List.length_nil]; omega)) | refine RVs.upd ?_ (RV.slice (rnm_0j rfl) (by simp only [List.length_cons, List.length_nil]; omega)) | refine RVs.updc ?_ Cl.slice0 rfl | refine RVs.upd ?_ (RV.map (rnm_00 rfl) (by simp only [List.length_cons, List.length_nil]; omega)) | refine RVs.upd ?_ (RV.map (rnm_ij rfl) (by simp only [List.length_cons, List.length_nil]; omega))))
    · (refine EX.exit ?_; (with_reducible repeat first|apply nA|apply nB|apply nC|apply nD|apply nE|apply nF|apply nG (by decide)|apply nH|apply nI|apply nJ))
      obtain rfl : k = p.length := by omega
      rw [List.take_length, ← hS, ← hP]
      have hpb : pathB p = true := by rw [pathB, hst, decide_eq_true (by omega), decide_eq_true (by omega)]; rfl
      (refine EX.rg (by intro KK hkk; unfold f27_r21; simp only [SX, Nat.reduceEqDiff, ↓reduceIte, Nat.reduceSub, Nat.reduceAdd, Nat.reduceLT, Nat.reduceLeDiff, I.quiet, false_implies, implies_true, -List.reduceReplicate, wrap_nat (show i < 4611686018427387904 by omega)]; exact hkk) ?_)
      refine ⟨i + 1, ⟨hd1, ?_⟩, by omega, Less.wk (by (repeat refine Less.upd ?_ (by rfl)); exact Less.nil)⟩
      show (ps.take (i + 1)).all pathB = true
      rw [ht, List.all_append, hall]; simp [hpb]
  · (refine EX.exit ?_; (with_reducible repeat first|apply nA|apply nB|apply nC|apply nD|apply nE|apply nF|apply nG (by decide)|apply nH|apply nI|apply nJ))
    obtain rfl : i = ps.length := by omega
    rw [List.take_length] at hall ⊢
    (refine EX.rg (by intro KK hkk; unfold f27_r22; simp only [SX, Nat.reduceEqDiff, ↓reduceIte, Nat.reduceSub, Nat.reduceAdd, Nat.reduceLT, Nat.reduceLeDiff, I.quiet, false_implies, implies_true, -List.reduceReplicate]; exact hkk) ?_)
    (with_reducible repeat first|apply EX.seq|apply EX.blk)
    refine EX.loop (fun k => upd (upd (upd TE 3 (.pointer (some ⟨h.next, 0, none⟩))) 4 (.pointer (some ⟨h.next + 1, 0, none⟩))) 69 (.int .i64 (k : Nat))) (fun _ => h.app [mb (secsOf ps), mb (ptsOf ps)]) (fun k => k ≤ 144 ∧ ((List.range k).any fun r => decide ((r : Int) ∈ secsOf ps) && decide ((r : Int) ∈ ptsOf ps)) = false) (fun k => 144 - k) 0 (by simp) (Less.wk (by (repeat refine Less.upd ?_ (by rfl)); exact Less.nil)) ?_
    intro k ⟨hk, hkt⟩
    (refine EX.rg (by intro KK hkk; unfold f27_r23; simp only [SX, Nat.reduceEqDiff, ↓reduceIte, Nat.reduceSub, Nat.reduceAdd, Nat.reduceLT, Nat.reduceLeDiff, I.quiet, false_implies, implies_true, -List.reduceReplicate]; exact hkk) ?_)
    (with_reducible repeat first|apply EX.seq|apply EX.blk)
    refine EX.dec rfl (fun hk2 => ?_) (fun hk2 => ?_)
    · (refine EX.skip ?_; (with_reducible repeat first|apply nA|apply nB|apply nC|apply nD|apply nE|apply nF|apply nG (by decide)|apply nH|apply nI|apply nJ))
      have hk2' : k < 144 := by omega
      (refine EX.rg (by intro KK hkk; unfold f27_r24; simp only [SX, Nat.reduceEqDiff, ↓reduceIte, Nat.reduceSub, Nat.reduceAdd, Nat.reduceLT, Nat.reduceLeDiff, I.quiet, false_implies, implies_true, -List.reduceReplicate]; exact hkk) ?_)
      cases c1 : decide (((k : Nat) : Int) ∈ secsOf ps) with
      | false =>
        (refine EX.rg (by intro KK hkk; unfold f27_r25; simp only [SX, Nat.reduceEqDiff, ↓reduceIte, Nat.reduceSub, Nat.reduceAdd, Nat.reduceLT, Nat.reduceLeDiff, I.quiet, false_implies, implies_true, -List.reduceReplicate, iaa1_nat hk2', mb, F_getb (show k < (marks 144 (secsOf ps)).length by rw [marks_len]; exact hk2'), marks_get hk2', c1]; exact hkk) ?_)
        refine EX.condF rfl ?_
        (refine EX.skip ?_; (with_reducible repeat first|apply nA|apply nB|apply nC|apply nD|apply nE|apply nF|apply nG (by decide)|apply nH|apply nI|apply nJ))
        (refine EX.rg (by intro KK hkk; unfold f27_r27; simp only [SX, Nat.reduceEqDiff, ↓reduceIte, Nat.reduceSub, Nat.reduceAdd, Nat.reduceLT, Nat.reduceLeDiff, I.quiet, false_implies, implies_true, -List.reduceReplicate, wrap_nat (show k < 4611686018427387904 by omega)]; exact hkk) ?_)
        refine ⟨k + 1, ⟨by omega, ?_⟩, by omega, Less.wk (by (repeat refine Less.upd ?_ (by rfl)); exact Less.nil)⟩
        rw [List.range_succ, List.any_append, hkt]
        simp [c1]
      | true =>
        cases c2 : decide (((k : Nat) : Int) ∈ ptsOf ps) with
        | false =>
          (refine EX.rg (by intro KK hkk; unfold f27_r25; simp only [SX, Nat.reduceEqDiff, ↓reduceIte, Nat.reduceSub, Nat.reduceAdd, Nat.reduceLT, Nat.reduceLeDiff, I.quiet, false_implies, implies_true, -List.reduceReplicate, iaa1_nat hk2', mb, F_getb (show k < (marks 144 (secsOf ps)).length by rw [marks_len]; exact hk2'), F_getb (show k < (marks 144 (ptsOf ps)).length by rw [marks_len]; exact hk2'), marks_get hk2', c1, c2]; exact hkk) ?_)
          refine EX.condF rfl ?_
          (refine EX.skip ?_; (with_reducible repeat first|apply nA|apply nB|apply nC|apply nD|apply nE|apply nF|apply nG (by decide)|apply nH|apply nI|apply nJ))
          (refine EX.rg (by intro KK hkk; unfold f27_r27; simp only [SX, Nat.reduceEqDiff, ↓reduceIte, Nat.reduceSub, Nat.reduceAdd, Nat.reduceLT, Nat.reduceLeDiff, I.quiet, false_implies, implies_true, -List.reduceReplicate, wrap_nat (show k < 4611686018427387904 by omega)]; exact hkk) ?_)
          refine ⟨k + 1, ⟨by omega, ?_⟩, by omega, Less.wk (by (repeat refine Less.upd ?_ (by rfl)); exact Less.nil)⟩
          rw [List.range_succ, List.any_append, hkt]
          simp [c2]
        | true =>
          (refine EX.rg (by intro KK hkk; unfold f27_r25; simp only [SX, Nat.reduceEqDiff, ↓reduceIte, Nat.reduceSub, Nat.reduceAdd, Nat.reduceLT, Nat.reduceLeDiff, I.quiet, false_implies, implies_true, -List.reduceReplicate, iaa1_nat hk2', mb, F_getb (show k < (marks 144 (secsOf ps)).length by rw [marks_len]; exact hk2'), F_getb (show k < (marks 144 (ptsOf ps)).length by rw [marks_len]; exact hk2'), marks_get hk2', c1, c2]; exact hkk) ?_)
          refine EX.condT rfl ?_
          (refine EX.rg (by intro KK hkk; unfold f27_r26; simp only [SX, Nat.reduceEqDiff, ↓reduceIte, Nat.reduceSub, Nat.reduceAdd, Nat.reduceLT, Nat.reduceLeDiff, I.quiet, false_implies, implies_true, -List.reduceReplicate]; exact hkk) ?_)
          ((with_reducible repeat first|apply EX.seq|apply EX.blk); refine EX.ret ?_; (with_reducible repeat first|apply nA|apply nB|apply nC|apply nD|apply nE|apply nF|apply nG (by decide)|apply nH|apply nI|apply nJ); refine ⟨_, rfl, ?_⟩; simp only [packV, upd, Nat.reduceEqDiff, reduceIte, if_true, if_false, Nat.one_ne_zero, Nat.zero_ne_one])
          have : clashB (secsOf ps) (ptsOf ps) = true := by
            rw [clashB, List.any_eq_true]; exact ⟨k, List.mem_range.2 hk2', by rw [c1, c2]; rfl⟩
          exact ⟨by simp only [validB, this, Bool.not_true, Bool.and_false], _, rfl⟩
    · (refine EX.exit ?_; (with_reducible repeat first|apply nA|apply nB|apply nC|apply nD|apply nE|apply nF|apply nG (by decide)|apply nH|apply nI|apply nJ))
      (refine EX.rg (by intro KK hkk; unfold f27_r28; simp only [SX, Nat.reduceEqDiff, ↓reduceIte, Nat.reduceSub, Nat.reduceAdd, Nat.reduceLT, Nat.reduceLeDiff, I.quiet, false_implies, implies_true, -List.reduceReplicate]; exact hkk) ?_)
      ((with_reducible repeat first|apply EX.seq|apply EX.blk); refine EX.ret ?_; (with_reducible repeat first|apply nA|apply nB|apply nC|apply nD|apply nE|apply nF|apply nG (by decide)|apply nH|apply nI|apply nJ); refine ⟨_, rfl, ?_⟩; simp only [packV, upd, Nat.reduceEqDiff, reduceIte, if_true, if_false, Nat.one_ne_zero, Nat.zero_ne_one])
      obtain rfl : k = 144 := by omega
      have : clashB (secsOf ps) (ptsOf ps) = false := hkt
      exact ⟨by simp only [validB, this, hall, decide_eq_true h10, Bool.not_false, Bool.and_self], _, rfl⟩
end
end Go.Proofs.Ythofdojknjhpgaa
