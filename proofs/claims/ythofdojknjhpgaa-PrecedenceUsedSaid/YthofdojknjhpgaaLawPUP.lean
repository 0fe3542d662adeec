/- Own texts, merged: a part of the proof that is told in the last text of this claim. -/
import Derived.Test.YthofdojknjhpgaaLawPUO
set_option linter.unnecessarySimpa false
set_option linter.unusedSectionVars false
set_option linter.defProp false
set_option linter.unusedVariables false
set_option linter.unusedSimpArgs false
namespace Go.Proofs.Ythofdojknjhpgaa
open Go
section
variable {h : AH} {bs : List (Option Blk)}
theorem f47_ok {ps : List (List Stg)} {enter : List (List Int)} (hval : validB ps = true) : AC Go.Proofs.Try.prog 47 [L ps, L enter] h (.tuple #[L (sortM ps enter).1, .int .i64 (sortM ps enter).2]) h := by
  have hp := pathsA_of hval
  have lp := hp.1
  refine AC.bd 1 rfl fun be => ?_
  have hrb : ∀ t, t < enter.length → (rd enter t).length < 4611686018427387904 := fun t ht => (be.2 _ (rd_mem ht)).1
  unfold sortM
  cases hen : enterB ps enter with
  | false =>
    rw [if_neg (by decide)]
    suffices k : AC Go.Proofs.Try.prog 47 [L ps, L enter] h (.tuple #[.slice none 0 0, .int .i64 1]) h by
      refine k.gv (GV.tuple (us := [_, _]) (vs := [_, _]) rfl (by simp) fun i h1 h2 => ?_)
      match i, h1, h2 with
      | 0, _, _ => exact GV.nilL
      | 1, _, _ => exact GV.same
    have hcl : Cl (.tuple #[.slice none 0 0, .int .i64 1]) := Cl.tuple (vs := [_, _]) (by
      intro v hv
      simp only [List.mem_cons, List.not_mem_nil, or_false] at hv
      rcases hv with rfl | rfl
      · exact Cl.slice0
      · exact Cl.int)
    refine AC.wf fun hw => AC.of_app hw hcl ?_
    refine EC.intro f47_is ?_
    unfold f47_c
    (refine EX.rg (by intro KK hkk; unfold f47_r0; simp only [SX, Nat.reduceEqDiff, ↓reduceIte, Nat.reduceSub, Nat.reduceAdd, Nat.reduceLT, Nat.reduceLeDiff, I.quiet, false_implies, implies_true, -List.reduceReplicate]; exact hkk) ?_)
    (refine EX.rg (by intro KK hkk; unfold f47_r1; simp only [SX, Nat.reduceEqDiff, ↓reduceIte, Nat.reduceSub, Nat.reduceAdd, Nat.reduceLT, Nat.reduceLeDiff, I.quiet, false_implies, implies_true, -List.reduceReplicate, hval]; refine RO_callvS (f27_ok) ?_; simp only [SX, Nat.reduceEqDiff, ↓reduceIte, Nat.reduceSub, Nat.reduceAdd, Nat.reduceLT, Nat.reduceLeDiff, I.quiet, false_implies, implies_true, -List.reduceReplicate, hval]; exact hkk) ?_)
    refine EX.dec rfl (fun hd => ?_) (fun hd => ?_)
    · (refine EX.rg (by intro KK hkk; unfold f47_r2; simp only [SX, Nat.reduceEqDiff, ↓reduceIte, Nat.reduceSub, Nat.reduceAdd, Nat.reduceLT, Nat.reduceLeDiff, I.quiet, false_implies, implies_true, -List.reduceReplicate]; exact hkk) ?_)
      ((with_reducible repeat first|apply EX.seq|apply EX.blk); refine EX.ret ?_; (with_reducible repeat first|apply nA|apply nB|apply nC|apply nD|apply nE|apply nF|apply nG (by decide)|apply nH|apply nI|apply nJ); refine ⟨_, rfl, ?_⟩; simp only [packV, upd, Nat.reduceEqDiff, reduceIte, if_true, if_false, Nat.one_ne_zero, Nat.zero_ne_one])
      exact ⟨trivial, [], (app_nil hw).symm⟩
    (refine EX.skip ?_; (with_reducible repeat first|apply nA|apply nB|apply nC|apply nD|apply nE|apply nF|apply nG (by decide)|apply nH|apply nI|apply nJ))
    have hel : enter.length = ps.length := by omega
    (refine EX.rg (by intro KK hkk; unfold f47_r3; simp only [SX, Nat.reduceEqDiff, ↓reduceIte, Nat.reduceSub, Nat.reduceAdd, Nat.reduceLT, Nat.reduceLeDiff, I.quiet, false_implies, implies_true, -List.reduceReplicate]; exact hkk) ?_)
    (with_reducible repeat first|apply EX.seq|apply EX.blk)
    refine EX.loop (σ := Nat) (fun t => upd (upd (upd (upd (upd TE 0 (L ps)) 1 (L enter)) 27 (L enter)) 28 (.int .i64 enter.length)) 29 (.int .i64 (t : Nat))) (fun _ => h) (fun t => t ≤ enter.length ∧ ∀ i, i < t → rowB (rd ps i) (rd enter i) = true) (fun t => enter.length - t) 0 ⟨Nat.zero_le _, fun i hi => by omega⟩ (Less.wk (by (repeat refine Less.upd ?_ (by rfl)); exact Less.nil)) ?_
    rintro t ⟨ht, hrows⟩
    (refine EX.rg (by intro KK hkk; unfold f47_r4; simp only [SX, Nat.reduceEqDiff, ↓reduceIte, Nat.reduceSub, Nat.reduceAdd, Nat.reduceLT, Nat.reduceLeDiff, I.quiet, false_implies, implies_true, -List.reduceReplicate, lt_nat]; exact hkk) ?_)
    (with_reducible repeat first|apply EX.seq|apply EX.blk)
    refine EX.dec rfl (fun hlt => ?_) (fun hlt => ?_)
    · (refine EX.skip ?_; (with_reducible repeat first|apply nA|apply nB|apply nC|apply nD|apply nE|apply nF|apply nG (by decide)|apply nH|apply nI|apply nJ))
      have hltp : t < ps.length := by omega
      (refine EX.rg (by intro KK hkk; unfold f47_r5; simp only [SX, Nat.reduceEqDiff, ↓reduceIte, Nat.reduceSub, Nat.reduceAdd, Nat.reduceLT, Nat.reduceLeDiff, I.quiet, false_implies, implies_true, -List.reduceReplicate, hlt, ld1_ef hlt o1l]; exact hkk) ?_)
      (refine EX.rg (by intro KK hkk; unfold f47_r6; simp only [SX, Nat.reduceEqDiff, ↓reduceIte, Nat.reduceSub, Nat.reduceAdd, Nat.reduceLT, Nat.reduceLeDiff, I.quiet, false_implies, implies_true, -List.reduceReplicate, hltp, ld1_ef hltp o1l]; exact hkk) ?_)
      refine EX.dec rfl (fun hd => ?_) (fun hd => ?_)
      · (refine EX.rg (by intro KK hkk; unfold f47_r7; simp only [SX, Nat.reduceEqDiff, ↓reduceIte, Nat.reduceSub, Nat.reduceAdd, Nat.reduceLT, Nat.reduceLeDiff, I.quiet, false_implies, implies_true, -List.reduceReplicate]; exact hkk) ?_)
        ((with_reducible repeat first|apply EX.seq|apply EX.blk); refine EX.ret ?_; (with_reducible repeat first|apply nA|apply nB|apply nC|apply nD|apply nE|apply nF|apply nG (by decide)|apply nH|apply nI|apply nJ); refine ⟨_, rfl, ?_⟩; simp only [packV, upd, Nat.reduceEqDiff, reduceIte, if_true, if_false, Nat.one_ne_zero, Nat.zero_ne_one])
        exact ⟨trivial, [], (app_nil hw).symm⟩
      (refine EX.skip ?_; (with_reducible repeat first|apply nA|apply nB|apply nC|apply nD|apply nE|apply nF|apply nG (by decide)|apply nH|apply nI|apply nJ))
      have hrl : (rd enter t).length = (rd ps t).length := by omega
      have hrb := hrb t hlt
      (refine EX.rg (by intro KK hkk; unfold f47_r8; simp only [SX, Nat.reduceEqDiff, ↓reduceIte, Nat.reduceSub, Nat.reduceAdd, Nat.reduceLT, Nat.reduceLeDiff, I.quiet, false_implies, implies_true, -List.reduceReplicate]; exact hkk) ?_)
      generalize hrow : rd enter t = row at *
      refine EX.cutR (F := fun T1 H1 => T1 0 = L ps ∧ T1 1 = L enter ∧ T1 27 = L enter ∧ T1 28 = .int .i64 enter.length ∧ T1 29 = .int .i64 (t : Nat) ∧ H1 = h ∧ ascB row = true) ?_ ?_
      · (with_reducible repeat first|apply EX.seq|apply EX.blk)
        refine EX.loop (σ := Nat) (fun k => upd (upd (upd (upd (upd (upd (upd TE 0 (L ps)) 1 (L enter)) 7 (L row)) 8 (.int .i64 ((k + 1 : Nat) : Int))) 27 (L enter)) 28 (.int .i64 enter.length)) 29 (.int .i64 (t : Nat))) (fun _ => h) (fun k => (k + 1 ≤ row.length ∨ k = 0) ∧ ∀ j, j < k → j + 1 < row.length → rd row j ≤ rd row (j + 1)) (fun k => row.length - k) 0 ⟨.inr rfl, fun j hj => by omega⟩ (Less.wk (by (repeat refine Less.upd ?_ (by rfl)); exact Less.nil)) ?_
        rintro k ⟨hk, hasc⟩
        (refine EX.rg (by intro KK hkk; unfold f47_r9; simp only [SX, Nat.reduceEqDiff, ↓reduceIte, Nat.reduceSub, Nat.reduceAdd, Nat.reduceLT, Nat.reduceLeDiff, I.quiet, false_implies, implies_true, -List.reduceReplicate, lt_nat]; exact hkk) ?_)
        (with_reducible repeat first|apply EX.seq|apply EX.blk)
        refine EX.dec rfl (fun hlk => ?_) (fun hlk => ?_)
        · (refine EX.skip ?_; (with_reducible repeat first|apply nA|apply nB|apply nC|apply nD|apply nE|apply nF|apply nG (by decide)|apply nH|apply nI|apply nJ))
          have hlk0 : k < row.length := by omega
          have hws := wrap_sub1 (show k < 4611686018427387904 by omega)
          (refine EX.dg (by intro KK hkk; unfold f47_r10; simp only [SX, Nat.reduceEqDiff, ↓reduceIte, Nat.reduceSub, Nat.reduceAdd, Nat.reduceLT, Nat.reduceLeDiff, I.quiet, false_implies, implies_true, -List.reduceReplicate, hlk, hlk0, hws, ld1_ef hlk o1i, ld1_ef hlk0 o1i]; exact hkk) ?_)
          refine EX.dec rfl (fun hc => ?_) (fun hc => ?_)
          · (refine EX.rg (by intro KK hkk; unfold f47_r11; simp only [SX, Nat.reduceEqDiff, ↓reduceIte, Nat.reduceSub, Nat.reduceAdd, Nat.reduceLT, Nat.reduceLeDiff, I.quiet, false_implies, implies_true, -List.reduceReplicate]; exact hkk) ?_)
            ((with_reducible repeat first|apply EX.seq|apply EX.blk); refine EX.ret ?_; (with_reducible repeat first|apply nA|apply nB|apply nC|apply nD|apply nE|apply nF|apply nG (by decide)|apply nH|apply nI|apply nJ); refine ⟨_, rfl, ?_⟩; simp only [packV, upd, Nat.reduceEqDiff, reduceIte, if_true, if_false, Nat.one_ne_zero, Nat.zero_ne_one])
            exact ⟨trivial, [], (app_nil hw).symm⟩
          · (refine EX.skip ?_; (with_reducible repeat first|apply nA|apply nB|apply nC|apply nD|apply nE|apply nF|apply nG (by decide)|apply nH|apply nI|apply nJ))
            (refine EX.rg (by intro KK hkk; unfold f47_r12; simp only [SX, Nat.reduceEqDiff, ↓reduceIte, Nat.reduceSub, Nat.reduceAdd, Nat.reduceLT, Nat.reduceLeDiff, I.quiet, false_implies, implies_true, -List.reduceReplicate, wrap_nat (show k + 1 < 4611686018427387904 by omega)]; exact hkk) ?_)
            refine ⟨k + 1, ⟨.inl hlk, fun j hj hj2 => ?_⟩, by omega, Less.wk (by (repeat refine Less.upd ?_ (by rfl)); exact Less.nil)⟩
            rcases Nat.lt_or_ge j k with h1 | h1
            · exact hasc j h1 hj2
            · obtain rfl : j = k := by omega
              omega
        · (refine EX.exit ?_; (with_reducible repeat first|apply nA|apply nB|apply nC|apply nD|apply nE|apply nF|apply nG (by decide)|apply nH|apply nI|apply nJ))
          exact ⟨rfl, rfl, rfl, rfl, rfl, rfl, ascB_true fun j hj => hasc j (by omega) hj⟩
      · rintro T1 H1 ⟨t0, t1, t27, t28, t29, rfl, hasc⟩
        (with_reducible repeat first|apply nA|apply nB|apply nC|apply nD|apply nE|apply nF|apply nG (by decide)|apply nH|apply nI|apply nJ)
        (refine EX.rg (by intro KK hkk; unfold f47_r13; simp only [SX, Nat.reduceEqDiff, ↓reduceIte, Nat.reduceSub, Nat.reduceAdd, Nat.reduceLT, Nat.reduceLeDiff, I.quiet, false_implies, implies_true, -List.reduceReplicate, t29, wrap_nat (show t < 4611686018427387904 by omega)]; exact hkk) ?_)
        refine ⟨t + 1, ⟨hlt, fun i hi => ?_⟩, by omega, Less.wk ?_⟩
        · rcases Nat.lt_or_ge i t with h1 | h1
          · exact hrows i h1
          · obtain rfl : i = t := by omega
            rw [hrow]; simp [rowB, hrl, hasc]
        · refine Less.upd (Less.upd (Less.upd (Less.upd (Less.upd Less.nil ?_) ?_) ?_) ?_) ?_ <;> simp [upd, t0, t1, t27, t28]
    · exfalso
      have : enterB ps enter = true := by
        unfold enterB
        rw [decide_eq_true hel, Bool.true_and, List.all_eq_true]
        exact fun i hi => hrows i (by have := List.mem_range.1 hi; omega)
      rw [this] at hen; cases hen
  | true =>
    rw [if_pos rfl]
    have hel := enterB_len hen
    refine AC.wf fun hw => AC.of_app hw srtV_cl ?_
    refine EC.intro f47_is ?_
    unfold f47_c
    (refine EX.rg (by intro KK hkk; unfold f47_r0; simp only [SX, Nat.reduceEqDiff, ↓reduceIte, Nat.reduceSub, Nat.reduceAdd, Nat.reduceLT, Nat.reduceLeDiff, I.quiet, false_implies, implies_true, -List.reduceReplicate]; exact hkk) ?_)
    (refine EX.rg (by intro KK hkk; unfold f47_r1; simp only [SX, Nat.reduceEqDiff, ↓reduceIte, Nat.reduceSub, Nat.reduceAdd, Nat.reduceLT, Nat.reduceLeDiff, I.quiet, false_implies, implies_true, -List.reduceReplicate, hval]; refine RO_callvS (f27_ok) ?_; simp only [SX, Nat.reduceEqDiff, ↓reduceIte, Nat.reduceSub, Nat.reduceAdd, Nat.reduceLT, Nat.reduceLeDiff, I.quiet, false_implies, implies_true, -List.reduceReplicate, hval]; exact hkk) ?_)
    refine EX.dec rfl (fun hd => absurd hd (by omega)) (fun hd => ?_)
    (refine EX.skip ?_; (with_reducible repeat first|apply nA|apply nB|apply nC|apply nD|apply nE|apply nF|apply nG (by decide)|apply nH|apply nI|apply nJ))
    (refine EX.rg (by intro KK hkk; unfold f47_r3; simp only [SX, Nat.reduceEqDiff, ↓reduceIte, Nat.reduceSub, Nat.reduceAdd, Nat.reduceLT, Nat.reduceLeDiff, I.quiet, false_implies, implies_true, -List.reduceReplicate]; exact hkk) ?_)
    refine EX.nxtR (F := fun T1 H1 => T1 0 = L ps ∧ T1 1 = L enter ∧ H1 = h) ?_ ?_
    · (with_reducible repeat first|apply EX.seq|apply EX.blk)
      refine EX.loop (σ := Nat) (fun t => upd (upd (upd (upd (upd TE 0 (L ps)) 1 (L enter)) 27 (L enter)) 28 (.int .i64 enter.length)) 29 (.int .i64 (t : Nat))) (fun _ => h) (fun t => t ≤ enter.length) (fun t => enter.length - t) 0 (Nat.zero_le _) (Less.wk (by (repeat refine Less.upd ?_ (by rfl)); exact Less.nil)) ?_
      intro t ht
      (refine EX.rg (by intro KK hkk; unfold f47_r4; simp only [SX, Nat.reduceEqDiff, ↓reduceIte, Nat.reduceSub, Nat.reduceAdd, Nat.reduceLT, Nat.reduceLeDiff, I.quiet, false_implies, implies_true, -List.reduceReplicate, lt_nat]; exact hkk) ?_)
      (with_reducible repeat first|apply EX.seq|apply EX.blk)
      refine EX.dec rfl (fun hlt => ?_) (fun hlt => ?_)
      · (refine EX.skip ?_; (with_reducible repeat first|apply nA|apply nB|apply nC|apply nD|apply nE|apply nF|apply nG (by decide)|apply nH|apply nI|apply nJ))
        have hltp : t < ps.length := by omega
        obtain ⟨hrl, hra⟩ := enterB_row hen hltp
        have hrb := hrb t hlt
        (refine EX.rg (by intro KK hkk; unfold f47_r5; simp only [SX, Nat.reduceEqDiff, ↓reduceIte, Nat.reduceSub, Nat.reduceAdd, Nat.reduceLT, Nat.reduceLeDiff, I.quiet, false_implies, implies_true, -List.reduceReplicate, hlt, ld1_ef hlt o1l]; exact hkk) ?_)
        (refine EX.rg (by intro KK hkk; unfold f47_r6; simp only [SX, Nat.reduceEqDiff, ↓reduceIte, Nat.reduceSub, Nat.reduceAdd, Nat.reduceLT, Nat.reduceLeDiff, I.quiet, false_implies, implies_true, -List.reduceReplicate, hltp, ld1_ef hltp o1l]; exact hkk) ?_)
        refine EX.dec rfl (fun hd => absurd hd (by omega)) (fun hd => ?_)
        (refine EX.skip ?_; (with_reducible repeat first|apply nA|apply nB|apply nC|apply nD|apply nE|apply nF|apply nG (by decide)|apply nH|apply nI|apply nJ))
        (refine EX.rg (by intro KK hkk; unfold f47_r8; simp only [SX, Nat.reduceEqDiff, ↓reduceIte, Nat.reduceSub, Nat.reduceAdd, Nat.reduceLT, Nat.reduceLeDiff, I.quiet, false_implies, implies_true, -List.reduceReplicate]; exact hkk) ?_)
        generalize hrow : rd enter t = row at *
        refine EX.cutR (F := fun T1 H1 => T1 0 = L ps ∧ T1 1 = L enter ∧ T1 27 = L enter ∧ T1 28 = .int .i64 enter.length ∧ T1 29 = .int .i64 (t : Nat) ∧ H1 = h) ?_ ?_
        · (with_reducible repeat first|apply EX.seq|apply EX.blk)
          refine EX.loop (σ := Nat) (fun k => upd (upd (upd (upd (upd (upd (upd TE 0 (L ps)) 1 (L enter)) 7 (L row)) 8 (.int .i64 ((k + 1 : Nat) : Int))) 27 (L enter)) 28 (.int .i64 enter.length)) 29 (.int .i64 (t : Nat))) (fun _ => h) (fun k => (k + 1 ≤ row.length ∨ k = 0)) (fun k => row.length - k) 0 (.inr rfl) (Less.wk (by (repeat refine Less.upd ?_ (by rfl)); exact Less.nil)) ?_
          intro k hk
          (refine EX.rg (by intro KK hkk; unfold f47_r9; simp only [SX, Nat.reduceEqDiff, ↓reduceIte, Nat.reduceSub, Nat.reduceAdd, Nat.reduceLT, Nat.reduceLeDiff, I.quiet, false_implies, implies_true, -List.reduceReplicate, lt_nat]; exact hkk) ?_)
          (with_reducible repeat first|apply EX.seq|apply EX.blk)
          refine EX.dec rfl (fun hlk => ?_) (fun hlk => ?_)
          · (refine EX.skip ?_; (with_reducible repeat first|apply nA|apply nB|apply nC|apply nD|apply nE|apply nF|apply nG (by decide)|apply nH|apply nI|apply nJ))
            have hlk0 : k < row.length := by omega
            have hws := wrap_sub1 (show k < 4611686018427387904 by omega)
            (refine EX.dg (by intro KK hkk; unfold f47_r10; simp only [SX, Nat.reduceEqDiff, ↓reduceIte, Nat.reduceSub, Nat.reduceAdd, Nat.reduceLT, Nat.reduceLeDiff, I.quiet, false_implies, implies_true, -List.reduceReplicate, hlk, hlk0, hws, ld1_ef hlk o1i, ld1_ef hlk0 o1i]; exact hkk) ?_)
            refine EX.dec rfl (fun hc => ?_) (fun hc => ?_)
            · rw [ascB_false hlk hc] at hra; cases hra
            · (refine EX.skip ?_; (with_reducible repeat first|apply nA|apply nB|apply nC|apply nD|apply nE|apply nF|apply nG (by decide)|apply nH|apply nI|apply nJ))
              (refine EX.rg (by intro KK hkk; unfold f47_r12; simp only [SX, Nat.reduceEqDiff, ↓reduceIte, Nat.reduceSub, Nat.reduceAdd, Nat.reduceLT, Nat.reduceLeDiff, I.quiet, false_implies, implies_true, -List.reduceReplicate, wrap_nat (show k + 1 < 4611686018427387904 by omega)]; exact hkk) ?_)
              exact ⟨k + 1, .inl hlk, by omega, Less.wk (by (repeat refine Less.upd ?_ (by rfl)); exact Less.nil)⟩
          · (refine EX.exit ?_; (with_reducible repeat first|apply nA|apply nB|apply nC|apply nD|apply nE|apply nF|apply nG (by decide)|apply nH|apply nI|apply nJ))
            exact ⟨rfl, rfl, rfl, rfl, rfl, rfl⟩
        · rintro T1 H1 ⟨t0, t1, t27, t28, t29, rfl⟩
          (with_reducible repeat first|apply nA|apply nB|apply nC|apply nD|apply nE|apply nF|apply nG (by decide)|apply nH|apply nI|apply nJ)
          (refine EX.rg (by intro KK hkk; unfold f47_r13; simp only [SX, Nat.reduceEqDiff, ↓reduceIte, Nat.reduceSub, Nat.reduceAdd, Nat.reduceLT, Nat.reduceLeDiff, I.quiet, false_implies, implies_true, -List.reduceReplicate, t29, wrap_nat (show t < 4611686018427387904 by omega)]; exact hkk) ?_)
          refine ⟨t + 1, hlt, by omega, Less.wk ?_⟩
          refine Less.upd (Less.upd (Less.upd (Less.upd (Less.upd Less.nil ?_) ?_) ?_) ?_) ?_ <;> simp [upd, t0, t1, t27, t28]
      · (refine EX.exit ?_; (with_reducible repeat first|apply nA|apply nB|apply nC|apply nD|apply nE|apply nF|apply nG (by decide)|apply nH|apply nI|apply nJ))
        exact ⟨rfl, rfl, rfl⟩
    · rintro T1 H1 ⟨t0, t1, rfl⟩
      (with_reducible repeat first|apply nA|apply nB|apply nC|apply nD|apply nE|apply nF|apply nG (by decide)|apply nH|apply nI|apply nJ)
      (refine EX.rg (by intro KK hkk; unfold f47_r14; simp only [SX, Nat.reduceEqDiff, ↓reduceIte, Nat.reduceSub, Nat.reduceAdd, Nat.reduceLT, Nat.reduceLeDiff, I.quiet, false_implies, implies_true, -List.reduceReplicate]; exact hkk) ?_)
      (refine EX.rg (by intro KK hkk; unfold f47_r15; simp only [SX, Nat.reduceEqDiff, ↓reduceIte, Nat.reduceSub, Nat.reduceAdd, Nat.reduceLT, Nat.reduceLeDiff, I.quiet, false_implies, implies_true, -List.reduceReplicate]; exact hkk) ?_)
      refine EX.nxtR (F := fun T2 H2 => ∃ v9 bs, T2 9 = v9 ∧ H2 = H1.app bs ∧ OwnG 45 H1.next bs v9 (allTo (sortL ps enter) 144)) ?_ ?_
      · (with_reducible repeat first|apply EX.seq|apply EX.blk)
        refine EX.loop (σ := Nat × Value × List (Option Blk)) (fun s => upd (upd (upd (upd TE 0 (L ps)) 1 (L enter)) 9 s.2.1) 10 (.int .i64 (s.1 : Nat))) (fun s => H1.app s.2.2)
          (fun s => s.1 ≤ 144 ∧ OwnG 45 H1.next s.2.2 s.2.1 (allTo (sortL ps enter) s.1)) (fun s => 144 - s.1) (0, .slice none 0 0, []) ⟨Nat.zero_le _, .inl ⟨rfl, rfl⟩⟩ ?_ ?_
        · rw [app_nil hw]
          refine Less.wk ?_
          refine Less.upd (Less.upd (Less.upd (Less.upd Less.nil ?_) ?_) ?_) ?_ <;> simp [upd, t0, t1]
        rintro ⟨r, v9, bs⟩ ⟨hr, ho9⟩
        simp only at hr ho9
        have h144 : ((r : Int) < 144) = (r < 144) := by apply propext; omega
        have hnx : allTo (sortL ps enter) (r + 1) = allTo (sortL ps enter) r ++ if sortL ps enter r ≠ [] then [⟨(r : Int), sortL ps enter r⟩] else [] := rfl
        have hal9 := allTo_len (ls := sortL ps enter) r
        (refine EX.rg (by intro KK hkk; unfold f47_r16; simp only [SX, Nat.reduceEqDiff, ↓reduceIte, Nat.reduceSub, Nat.reduceAdd, Nat.reduceLT, Nat.reduceLeDiff, I.quiet, false_implies, implies_true, -List.reduceReplicate, h144]; exact hkk) ?_)
        (with_reducible repeat first|apply EX.seq|apply EX.blk)
        refine EX.dec rfl (fun hlt => ?_) (fun hlt => ?_)
        · (refine EX.skip ?_; (with_reducible repeat first|apply nA|apply nB|apply nC|apply nD|apply nE|apply nF|apply nG (by decide)|apply nH|apply nI|apply nJ))
          (refine EX.rg (by intro KK hkk; unfold f47_r17; simp only [SX, Nat.reduceEqDiff, ↓reduceIte, Nat.reduceSub, Nat.reduceAdd, Nat.reduceLT, Nat.reduceLeDiff, I.quiet, false_implies, implies_true, -List.reduceReplicate]; exact hkk) ?_)
          have c66 := fun H : AH => f66_ok (h := H) (r := (r : Int)) hp
          have hall := allR_len (r := (r : Int)) hp ps.length (Nat.le_refl _)
          have hau := allR_ok (ps := ps) (r := (r : Int)) (Nat.le_refl ps.length)
          have hsl : sortL ps enter r = sortT (enO enter) (allR ps (r : Int) ps.length) (allR ps (r : Int) ps.length).length := rfl
          (refine EX.rg (by intro KK hkk; unfold f47_r18; simp only [SX, Nat.reduceEqDiff, ↓reduceIte, Nat.reduceSub, Nat.reduceAdd, Nat.reduceLT, Nat.reduceLeDiff, I.quiet, false_implies, implies_true, -List.reduceReplicate]; refine RO_callvS (c66 _) ?_; simp only [SX, Nat.reduceEqDiff, ↓reduceIte, Nat.reduceSub, Nat.reduceAdd, Nat.reduceLT, Nat.reduceLeDiff, I.quiet, false_implies, implies_true, -List.reduceReplicate]; exact hkk) ?_)
          generalize allR ps (r : Int) ps.length = all at *
          (refine EX.rg (by intro KK hkk; unfold f47_r19; simp only [SX, Nat.reduceEqDiff, ↓reduceIte, Nat.reduceSub, Nat.reduceAdd, Nat.reduceLT, Nat.reduceLeDiff, I.quiet, false_implies, implies_true, -List.reduceReplicate]; exact hkk) ?_)
          refine EX.cutR (F := fun T2 H2 => ∃ v11 bs2, T2 0 = L ps ∧ T2 1 = L enter ∧ T2 9 = v9 ∧ T2 10 = .int .i64 (r : Nat) ∧ T2 11 = v11 ∧ H2 = H1.app bs2 ∧ OwnG 45 H1.next bs2 v9 (allTo (sortL ps enter) r) ∧ OwnG 48 H1.next bs2 v11 (sortL ps enter r)) ?_ ?_
          · (with_reducible repeat first|apply EX.seq|apply EX.blk)
            refine EX.loop (σ := Nat × Value × List (Option Blk)) (fun s => upd (upd (upd (upd (upd (upd (upd (upd TE 0 (L ps)) 1 (L enter)) 9 v9) 10 (.int .i64 (r : Nat))) 11 s.2.1) 66 (L all)) 67 (.int .i64 all.length)) 68 (.int .i64 (s.1 : Nat))) (fun s => H1.app s.2.2)
              (fun s => s.1 ≤ all.length ∧ OwnG 45 H1.next s.2.2 v9 (allTo (sortL ps enter) r) ∧ OwnG 48 H1.next s.2.2 s.2.1 (sortT (enO enter) all s.1)) (fun s => all.length - s.1) (0, .slice none 0 0, bs) ⟨Nat.zero_le _, ho9, .inl ⟨rfl, rfl⟩⟩ (Less.wk (by (repeat refine Less.upd ?_ (by rfl)); exact Less.nil)) ?_
            rintro ⟨i, v11, bs3⟩ ⟨hi, o9, o11⟩
            simp only at hi o9 o11
            (refine EX.rg (by intro KK hkk; unfold f47_r20; simp only [SX, Nat.reduceEqDiff, ↓reduceIte, Nat.reduceSub, Nat.reduceAdd, Nat.reduceLT, Nat.reduceLeDiff, I.quiet, false_implies, implies_true, -List.reduceReplicate, lt_nat]; exact hkk) ?_)
            (with_reducible repeat first|apply EX.seq|apply EX.blk)
            refine EX.dec rfl (fun hli => ?_) (fun hli => ?_)
            · (refine EX.skip ?_; (with_reducible repeat first|apply nA|apply nB|apply nC|apply nD|apply nE|apply nF|apply nG (by decide)|apply nH|apply nI|apply nJ))
              have huu := hau _ (rd_mem hli)
              have hls := sortT_len (e := enO enter) (all := all) i
              have hlm : ∀ x ∈ sortT (enO enter) all i, UseOk ps x := fun x hx => hau x (sortT_mem hi x hx)
              have hins : sortT (enO enter) all (i + 1) = insM' (enO enter) (sortT (enO enter) all i) (rd all i) := rfl
              (refine EX.rg (by intro KK hkk; unfold f47_r21; simp only [SX, Nat.reduceEqDiff, ↓reduceIte, Nat.reduceSub, Nat.reduceAdd, Nat.reduceLT, Nat.reduceLeDiff, I.quiet, false_implies, implies_true, -List.reduceReplicate, hli, wref, lds_ref hli, hw.roi, stAt_all, get_last, set_last, lt_last]; exact hkk) ?_)
              generalize rd all i = u at *
              generalize sortT (enO enter) all i = l at *
              have b14 : (bs3 ++ [some (Blk.row 48 0 [.int .i64 u.1, .int .i64 u.2])])[bs3.length]? = some (some (.row 48 0 [.int .i64 u.1, .int .i64 u.2])) := get_last
              have o9' := o9.ext (l := [some (Blk.row 48 0 [.int .i64 u.1, .int .i64 u.2])])
              have o11' := o11.ext (l := [some (Blk.row 48 0 [.int .i64 u.1, .int .i64 u.2])])
              generalize bs3 ++ [some (Blk.row 48 0 [.int .i64 u.1, .int .i64 u.2])] = bs4 at *
              generalize bs3.length = i14 at *
              (refine EX.rg (by intro KK hkk; unfold f47_r22; simp only [SX, Nat.reduceEqDiff, ↓reduceIte, Nat.reduceSub, Nat.reduceAdd, Nat.reduceLT, Nat.reduceLeDiff, I.quiet, false_implies, implies_true, -List.reduceReplicate, o11'.lens]; exact hkk) ?_)
              refine EX.seqR (F := fun T2 H2 => T2 0 = L ps ∧ T2 1 = L enter ∧ T2 9 = v9 ∧ T2 10 = .int .i64 (r : Nat) ∧ T2 11 = v11 ∧ T2 14 = .pointer (some ⟨H1.next + i14, 0, none⟩) ∧ T2 15 = .int .i64 (posM (enO enter) l u l.length : Nat) ∧ T2 66 = L all ∧ T2 67 = .int .i64 all.length ∧ T2 68 = .int .i64 (i : Nat) ∧ H2 = H1.app bs4) ?_ ?_
              · (with_reducible repeat first|apply EX.seq|apply EX.blk)
                refine EX.loop (σ := Nat) (fun k => upd (upd (upd (upd (upd (upd (upd (upd (upd (upd TE 0 (L ps)) 1 (L enter)) 9 v9) 10 (.int .i64 (r : Nat))) 11 v11) 14 (.pointer (some ⟨H1.next + i14, 0, none⟩))) 15 (.int .i64 (k : Nat))) 66 (L all)) 67 (.int .i64 all.length)) 68 (.int .i64 (i : Nat))) (fun _ => H1.app bs4)
                  (fun k => k ≤ l.length ∧ posM (enO enter) l u l.length = posM (enO enter) l u k) (fun k => k) l.length ⟨Nat.le_refl _, rfl⟩ (Less.wk (by (repeat refine Less.upd ?_ (by rfl)); exact Less.nil)) ?_
                rintro k ⟨hk, hpos⟩
                (with_reducible repeat first|apply EX.seq|apply EX.blk)
                refine f47_r23_ok hen huu hlm (by omega) o11' b14 hk rfl rfl rfl rfl (fun T2 hT u104 => ?_)
                have u0 := (hT 0 (.inl (by decide))).trans rfl
                have u1 := (hT 1 (.inl (by decide))).trans rfl
                have u9 := (hT 9 (.inl (by decide))).trans rfl
                have u10 := (hT 10 (.inl (by decide))).trans rfl
                have u11 := (hT 11 (.inl (by decide))).trans rfl
                have u14 := (hT 14 (.inl (by decide))).trans rfl
                have u15 := (hT 15 (.inl (by decide))).trans rfl
                have u66 := (hT 66 (.inl (by decide))).trans rfl
                have u67 := (hT 67 (.inl (by decide))).trans rfl
                have u68 := (hT 68 (.inl (by decide))).trans rfl
                simp only [upd, Nat.reduceEqDiff, reduceIte] at u0 u1 u9 u10 u11 u14 u15 u66 u67 u68
                clear hT
                (with_reducible repeat first|apply nA|apply nB|apply nC|apply nD|apply nE|apply nF|apply nG (by decide)|apply nH|apply nI|apply nJ)
                cases k with
                | zero =>
                  refine EX.condF (by simpa [Opd.ev] using u104) ?_
                  (refine EX.exit ?_; (with_reducible repeat first|apply nA|apply nB|apply nC|apply nD|apply nE|apply nF|apply nG (by decide)|apply nH|apply nI|apply nJ))
                  exact ⟨u0, u1, u9, u10, u11, u14, by rw [u15, hpos]; rfl, u66, u67, u68, rfl⟩
                | succ k' =>
                  refine EX.dec (by simpa [Opd.ev] using u104) (fun hc => ?_) (fun hc => ?_)
                  · (refine EX.skip ?_; (with_reducible repeat first|apply nA|apply nB|apply nC|apply nD|apply nE|apply nF|apply nG (by decide)|apply nH|apply nI|apply nJ))
                    (refine EX.rg (by intro KK hkk; unfold f47_r24; simp only [SX, Nat.reduceEqDiff, ↓reduceIte, Nat.reduceSub, Nat.reduceAdd, Nat.reduceLT, Nat.reduceLeDiff, I.quiet, false_implies, implies_true, -List.reduceReplicate, u15, wrap_sub1 (show k' < 4611686018427387904 by omega)]; exact hkk) ?_)
                    refine ⟨k', ⟨by omega, by rw [hpos, posM, if_pos hc]⟩, Nat.lt_succ_self _, Less.wk ?_⟩
                    refine Less.upd (Less.upd (Less.upd (Less.upd (Less.upd (Less.upd (Less.upd (Less.upd (Less.upd (Less.upd Less.nil ?_) ?_) ?_) ?_) ?_) ?_) ?_) ?_) ?_) ?_ <;> simp [upd, u0, u1, u9, u10, u11, u14, u66, u67, u68]
                  · (refine EX.exit ?_; (with_reducible repeat first|apply nA|apply nB|apply nC|apply nD|apply nE|apply nF|apply nG (by decide)|apply nH|apply nI|apply nJ))
                    exact ⟨u0, u1, u9, u10, u11, u14, by rw [u15, hpos, posM, if_neg hc], u66, u67, u68, rfl⟩
              · rintro T2 H2 ⟨u0, u1, u9, u10, u11, u14, u15, u66, u67, u68, rfl⟩
                (with_reducible repeat first|apply nA|apply nB|apply nC|apply nD|apply nE|apply nF|apply nG (by decide)|apply nH|apply nI|apply nJ)
                refine f47_ins_ok hw (by omega) o9' o11' b14 (posM_le _) u11 u14 u15 (fun T3 bs5 v11' hT w11 o9'' o11'' => ?_)
                have w0 := (hT 0 (.inl (by decide))).trans u0
                have w1 := (hT 1 (.inl (by decide))).trans u1
                have w9 := (hT 9 (.inl (by decide))).trans u9
                have w10 := (hT 10 (.inl (by decide))).trans u10
                have w66 := (hT 66 (.inr (.inl (by decide)))).trans u66
                have w67 := (hT 67 (.inr (.inl (by decide)))).trans u67
                have w68 := (hT 68 (.inr (.inl (by decide)))).trans u68
                clear hT
                (with_reducible repeat first|apply nA|apply nB|apply nC|apply nD|apply nE|apply nF|apply nG (by decide)|apply nH|apply nI|apply nJ)
                (refine EX.rg (by intro KK hkk; unfold f47_r28; simp only [SX, Nat.reduceEqDiff, ↓reduceIte, Nat.reduceSub, Nat.reduceAdd, Nat.reduceLT, Nat.reduceLeDiff, I.quiet, false_implies, implies_true, -List.reduceReplicate, w68, wrap_nat (show i < 4611686018427387904 by omega)]; exact hkk) ?_)
                refine ⟨(i + 1, v11', bs5), ⟨hli, o9'', by rw [hins]; exact o11''⟩, by show all.length - (i + 1) < all.length - i; omega, Less.wk ?_⟩
                refine Less.upd (Less.upd (Less.upd (Less.upd (Less.upd (Less.upd (Less.upd (Less.upd Less.nil ?_) ?_) ?_) ?_) ?_) ?_) ?_) ?_ <;> simp [upd, w0, w1, w9, w10, w11, w66, w67]
            · (refine EX.exit ?_; (with_reducible repeat first|apply nA|apply nB|apply nC|apply nD|apply nE|apply nF|apply nG (by decide)|apply nH|apply nI|apply nJ))
              obtain rfl : i = all.length := by omega
              exact ⟨v11, bs3, rfl, rfl, rfl, rfl, rfl, rfl, o9, by rw [hsl]; exact o11⟩
          · rintro T2 H2 ⟨v11, bs2, u0, u1, u9, u10, u11, rfl, o9, o11⟩
            have hsll : (sortL ps enter r).length = all.length := by rw [hsl, sortT_len]
            generalize sortL ps enter r = l at *
            (with_reducible repeat first|apply nA|apply nB|apply nC|apply nD|apply nE|apply nF|apply nG (by decide)|apply nH|apply nI|apply nJ)
            (refine EX.rg (by intro KK hkk; unfold f47_r29; simp only [SX, Nat.reduceEqDiff, ↓reduceIte, Nat.reduceSub, Nat.reduceAdd, Nat.reduceLT, Nat.reduceLeDiff, I.quiet, false_implies, implies_true, -List.reduceReplicate, u11, o11.lens]; exact hkk) ?_)
            refine EX.cutR (F := fun T3 H3 => ∃ v9' bs5, T3 0 = L ps ∧ T3 1 = L enter ∧ T3 9 = v9' ∧ T3 10 = .int .i64 (r : Nat) ∧ H3 = H1.app bs5 ∧ OwnG 45 H1.next bs5 v9' (allTo (sortL ps enter) (r + 1))) ?_ ?_
            · refine EX.dec rfl (fun hd => ?_) (fun hd => ?_)
              · have hne : l ≠ [] := by intro e; rw [e] at hd; simp at hd
                obtain ⟨bs6, l6, k6, wk⟩ := o11.frzT (r := 11) (T := upd (upd (upd T2 121 v11) 122 (.int .i64 l.length)) 123 (.bool (decide ((0 : Int) < l.length)))) (T0 := upd (upd (upd (upd TE 0 (L ps)) 1 (L enter)) 9 v9) 10 (.int .i64 (r : Nat))) hw (by omega) (by simp only [upd, Nat.reduceEqDiff, reduceIte]; exact u11) (fun i hi => by
                  unfold Go.Proofs.Ythofdojknjhpgaa.upd
                  by_cases e10 : i = 10
                  · subst e10; exact .inr (by simp [u10])
                  by_cases e9 : i = 9
                  · subst e9; exact .inr (by simp [u9])
                  by_cases e1 : i = 1
                  · subst e1; exact .inr (by simp [u1])
                  by_cases e0 : i = 0
                  · subst e0; exact .inr (by simp [u0])
                  rw [if_neg e10, if_neg e9, if_neg e1, if_neg e0]; exact .inl rfl)
                have o9' : OwnG 45 H1.next bs6 v9 (allTo (sortL ps enter) r) := o9.keep fun i c hi => k6 i _ hi fun x y e => by
                  obtain ⟨j, g1, g2⟩ := o11.lt e
                  obtain rfl : j = i := by omega
                  rw [hi] at g2; cases g2
                refine EX.wk ?_ wk
                obtain ⟨bs7, ap, ow, keep⟩ := o9'.push (x := (⟨(r : Int), l⟩ : Ordr)) (e := 2) (bytes := 32) rfl hw (by omega) (by omega)
                have hce : Enc.cells (⟨(r : Int), l⟩ : Ordr) = [.int .i64 (r : Int), L l] := rfl
                rw [hce] at ap
                refine EX.rg (by intro KK hkk; unfold f47_r30; simp only [SX, Nat.reduceEqDiff, ↓reduceIte, Nat.reduceSub, Nat.reduceAdd, Nat.reduceLT, Nat.reduceLeDiff, I.quiet, false_implies, implies_true, -List.reduceReplicate, fill1_agg, ap]; exact hkk) ?_
                exact ⟨_, bs7, rfl, rfl, rfl, rfl, rfl, by rw [hnx, if_pos hne]; exact ow⟩
              · refine EX.skip ?_
                (with_reducible repeat first|apply nA|apply nB|apply nC|apply nD|apply nE|apply nF|apply nG (by decide)|apply nH|apply nI|apply nJ)
                have hz : l = [] := List.eq_nil_of_length_eq_zero (by omega)
                refine ⟨v9, bs2, ?_, ?_, ?_, ?_, rfl, by rw [hnx, if_neg (by simp [hz]), List.append_nil]; exact o9⟩ <;> simp [upd, u0, u1, u9, u10]
            · rintro T3 H3 ⟨v9', bs5, w0, w1, w9, w10, rfl, ow⟩
              (with_reducible repeat first|apply nA|apply nB|apply nC|apply nD|apply nE|apply nF|apply nG (by decide)|apply nH|apply nI|apply nJ)
              (refine EX.rg (by intro KK hkk; unfold f47_r31; simp only [SX, Nat.reduceEqDiff, ↓reduceIte, Nat.reduceSub, Nat.reduceAdd, Nat.reduceLT, Nat.reduceLeDiff, I.quiet, false_implies, implies_true, -List.reduceReplicate, w10, wrap_nat (show r < 4611686018427387904 by omega)]; exact hkk) ?_)
              refine ⟨(r + 1, v9', bs5), ⟨hlt, ow⟩, by show 144 - (r + 1) < 144 - r; omega, Less.wk ?_⟩
              refine Less.upd (Less.upd (Less.upd (Less.upd Less.nil ?_) ?_) ?_) ?_ <;> simp [upd, w0, w1, w9]
        · (refine EX.exit ?_; (with_reducible repeat first|apply nA|apply nB|apply nC|apply nD|apply nE|apply nF|apply nG (by decide)|apply nH|apply nI|apply nJ))
          obtain rfl : r = 144 := by omega
          exact ⟨v9, bs, rfl, rfl, ho9⟩
      · rintro T2 H2 ⟨v9, bs, u9, rfl, o9⟩
        have hal9 := allTo_len (ls := sortL ps enter) 144
        (with_reducible repeat first|apply nA|apply nB|apply nC|apply nD|apply nE|apply nF|apply nG (by decide)|apply nH|apply nI|apply nJ)
        (refine EX.rg (by intro KK hkk; unfold f47_r32; simp only [SX, Nat.reduceEqDiff, ↓reduceIte, Nat.reduceSub, Nat.reduceAdd, Nat.reduceLT, Nat.reduceLeDiff, I.quiet, false_implies, implies_true, -List.reduceReplicate, u9]; exact hkk) ?_)
        (with_reducible repeat first|apply EX.seq|apply EX.blk)
        refine EX.wk (T0 := upd (upd TE 5 (.int .i64 0)) 4 (L (allTo (sortL ps enter) 144))) (h0 := H1) ?_ (o9.retT (r := 4) (T0 := upd TE 5 (.int .i64 0)) hw (by omega) rfl (fun i => ?_))
        · ((with_reducible repeat first|apply EX.seq|apply EX.blk); refine EX.ret ?_; (with_reducible repeat first|apply nA|apply nB|apply nC|apply nD|apply nE|apply nF|apply nG (by decide)|apply nH|apply nI|apply nJ); refine ⟨_, rfl, ?_⟩; simp only [packV, upd, Nat.reduceEqDiff, reduceIte, if_true, if_false, Nat.one_ne_zero, Nat.zero_ne_one])
          exact ⟨trivial, [], (app_nil hw).symm⟩
        · unfold Go.Proofs.Ythofdojknjhpgaa.upd; split
          · rename_i e; subst e; exact .inr ⟨Cl.int, rfl⟩
          · exact .inl rfl
end
end Go.Proofs.Ythofdojknjhpgaa
set_option linter.unusedVariables false
set_option linter.unusedSimpArgs false
namespace Go.Proofs.Ythofdojknjhpgaa
open Go
theorem valid_stage {ps : List (List Stg)} (h : validB ps = true) {t k : Nat} (ht : t < ps.length) (hk : k < (rd ps t).length) : stageB (rd (rd ps t) k) = true := by
  simp only [validB, Bool.and_eq_true, List.all_eq_true] at h
  have h2 := h.1.2 _ (rd_mem ht)
  simp only [pathB, Bool.and_eq_true, List.all_eq_true, List.mem_range] at h2
  have h3 := h2.2 k hk
  simp only [stOk, List.getElem?_eq_getElem hk, Bool.and_eq_true] at h3
  rw [rdq (xs := rd ps t) hk]
  exact h3.1
theorem stgL_at {ls : Nat → List (Int × Int)} {u : Int × Int} {g : Stg} (hg : stageB g = true) {r : Nat} : stgL ls u g r = ls r ++ if usedB g (r : Int) = true then [u] else [] := by
  simp only [stageB, Bool.and_eq_true, decide_eq_true_eq, List.all_eq_true] at hg
  obtain ⟨⟨⟨⟨⟨h1, h2⟩, h3⟩, _⟩, _⟩, _⟩ := hg
  have hs : 0 ≤ g.sec := by simp only [resB, decide_eq_true_eq] at h3; exact h3.1
  have hpt : ∀ j, j < g.pts.length → 0 ≤ rd g.pts j ∧ rd g.pts j ≠ g.sec := fun j hj => by
    have := h1 _ (rd_mem hj)
    simp only [resB, decide_eq_true_eq] at this
    exact ⟨this.1.1, this.2⟩
  have hnd : ∀ i j, i < j → j < g.pts.length → rd g.pts i ≠ rd g.pts j := fun i j hij hj => by
    rw [rdq hj, rdq (show i < g.pts.length by omega)]
    intro e
    exact List.pairwise_iff_getElem.1 h2 i j (by omega) hj hij e
  have key : ∀ j, j ≤ g.pts.length → lsT (addL ls g.sec.toNat u) u g.pts j r = ls r ++ if (g.sec = (r : Int) ∨ ∃ i, i < j ∧ rd g.pts i = (r : Int)) then [u] else [] := by
    intro j
    induction j with
    | zero =>
      intro _
      simp only [lsT, addL]
      by_cases e : r = g.sec.toNat
      · rw [if_pos e, if_pos (.inl (by omega))]
      · rw [if_neg e, if_neg (by rintro (e1 | ⟨i, hi, _⟩) <;> omega), List.append_nil]
    | succ j ih =>
      intro hj
      have hjl : j < g.pts.length := by omega
      obtain ⟨p0, p1⟩ := hpt j hjl
      simp only [lsT, addL]
      rw [ih (by omega)]
      by_cases e : r = (rd g.pts j).toNat
      · rw [if_pos e, if_neg, if_pos (.inr ⟨j, by omega, by omega⟩), List.append_nil]
        rintro (e1 | ⟨i, hi, e1⟩)
        · exact p1 (by omega)
        · exact hnd i j hi hjl (by omega)
      · rw [if_neg e]
        congr 2
        apply propext
        constructor
        · rintro (e1 | ⟨i, hi, e1⟩)
          · exact .inl e1
          · exact .inr ⟨i, by omega, e1⟩
        · rintro (e1 | ⟨i, hi, e1⟩)
          · exact .inl e1
          · rcases Nat.lt_or_ge i j with h4 | h4
            · exact .inr ⟨i, h4, e1⟩
            · obtain rfl : i = j := by omega
              omega
  rw [stgL, key _ (Nat.le_refl _)]
  congr 1
  have : (g.sec = (r : Int) ∨ ∃ i, i < g.pts.length ∧ rd g.pts i = (r : Int)) = (usedB g (r : Int) = true) := by
    apply propext
    simp only [usedB, Bool.or_eq_true, decide_eq_true_eq]
    constructor
    · rintro (e | ⟨i, hi, e⟩)
      · exact .inl e
      · exact .inr (by rw [← e]; exact rd_mem hi)
    · rintro (e | e)
      · exact .inl e
      · obtain ⟨i, hi, e⟩ := List.getElem_of_mem e
        exact .inr ⟨i, hi, by rw [rdq hi]; exact e⟩
  simp only [this]
theorem lsP_at {ls : Nat → List (Int × Int)} {t : Nat} {p : List Stg} {r : Nat} : ∀ k, (∀ j, j < k → stageB (rd p j) = true) → lsP ls t p k r = ls r ++ allRP (r : Int) t p k
  | 0, _ => by simp [lsP, allRP]
  | k + 1, h => by
    rw [lsP, stgL_at (h k (by omega)), lsP_at k (fun j hj => h j (by omega)), allRP, List.append_assoc]
theorem lsA_at {ps : List (List Stg)} (h : validB ps = true) {r : Nat} : ∀ T, T ≤ ps.length → lsA ps T r = allR ps (r : Int) T
  | 0, _ => rfl
  | T + 1, hT => by
    rw [lsA, lsP_at _ (fun j hj => valid_stage h hT hj), lsA_at h T (by omega), allR]
theorem allTo_ext {ls ms : Nat → List (Int × Int)} : ∀ n, (∀ r, r < n → ls r = ms r) → allTo ls n = allTo ms n
  | 0, _ => rfl
  | n + 1, h => by rw [allTo, allTo, allTo_ext n (fun r hr => h r (by omega)), h n (by omega)]
/-- Two lists of orders over the same resources. -/
theorem allTo_rel {ls ms : Nat → List (Int × Int)} : ∀ n, (∀ r, r < n → (ls r = [] ↔ ms r = [])) → (allTo ls n).length = (allTo ms n).length ∧ ∀ (i : Nat) (h1 : i < (allTo ls n).length) (h2 : i < (allTo ms n).length), ∃ r, r < n ∧ (allTo ls n)[i] = ⟨(r : Int), ls r⟩ ∧ (allTo ms n)[i] = ⟨(r : Int), ms r⟩ ∧ ls r ≠ []
  | 0, _ => ⟨rfl, fun i h1 => by simp [allTo] at h1⟩
  | n + 1, h => by
    obtain ⟨g1, g2⟩ := allTo_rel n (fun r hr => h r (by omega))
    have hn := h n (by omega)
    by_cases e : ls n = []
    · have e2 := hn.1 e
      have a1 : allTo ls (n + 1) = allTo ls n := by rw [allTo, if_neg (by simp [e]), List.append_nil]
      have a2 : allTo ms (n + 1) = allTo ms n := by rw [allTo, if_neg (by simp [e2]), List.append_nil]
      rw [a1, a2]
      exact ⟨g1, fun i h1 h2 => by obtain ⟨r, k1, k2⟩ := g2 i h1 h2; exact ⟨r, by omega, k2⟩⟩
    · have e2 : ms n ≠ [] := fun e3 => e (hn.2 e3)
      have a1 : allTo ls (n + 1) = allTo ls n ++ [⟨(n : Int), ls n⟩] := by rw [allTo, if_pos e]
      have a2 : allTo ms (n + 1) = allTo ms n ++ [⟨(n : Int), ms n⟩] := by rw [allTo, if_pos e2]
      rw [a1, a2]
      refine ⟨by simp [g1], fun i h1 h2 => ?_⟩
      rcases Nat.lt_or_ge i (allTo ls n).length with h3 | h3
      · rw [List.getElem_append_left h3, List.getElem_append_left (by omega)]
        obtain ⟨r, k1, k2⟩ := g2 i h3 (by omega)
        exact ⟨r, by omega, k2⟩
      · rw [List.getElem_append_right h3, List.getElem_append_right (by omega)]
        refine ⟨n, by omega, ?_, ?_, e⟩ <;> simp
theorem allTo_mem {ls : Nat → List (Int × Int)} : ∀ n, ∀ o ∈ allTo ls n, ∃ r : Nat, r < n ∧ o = ⟨(r : Int), ls r⟩
  | 0, o, h => by simp [allTo] at h
  | n + 1, o, h => by
    rw [allTo, List.mem_append] at h
    rcases h with h | h
    · obtain ⟨r, h1, h2⟩ := allTo_mem n o h
      exact ⟨r, by omega, h2⟩
    · split at h
      · rw [List.mem_singleton] at h
        exact ⟨n, by omega, h⟩
      · cases h
theorem sortL_len {ps : List (List Stg)} {enter : List (List Int)} {r : Nat} : (sortL ps enter r).length = (allR ps (r : Int) ps.length).length := sortT_len _
theorem sortL_perm {ps : List (List Stg)} {enter : List (List Int)} {r : Nat} : (sortL ps enter r).Perm (allR ps (r : Int) ps.length) := by
  have := sortT_perm (e := enO enter) (all := allR ps (r : Int) ps.length) (allR ps (r : Int) ps.length).length (Nat.le_refl _)
  rwa [List.take_of_length_le (Nat.le_refl _)] at this
theorem sorted_full {ps : List (List Stg)} {r : Int} : SortedR (allR ps r ps.length) := fun p q hpq hq => by
  have := List.pairwise_iff_getElem.1 (allR_asc (ps := ps) (r := r) ps.length) p q (by omega) hq hpq
  rw [rdq hq, rdq (show p < (allR ps r ps.length).length by omega)]
  exact rle_of_lt this
theorem enO_mono {ps : List (List Stg)} {enter : List (List Int)} (hen : enterB ps enter = true) {r : Int} : (allR ps r ps.length).Pairwise fun a b => a.1 = b.1 → enO enter a ≤ enO enter b := by
  refine List.pairwise_iff_getElem.2 fun i j hi hj hij e => ?_
  have hlt := List.pairwise_iff_getElem.1 (allR_asc (ps := ps) (r := r) ps.length) i j hi hj hij
  obtain ⟨t, k, h1, h2, h3, _⟩ := allR_mem _ _ (List.getElem_mem hi)
  obtain ⟨t', k', h1', h2', h3', _⟩ := allR_mem _ _ (List.getElem_mem hj)
  rw [h3, h3'] at e hlt ⊢
  simp only at e
  obtain rfl : t = t' := by omega
  have hk : k < k' := by
    rcases hlt with h4 | ⟨_, h4⟩ <;> simp only at h4 <;> omega
  obtain ⟨r1, r2⟩ := enterB_row hen h1
  simp only [enO, Int.toNat_natCast]
  have step : ∀ d, k + d < (rd enter t).length → rd (rd enter t) k ≤ rd (rd enter t) (k + d) := by
    intro d
    induction d with
    | zero => intro _; exact Int.le_refl _
    | succ d ih =>
      intro hd
      have h5 := ih (by omega)
      unfold ascB at r2
      have h6 := of_decide_eq_true (List.all_eq_true.1 r2 (k + d) (List.mem_range.2 (by omega)))
      rw [show k + (d + 1) = k + d + 1 by omega]
      omega
  have := step (k' - k) (by omega)
  rwa [show k + (k' - k) = k' by omega] at this
theorem asc_of_rlt {l : List (Int × Int)} (h : l.Pairwise rlt) : l.Pairwise AscU := h.imp fun {a b} hab e => by
  rcases hab with h1 | ⟨_, h1⟩
  · omega
  · exact h1
/-- Sorted orders: like the full ones, in another order. -/
theorem sortL_ok {ps : List (List Stg)} {enter : List (List Int)} (hen : enterB ps enter = true) {r : Nat} (hl : (allR ps (r : Int) ps.length).length ≤ 12) (hne : sortL ps enter r ≠ []) : OrdOk ⟨(r : Int), sortL ps enter r⟩ ⟨(r : Int), allR ps (r : Int) ps.length⟩ where
  res := rfl
  ne := hne
  len := by show (sortL ps enter r).length ≤ 12; rw [sortL_len]; exact hl
  perm := sortL_perm
  srt := sorted_full
  asc := fun p q hpq hq e => by
    have ha := sortT_asc (e := enO enter) (asc_of_rlt (allR_asc (ps := ps) (r := (r : Int)) ps.length)) (enO_mono hen) _ (Nat.le_refl _)
    have hq' : q < (sortL ps enter r).length := hq
    have h1 := List.pairwise_iff_getElem.1 ha p q (by exact Nat.lt_trans hpq hq') hq' hpq
    rw [rdq (xs := sortL ps enter r) hq', rdq (xs := sortL ps enter r) (show p < (sortL ps enter r).length by omega)] at *
    exact h1 e
/-- Few uses of few short paths. -/
theorem allR_small {ps : List (List Stg)} {r : Int} (hl : ∀ p ∈ ps, p.length ≤ 4) : ∀ T, T ≤ ps.length → (allR ps r T).length ≤ 4 * T
  | 0, _ => Nat.le_refl _
  | T + 1, hT => by
    have h1 := allR_small (r := r) hl T (by omega)
    have h2 := allRP_len (r := r) (t := T) (p := rd ps T) (rd ps T).length
    have h3 := hl (rd ps T) (rd_mem (by omega))
    rw [allR, List.length_append]; omega
theorem made_small {ps : List (List Stg)} (hm : MadeP ps) {r : Int} : (allR ps r ps.length).length ≤ 12 := by
  have := allR_small (r := r) (fun p hp => (hm.2.2 p hp).2.1) ps.length (Nat.le_refl _)
  have := hm.2.1
  omega
/-- Orders of made paths, in any order of entering. -/
def MadeO (ps : List (List Stg)) (os : List Ordr) : Prop := ∃ enter, enterB ps enter = true ∧ os = allTo (sortL ps enter) 144
section
variable {h : AH}
theorem MadeO.check {ps : List (List Stg)} {os : List Ordr} (hm : MadeP ps) (ho : MadeO ps os) : AC Go.Proofs.Try.prog 29 [L ps, L os] h (.bool true) h := by
  obtain ⟨enter, hen, e144⟩ := ho
  rw [e144]; clear e144
  have hval := hm.valid
  have hfull : allTo (lsA ps ps.length) 144 = allTo (fun r => allR ps (r : Int) ps.length) 144 := allTo_ext 144 fun r _ => lsA_at hval _ (Nat.le_refl _)
  obtain ⟨h1, h2⟩ := allTo_rel (ls := sortL ps enter) (ms := fun r => allR ps (r : Int) ps.length) 144 fun r _ => by
    have := sortL_len (ps := ps) (enter := enter) (r := r)
    constructor <;> intro e
    · exact List.eq_nil_of_length_eq_zero (by rw [← this, e]; rfl)
    · exact List.eq_nil_of_length_eq_zero (by rw [this, e]; rfl)
  refine f29_ok hval (pathsA_of hval) hfull h1 fun i a b => ?_
  obtain ⟨r, _, e1, e2, hne⟩ := h2 i a b
  rw [e1, e2]
  exact sortL_ok hen (made_small hm) hne
theorem MadeO.osA {ps : List (List Stg)} {os : List Ordr} (hm : MadeP ps) (ho : MadeO ps os) : OsA ps os := by
  obtain ⟨enter, hen, e144⟩ := ho
  rw [e144]; clear e144
  refine ⟨allTo_len _, fun o ho => ?_, fun o ho u hu => ?_⟩
  · obtain ⟨r, _, rfl⟩ := allTo_mem _ o ho
    show (sortL ps enter r).length ≤ 2000
    rw [sortL_len]
    have := made_small hm (r := (r : Int)); omega
  · obtain ⟨r, _, rfl⟩ := allTo_mem _ o ho
    exact allR_ok (Nat.le_refl _) u (sortL_perm.mem_iff.1 hu)
end
end Go.Proofs.Ythofdojknjhpgaa
set_option linter.unusedVariables false
set_option linter.unusedSimpArgs false
namespace Go.Proofs.Ythofdojknjhpgaa
open Go
section
variable {h : AH}
theorem sortM_ok {ps : List (List Stg)} {enter : List (List Int)} (hen : enterB ps enter = true) : sortM ps enter = (allTo (sortL ps enter) 144, 0) := by
  unfold sortM; rw [if_pos hen]
/-- 'made'. -/
theorem f28_ok {p e a : List Int} (hp : p.length < 4611686018427387904) (he : e.length < 4611686018427387904) (ha : a.length < 4611686018427387904) : ∃ ps os at', MadeP ps ∧ MadeO ps os ∧ goodB ps at' = true ∧ AC Go.Proofs.Try.prog 28 [L p, L e, L a] h (.tuple #[L ps, L os, L at']) h := by
  obtain ⟨ps, hm, c15⟩ := f15_ok (h := h) hp
  have hval := hm.valid
  obtain ⟨enter, hen, c48⟩ := f48_ok (h := h) (pathsA_of hval) he
  obtain ⟨xs, hgood, c16⟩ := f16_ok (h := h) hm.small ha
  have c47 := f47_ok (h := h) (enter := enter) hval
  rw [sortM_ok hen] at c47
  simp only at c47
  refine ⟨ps, allTo (sortL ps enter) 144, xs, hm, ⟨enter, hen, rfl⟩, hgood, ?_⟩
  generalize allTo (sortL ps enter) 144 = os at *
  have hcl : Cl (.tuple #[L ps, L os, L xs]) := Cl.tuple (vs := [_, _, _]) (by
    intro v hv
    simp only [List.mem_cons, List.not_mem_nil, or_false] at hv
    rcases hv with rfl | rfl | rfl <;> exact L_cl)
  refine AC.wf fun hw => AC.of_app hw hcl ?_
  refine EC.intro f28_is ?_
  unfold f28_c
  (refine EX.rg (by intro KK hkk; unfold f28_r0; simp only [SX, Nat.reduceEqDiff, ↓reduceIte, Nat.reduceSub, Nat.reduceAdd, Nat.reduceLT, Nat.reduceLeDiff, I.quiet, false_implies, implies_true, -List.reduceReplicate]; exact hkk) ?_)
  (refine EX.rg (by intro KK hkk; unfold f28_r1; simp only [SX, Nat.reduceEqDiff, ↓reduceIte, Nat.reduceSub, Nat.reduceAdd, Nat.reduceLT, Nat.reduceLeDiff, I.quiet, false_implies, implies_true, -List.reduceReplicate]; refine RO_callvS (c15) ?_; simp only [SX, Nat.reduceEqDiff, ↓reduceIte, Nat.reduceSub, Nat.reduceAdd, Nat.reduceLT, Nat.reduceLeDiff, I.quiet, false_implies, implies_true, -List.reduceReplicate]; exact hkk) ?_)
  refine EX.rg (by intro KK hkk; unfold f28_r2; simp only [SX, Nat.reduceEqDiff, ↓reduceIte, Nat.reduceSub, Nat.reduceAdd, Nat.reduceLT, Nat.reduceLeDiff, I.quiet, false_implies, implies_true, -List.reduceReplicate]; refine RO_callvS c48 ?_; refine RO_callvS c47 ?_; simp only [SX, Nat.reduceEqDiff, ↓reduceIte, Nat.reduceSub, Nat.reduceAdd, Nat.reduceLT, Nat.reduceLeDiff, I.quiet, false_implies, implies_true, -List.reduceReplicate]; exact hkk) ?_
  (refine EX.rg (by intro KK hkk; unfold f28_r3; simp only [SX, Nat.reduceEqDiff, ↓reduceIte, Nat.reduceSub, Nat.reduceAdd, Nat.reduceLT, Nat.reduceLeDiff, I.quiet, false_implies, implies_true, -List.reduceReplicate]; refine RO_callvS (c16) ?_; simp only [SX, Nat.reduceEqDiff, ↓reduceIte, Nat.reduceSub, Nat.reduceAdd, Nat.reduceLT, Nat.reduceLeDiff, I.quiet, false_implies, implies_true, -List.reduceReplicate]; exact hkk) ?_)
  ((with_reducible repeat first|apply EX.seq|apply EX.blk); refine EX.ret ?_; (with_reducible repeat first|apply nA|apply nB|apply nC|apply nD|apply nE|apply nF|apply nG (by decide)|apply nH|apply nI|apply nJ); refine ⟨_, rfl, ?_⟩; simp only [packV, upd, Nat.reduceEqDiff, reduceIte, if_true, if_false, Nat.one_ne_zero, Nat.zero_ne_one])
  exact ⟨trivial, [], (app_nil hw).symm⟩
/-- A value that shows numbers, in every heap that grows out of this one. -/
def RdI (h : AH) (w : Value) (xs : List Int) : Prop := ∀ (bs : List (Option Blk)) (i : Nat), i < xs.length → ∃ p, ias1 1 w (.int .i64 (i : Nat)) (h.app bs) = some (p, h.app bs) ∧ ld1 p (h.app bs) = some (.int .i64 (rd xs i), h.app bs)
theorem RdI.L {xs : List Int} : RdI h (L xs) xs := fun bs i hi => ⟨ef xs i 0, by
  have := ias1_L (h := h.app bs) (xs := xs) (e := 1) (k := .i64) (j := (i : Nat)) rfl (by omega) (by simpa using hi)
  simpa only [Int.toNat_natCast] using this, by rw [ld1_ef hi o1i]; rfl⟩
theorem RdI.own {B n : Nat} {t : TypeId} {e : Nat} {xs : List Int} (hB : h.get B = some (.row t e (F xs))) (hlt : B < h.next) (hn : xs.length = n) : RdI h (.slice (some ⟨B, 0, none⟩) n n) xs := fun bs i hi => ⟨.pointer (some ⟨B, i * 1, none⟩), ias1_own (by omega), by
  rw [ld1_ptr, app_get_lt hlt, hB, cellAt_row, Nat.mul_one, F_geti hi]; rfl⟩
def overB (ps : List (List Stg)) (xs : List Int) (u : Int × Int) (r : Int) : Bool := if (stP ps u).sec = r then decide (u.2 < rd xs u.1.toNat) else decide (u.2 ≤ rd xs u.1.toNat)
/-- 'Over'. -/
theorem f32_ok {ps : List (List Stg)} {w : Value} {xs : List Int} {u : Int × Int} {r : Int} (hp : PathsA ps) (hR : RdI h w xs) (hu : UseOk ps u) (hxl : ps.length ≤ xs.length) : AC Go.Proofs.Try.prog 32 [L ps, w, rvA u, .int .i64 r] h (.bool (overB ps xs u r)) h := by
  obtain ⟨t, k, rfl, ht, hk⟩ := use_nat hu
  refine AC.wf fun hw => AC.of_app hw Cl.bool ?_
  refine EC.intro f32_is ?_
  unfold f32_c rvA
  have hg := (hp.2 _ (rd_mem ht)).2 _ (rd_mem hk)
  have c71 := fun H : AH => f71_ok (h := H) (g := rd (rd ps t) k) (r := r) (by have := hg.2.1; omega)
  have hcl4 : ∀ H : AH, lds1 4 (ef (rd ps t) k 0) H = some (stgV (rd (rd ps t) k), H) := fun H => by
    rw [lds1_ef hk (show 0 + 4 ≤ Enc.w Stg from Nat.le_refl 4)]; rfl
  have hst : stP ps ((t : Int), (k : Int)) = rd (rd ps t) k := by simp only [stP, Int.toNat_natCast]
  obtain ⟨pp, hp1, hp2⟩ := hR [some (.row 48 0 [.int .i64 (t : Nat), .int .i64 (k : Nat)])] t (by omega)
  (refine EX.rg (by intro KK hkk; unfold f32_r0; simp only [SX, Nat.reduceEqDiff, ↓reduceIte, Nat.reduceSub, Nat.reduceAdd, Nat.reduceLT, Nat.reduceLeDiff, I.quiet, false_implies, implies_true, -List.reduceReplicate, new_app hw]; exact hkk) ?_)
  refine EX.dg (by intro KK hkk; unfold f32_r1; simp only [SX, Nat.reduceEqDiff, ↓reduceIte, Nat.reduceSub, Nat.reduceAdd, Nat.reduceLT, Nat.reduceLeDiff, I.quiet, false_implies, implies_true, -List.reduceReplicate, ht, ld1_ef ht o1l, w4s, hk, hcl4]; refine RD_callvS (c71 _) ?_; simp only [SX, Nat.reduceEqDiff, ↓reduceIte, Nat.reduceSub, Nat.reduceAdd, Nat.reduceLT, Nat.reduceLeDiff, I.quiet, false_implies, implies_true, -List.reduceReplicate]; exact hkk) ?_
  (refine EX.rg (by intro KK hkk; unfold f32_r2; simp only [SX, Nat.reduceEqDiff, ↓reduceIte, Nat.reduceSub, Nat.reduceAdd, Nat.reduceLT, Nat.reduceLeDiff, I.quiet, false_implies, implies_true, -List.reduceReplicate]; exact hkk) ?_)
  refine EX.dec rfl (fun hd => ?_) (fun hd => ?_)
  · (refine EX.dg (by intro KK hkk; unfold f32_r3; simp only [SX, Nat.reduceEqDiff, ↓reduceIte, Nat.reduceSub, Nat.reduceAdd, Nat.reduceLT, Nat.reduceLeDiff, I.quiet, false_implies, implies_true, -List.reduceReplicate, hp1, hp2]; exact hkk) ?_)
    ((with_reducible repeat first|apply EX.seq|apply EX.blk); refine EX.ret ?_; (with_reducible repeat first|apply nA|apply nB|apply nC|apply nD|apply nE|apply nF|apply nG (by decide)|apply nH|apply nI|apply nJ); refine ⟨_, rfl, ?_⟩; simp only [packV, upd, Nat.reduceEqDiff, reduceIte, if_true, if_false, Nat.one_ne_zero, Nat.zero_ne_one])
    refine ⟨?_, _, rfl⟩
    rw [overB, hst, if_pos hd, Int.toNat_natCast]
  · (refine EX.skip ?_; (with_reducible repeat first|apply nA|apply nB|apply nC|apply nD|apply nE|apply nF|apply nG (by decide)|apply nH|apply nI|apply nJ))
    (refine EX.dg (by intro KK hkk; unfold f32_r4; simp only [SX, Nat.reduceEqDiff, ↓reduceIte, Nat.reduceSub, Nat.reduceAdd, Nat.reduceLT, Nat.reduceLeDiff, I.quiet, false_implies, implies_true, -List.reduceReplicate, hp1, hp2]; exact hkk) ?_)
    ((with_reducible repeat first|apply EX.seq|apply EX.blk); refine EX.ret ?_; (with_reducible repeat first|apply nA|apply nB|apply nC|apply nD|apply nE|apply nF|apply nG (by decide)|apply nH|apply nI|apply nJ); refine ⟨_, rfl, ?_⟩; simp only [packV, upd, Nat.reduceEqDiff, reduceIte, if_true, if_false, Nat.one_ne_zero, Nat.zero_ne_one])
    refine ⟨?_, _, rfl⟩
    rw [overB, hst, if_neg hd, Int.toNat_natCast]
def leftB (ps : List (List Stg)) (xs : List Int) : Bool := (List.range ps.length).all fun t => !decide (rd xs t < (rd ps t).length)
/-- 'Left'. -/
theorem f33_ok {ps : List (List Stg)} {w : Value} {xs : List Int} (hR : RdI h w xs) (hxl : ps.length ≤ xs.length) : AC Go.Proofs.Try.prog 33 [L ps, w] h (.bool (leftB ps xs)) h := by
  refine AC.bd 0 rfl fun bp => ?_
  have lp := bp.1
  refine AC.wf fun hw => AC.of_ec (EC.intro f33_is ?_)
  unfold f33_c
  have hR0 : ∀ i, i < xs.length → ∃ p, ias1 1 w (.int .i64 (i : Nat)) h = some (p, h) ∧ ld1 p h = some (.int .i64 (rd xs i), h) := fun i hi => by
    have := hR [] i hi
    rwa [app_nil hw] at this
  (refine EX.rg (by intro KK hkk; unfold f33_r0; simp only [SX, Nat.reduceEqDiff, ↓reduceIte, Nat.reduceSub, Nat.reduceAdd, Nat.reduceLT, Nat.reduceLeDiff, I.quiet, false_implies, implies_true, -List.reduceReplicate]; exact hkk) ?_)
  (refine EX.rg (by intro KK hkk; unfold f33_r1; simp only [SX, Nat.reduceEqDiff, ↓reduceIte, Nat.reduceSub, Nat.reduceAdd, Nat.reduceLT, Nat.reduceLeDiff, I.quiet, false_implies, implies_true, -List.reduceReplicate]; exact hkk) ?_)
  (with_reducible repeat first|apply EX.seq|apply EX.blk)
  refine EX.loop (σ := Nat) (fun t => upd (upd (upd (upd TE 0 (L ps)) 1 w) 7 (.int .i64 ps.length)) 8 (.int .i64 (t : Nat))) (fun _ => h) (fun t => t ≤ ps.length ∧ ∀ i, i < t → ¬ rd xs i < (rd ps i).length) (fun t => ps.length - t) 0 ⟨Nat.zero_le _, fun i hi => by omega⟩ (Less.wk (by (repeat refine Less.upd ?_ (by rfl)); exact Less.nil)) ?_
  rintro t ⟨ht, hn⟩
  (refine EX.rg (by intro KK hkk; unfold f33_r2; simp only [SX, Nat.reduceEqDiff, ↓reduceIte, Nat.reduceSub, Nat.reduceAdd, Nat.reduceLT, Nat.reduceLeDiff, I.quiet, false_implies, implies_true, -List.reduceReplicate, lt_nat]; exact hkk) ?_)
  (with_reducible repeat first|apply EX.seq|apply EX.blk)
  refine EX.dec rfl (fun hlt => ?_) (fun hlt => ?_)
  · (refine EX.skip ?_; (with_reducible repeat first|apply nA|apply nB|apply nC|apply nD|apply nE|apply nF|apply nG (by decide)|apply nH|apply nI|apply nJ))
    obtain ⟨pp, hp1, hp2⟩ := hR0 t (by omega)
    (refine EX.rg (by intro KK hkk; unfold f33_r3; simp only [SX, Nat.reduceEqDiff, ↓reduceIte, Nat.reduceSub, Nat.reduceAdd, Nat.reduceLT, Nat.reduceLeDiff, I.quiet, false_implies, implies_true, -List.reduceReplicate]; exact hkk) ?_)
    (refine EX.dg (by intro KK hkk; unfold f33_r4; simp only [SX, Nat.reduceEqDiff, ↓reduceIte, Nat.reduceSub, Nat.reduceAdd, Nat.reduceLT, Nat.reduceLeDiff, I.quiet, false_implies, implies_true, -List.reduceReplicate, hp1, hp2, hlt, ld1_ef hlt o1l]; exact hkk) ?_)
    refine EX.dec rfl (fun hc => ?_) (fun hc => ?_)
    · (refine EX.rg (by intro KK hkk; unfold f33_r5; simp only [SX, Nat.reduceEqDiff, ↓reduceIte, Nat.reduceSub, Nat.reduceAdd, Nat.reduceLT, Nat.reduceLeDiff, I.quiet, false_implies, implies_true, -List.reduceReplicate]; exact hkk) ?_)
      ((with_reducible repeat first|apply EX.seq|apply EX.blk); refine EX.ret ?_; (with_reducible repeat first|apply nA|apply nB|apply nC|apply nD|apply nE|apply nF|apply nG (by decide)|apply nH|apply nI|apply nJ); refine ⟨_, rfl, ?_⟩; simp only [packV, upd, Nat.reduceEqDiff, reduceIte, if_true, if_false, Nat.one_ne_zero, Nat.zero_ne_one])
      refine ⟨?_, trivial⟩
      have : leftB ps xs = false := List.all_eq_false.2 ⟨t, List.mem_range.2 hlt, by simp [hc]⟩
      rw [this]
    · (refine EX.skip ?_; (with_reducible repeat first|apply nA|apply nB|apply nC|apply nD|apply nE|apply nF|apply nG (by decide)|apply nH|apply nI|apply nJ))
      (refine EX.rg (by intro KK hkk; unfold f33_r6; simp only [SX, Nat.reduceEqDiff, ↓reduceIte, Nat.reduceSub, Nat.reduceAdd, Nat.reduceLT, Nat.reduceLeDiff, I.quiet, false_implies, implies_true, -List.reduceReplicate, wrap_nat (show t < 4611686018427387904 by omega)]; exact hkk) ?_)
      refine ⟨t + 1, ⟨hlt, fun i hi => ?_⟩, by omega, Less.wk (by (repeat refine Less.upd ?_ (by rfl)); exact Less.nil)⟩
      rcases Nat.lt_or_ge i t with h1 | h1
      · exact hn i h1
      · obtain rfl : i = t := by omega
        exact hc
  · (refine EX.exit ?_; (with_reducible repeat first|apply nA|apply nB|apply nC|apply nD|apply nE|apply nF|apply nG (by decide)|apply nH|apply nI|apply nJ))
    obtain rfl : t = ps.length := by omega
    (refine EX.rg (by intro KK hkk; unfold f33_r7; simp only [SX, Nat.reduceEqDiff, ↓reduceIte, Nat.reduceSub, Nat.reduceAdd, Nat.reduceLT, Nat.reduceLeDiff, I.quiet, false_implies, implies_true, -List.reduceReplicate]; exact hkk) ?_)
    ((with_reducible repeat first|apply EX.seq|apply EX.blk); refine EX.ret ?_; (with_reducible repeat first|apply nA|apply nB|apply nC|apply nD|apply nE|apply nF|apply nG (by decide)|apply nH|apply nI|apply nJ); refine ⟨_, rfl, ?_⟩; simp only [packV, upd, Nat.reduceEqDiff, reduceIte, if_true, if_false, Nat.one_ne_zero, Nat.zero_ne_one])
    refine ⟨?_, trivial⟩
    have : leftB ps xs = true := List.all_eq_true.2 fun i hi => by simpa using hn i (by have := List.mem_range.1 hi; omega)
    rw [this]
end
end Go.Proofs.Ythofdojknjhpgaa
set_option linter.unusedVariables false
set_option linter.unusedSimpArgs false
namespace Go.Proofs.Ythofdojknjhpgaa
open Go
theorem insT_keep {first : List Int} {arcs : List PArc} {base : Nat → List Int} {r : Nat} {x : Int} : ∀ i j, i ≤ j → x ∈ insT first arcs base i r → x ∈ insT first arcs base j r
  | i, 0, h, hx => by obtain rfl : i = 0 := by omega
                      exact hx
  | i, j + 1, h, hx => by
    rcases Nat.lt_or_ge i (j + 1) with h1 | h1
    · have := insT_keep (first := first) (arcs := arcs) (base := base) (r := r) i j (by omega) hx
      rw [insT, addR]; split
      · exact List.mem_append_left _ this
      · exact this
    · obtain rfl : i = j + 1 := by omega
      exact hx
theorem insT_mem {first : List Int} {arcs : List PArc} {base : Nat → List Int} {a : PArc} (ha : a ∈ arcs) : numM first a.f ∈ insT first arcs base arcs.length (numM first a.t).toNat := by
  obtain ⟨j, hj, rfl⟩ := List.getElem_of_mem ha
  refine insT_keep (j + 1) _ hj ?_
  rw [insT, addR, rdq hj, if_pos rfl]
  exact List.mem_append_right _ (List.mem_singleton.2 rfl)
theorem arcsI_mem {ps : List (List Stg)} {r : Int} {u : Int × Int} {vs : List (Int × Int)} {v : Int × Int} (hv : v ∈ vs) (hne : v.1 ≠ u.1) : ⟨(u.1, endM ps r u), v⟩ ∈ arcsI ps r u vs vs.length := by
  have key : ∀ n j, j < n → n ≤ vs.length → (rd vs j).1 ≠ u.1 → (⟨(u.1, endM ps r u), rd vs j⟩ : PArc) ∈ arcsI ps r u vs n := by
    intro n
    induction n with
    | zero => intro j h; omega
    | succ n ih =>
      intro j hj hn h
      rw [arcsI, List.mem_append]
      rcases Nat.lt_or_ge j n with h1 | h1
      · exact .inl (ih j h1 (by omega) h)
      · obtain rfl : j = n := by omega
        right; rw [if_pos h]; exact List.mem_singleton.2 rfl
  obtain ⟨j, hj, rfl⟩ := List.getElem_of_mem hv
  have := key vs.length j hj (Nat.le_refl _) (by rw [rdq hj]; exact hne)
  rwa [rdq hj] at this
theorem arcsO_mem {ps : List (List Stg)} {o : Ordr} {p q : Nat} (hpq : p < q) (hq : q < o.uses.length) (hne : (rd o.uses q).1 ≠ (rd o.uses p).1) : ⟨((rd o.uses p).1, endM ps o.res (rd o.uses p)), rd o.uses q⟩ ∈ arcsO ps o o.uses.length := by
  have key : ∀ n, p < n → n ≤ o.uses.length → (⟨((rd o.uses p).1, endM ps o.res (rd o.uses p)), rd o.uses q⟩ : PArc) ∈ arcsO ps o n := by
    intro n
    induction n with
    | zero => intro h; omega
    | succ n ih =>
      intro hn hl
      rw [arcsO, List.mem_append]
      rcases Nat.lt_or_ge p n with h1 | h1
      · exact .inl (ih h1 (by omega))
      · obtain rfl : p = n := by omega
        right
        refine arcsI_mem ?_ hne
        rw [rdq hq]
        exact List.mem_drop_iff_getElem.2 ⟨q - (p + 1), by omega, by congr 1; omega⟩
  exact key _ (by omega) (Nat.le_refl _)
theorem arcsM_mem {ps : List (List Stg)} {os : List Ordr} {o : Ordr} {a : PArc} (ho : o ∈ os) (ha : a ∈ arcsO ps o o.uses.length) : a ∈ arcsM ps os := by
  obtain ⟨k, hk, rfl⟩ := List.getElem_of_mem ho
  have key : ∀ n, k < n → n ≤ os.length → a ∈ arcsA ps os n := by
    intro n
    induction n with
    | zero => intro h; omega
    | succ n ih =>
      intro hn hl
      rw [arcsA, List.mem_append]
      rcases Nat.lt_or_ge k n with h1 | h1
      · exact .inl (ih h1 (by omega))
      · obtain rfl : k = n := by omega
        right; rw [rdq hk]; exact ha
  exact key _ hk (Nat.le_refl _)
theorem insM_at {ps : List (List Stg)} {os : List Ordr} {i : Nat} (hi : i < (evM ps).length) : rd (insM ps os) i = insT (firstM ps) (arcsM ps os) (baseI (evM ps) (evM ps).length) (arcsM ps os).length i := rd_map_range hi
theorem doneL_at {ev : List (Int × Int)} {at' : List Int} {i : Nat} (hi : i < ev.length) : rd (doneL ev at') i = decide ((rd ev i).2 ≤ rd at' (rd ev i).1.toNat) := by
  rw [rdq (by simpa [doneL] using hi), rdq hi]; simp [doneL]
/-- Positions that a run of trains comes to. -/
def NowOk (ps : List (List Stg)) (now : List Int) : Prop := now.length = ps.length ∧ ∀ t, t < ps.length → -1 ≤ rd now t
/-- The event that comes next. -/
theorem next_ok {ps : List (List Stg)} {os : List Ordr} {now : List Int} {i : Nat} (hn : NowOk ps now) (h : nextD (insM ps os) (doneL (evM ps) now) = some i) : ∃ t k : Nat, t < ps.length ∧ k ≤ (rd ps t).length ∧ i = (evT ps t).length + k ∧ i < (evM ps).length ∧ rd (evM ps) i = ((t : Int), (k : Int)) ∧ (k : Int) = rd now t + 1 ∧ (doneL (evM ps) now).set i true = doneL (evM ps) (now.set t (k : Int)) ∧ ∀ x ∈ rd (insM ps os) i, notD (doneL (evM ps) now) x = false := by
  obtain ⟨hl, hb⟩ := hn
  obtain ⟨hi, hd⟩ := nextD_lt h
  have hdl : (doneL (evM ps) now).length = (evM ps).length := by simp [doneL]
  rw [hdl] at hi
  have hw := List.find?_some h
  simp only [waits, Bool.not_eq_true', Bool.or_eq_false_iff, List.any_eq_false] at hw
  obtain ⟨t, k, ht, hk, hik, hev⟩ := evM_split hi
  rw [doneL_at hi, hev] at hd
  simp only [Int.toNat_natCast, decide_eq_false_iff_not, Int.not_le] at hd
  have hall : ∀ x ∈ rd (insM ps os) i, notD (doneL (evM ps) now) x = false := fun x hx => by simpa using hw.2 x hx
  have hkn : (k : Int) = rd now t + 1 := by
    have := hb t ht
    cases k with
    | zero => simp only [Int.natCast_zero] at hd ⊢; omega
    | succ k =>
      have hm : ((i : Int) - 1) ∈ rd (insM ps os) i := by
        rw [insM_at hi]
        refine insT_keep 0 _ (Nat.zero_le _) ?_
        show ((i : Int) - 1) ∈ baseI (evM ps) (evM ps).length i
        unfold baseI
        rw [if_pos ⟨hi, by rw [hev]; simp only; omega⟩]
        exact List.mem_singleton.2 rfl
      have h1 := hall _ hm
      have hi1 : ((i : Int) - 1).toNat = (evT ps t).length + k := by omega
      have hi2 : (evT ps t).length + k < (evM ps).length := by omega
      simp only [notD, hi1] at h1
      rw [doneL_at hi2, evM_at ht (by omega)] at h1
      simp only [Int.toNat_natCast, Bool.not_eq_false', decide_eq_true_eq] at h1
      omega
  refine ⟨t, k, ht, hk, hik, hi, hev, hkn, ?_, hall⟩
  apply List.ext_getElem
  · simp [doneL]
  · intro j h1 h2
    have hj : j < (evM ps).length := by simpa [doneL] using h2
    obtain ⟨t', k', ht', hk', hjk, hev'⟩ := evM_split hj
    have e1 : (doneL (evM ps) now)[j]'(by simpa [doneL] using hj) = decide ((k' : Int) ≤ rd now t') := by
      have := doneL_at (at' := now) hj
      rw [rdq (by simpa [doneL] using hj), hev'] at this
      simpa using this
    have e2 : (doneL (evM ps) (now.set t (k : Int)))[j]'h2 = decide ((k' : Int) ≤ rd (now.set t (k : Int)) t') := by
      have := doneL_at (at' := now.set t (k : Int)) hj
      rw [rdq h2, hev'] at this
      simpa using this
    rw [List.getElem_set, e2]
    by_cases e : i = j
    · rw [if_pos e]
      subst e
      rw [hev] at hev'
      simp only [Prod.mk.injEq] at hev'
      obtain rfl : t = t' := by omega
      obtain rfl : k = k' := by omega
      rw [rd_set_eq (by omega)]
      simp
    · rw [if_neg e, e1]
      by_cases et : t' = t
      · subst et
        rw [rd_set_eq (by omega)]
        have hne : k' ≠ k := by rintro rfl; omega
        exact decide_eq_decide.2 (by omega)
      · rw [rd_set_ne et]
theorem NowOk.step {ps : List (List Stg)} {now : List Int} {t k : Nat} (hn : NowOk ps now) : NowOk ps (now.set t (k : Int)) := by
  refine ⟨by simpa using hn.1, fun i hi => ?_⟩
  by_cases e : i = t
  · subst e; rw [rd_set_eq (by rw [hn.1]; exact hi)]; omega
  · rw [rd_set_ne e]; exact hn.2 i hi
/-- Uses that come before are over. -/
theorem over_ok {ps : List (List Stg)} {os : List Ordr} {now : List Int} {i : Nat} {t k : Nat} {o : Ordr} {p q : Nat} (ha : OsA ps os) (hall : ∀ x ∈ rd (insM ps os) i, notD (doneL (evM ps) now) x = false) (ht : t < ps.length) (hik : i = (evT ps t).length + k) (hi : i < (evM ps).length) (ho : o ∈ os) (hpq : p < q) (hq : q < o.uses.length)
    (hv : rd o.uses q = ((t : Int), (k : Int))) (hne : (rd o.uses p).1 ≠ (t : Int)) : overB ps (now.set t (k : Int)) (rd o.uses p) o.res = true := by
  have hwu := ha.ok o ho _ (rd_mem (show p < o.uses.length by omega))
  have hm := arcsM_mem ho (arcsO_mem (ps := ps) hpq hq (by rw [hv]; exact fun e => hne e.symm))
  have h1 := insT_mem (first := firstM ps) (base := baseI (evM ps) (evM ps).length) hm
  rw [hv, numM_nat ht, Int.toNat_natCast, ← hik, ← insM_at hi] at h1
  have h2 := hall _ h1
  have he := endM_ok (r := o.res) hwu
  have hnn := numM_ok he
  generalize rd o.uses p = w at *
  obtain ⟨wt, wk, hwe, hwt, hwk⟩ := use_nat hwu
  obtain ⟨et, ek, hee, het, hek⟩ := evt_nat he
  rw [hee] at h2 hnn
  rw [numM_nat het] at h2 hnn
  simp only [notD, Int.toNat_natCast] at h2 hnn
  rw [doneL_at hnn.2, evM_at het hek] at h2
  simp only [Int.toNat_natCast, Bool.not_eq_false', decide_eq_true_eq] at h2
  subst hwe
  simp only [Prod.mk.injEq] at hee
  obtain ⟨q1, q2⟩ := hee
  obtain rfl : wt = et := by omega
  have hwt2 : wt ≠ t := by rintro rfl; exact hne rfl
  unfold overB
  have hsn : rd (now.set t (k : Int)) wt = rd now wt := rd_set_ne hwt2
  unfold endM at q2
  simp only [Int.toNat_natCast]
  split
  · rename_i hc
    rw [if_pos hc] at q2
    simp only at q2
    exact decide_eq_true (by omega)
  · rename_i hc
    rw [if_neg hc] at q2
    simp only at q2
    exact decide_eq_true (by omega)
/-- When all events have happened all trains have left. -/
theorem left_ok {ps : List (List Stg)} {now : List Int} (h : (doneL (evM ps) now).count false = 0) : leftB ps now = true := by
  refine List.all_eq_true.2 fun t ht => ?_
  rw [List.mem_range] at ht
  have hr := evM_room ht
  have hi : (evT ps t).length + (rd ps t).length < (evM ps).length := by omega
  have h1 : rd (doneL (evM ps) now) ((evT ps t).length + (rd ps t).length) = true := by
    cases hb : rd (doneL (evM ps) now) ((evT ps t).length + (rd ps t).length) with
    | true => rfl
    | false =>
      have := List.count_eq_zero.1 h
      exact absurd (by rw [← hb]; exact rd_mem (by simpa [doneL] using hi)) this
  rw [doneL_at hi, evM_at ht (Nat.le_refl _)] at h1
  simp only [Int.toNat_natCast, decide_eq_true_eq] at h1
  simp; omega
/-- A run along a Line, so far. -/
structure RunOk (ps : List (List Stg)) (os : List Ordr) (at' : List Int) (j : Nat) (now : List Int) : Prop where
  nok : NowOk ps now
  line : ∃ m, (ordM ps os at').drop j = lineD (insM ps os) m (doneL (evM ps) now)
  cnt : (doneL (evM ps) now).count false + j = (doneM ps at').count false
theorem RunOk.start {ps : List (List Stg)} {os : List Ordr} {at' : List Int} (hg : goodB ps at' = true) : RunOk ps os at' 0 at' := by
  refine ⟨⟨goodB_len hg, fun t ht => ?_⟩, ⟨(evM ps).length, rfl⟩, rfl⟩
  obtain ⟨hx, h1, _⟩ := goodB_get hg ht
  rw [rdq hx]; exact h1
theorem RunOk.step {ps : List (List Stg)} {os : List Ordr} {at' : List Int} {j : Nat} {now : List Int} (hr : RunOk ps os at' j now) (hj : j < (ordM ps os at').length) : ∃ (i t k : Nat), rd (ordM ps os at') j = (i : Int) ∧ t < ps.length ∧ k ≤ (rd ps t).length ∧ i = (evT ps t).length + k ∧ i < (evM ps).length ∧ rd (evM ps) i = ((t : Int), (k : Int)) ∧ (k : Int) = rd now t + 1 ∧ (∀ x ∈ rd (insM ps os) i, notD (doneL (evM ps) now) x = false) ∧ RunOk ps os at' (j + 1) (now.set t (k : Int)) := by
  obtain ⟨hn, ⟨m, hl⟩, hc⟩ := hr
  have hd : (ordM ps os at').drop j = rd (ordM ps os at') j :: (ordM ps os at').drop (j + 1) := by
    rw [rdq hj, List.drop_eq_getElem_cons hj]
  rw [hd] at hl
  cases m with
  | zero => rw [lineD] at hl; cases hl
  | succ m =>
    rw [lineD] at hl
    cases hx : nextD (insM ps os) (doneL (evM ps) now) with
    | none => rw [hx] at hl; cases hl
    | some i =>
      rw [hx] at hl
      simp only [List.cons.injEq] at hl
      obtain ⟨t, k, h1, h2, h3, h4, h5, h6, h7, h8⟩ := next_ok hn hx
      obtain ⟨hi1, hi2⟩ := nextD_lt hx
      refine ⟨i, t, k, hl.1, h1, h2, h3, h4, h5, h6, h8, hn.step, ⟨m, by rw [hl.2, h7]⟩, ?_⟩
      rw [← h7]
      have := List.count_set (a := true) (b := false) hi1
      have hge : 0 < (doneL (evM ps) now).count false := List.count_pos_iff.2 (by rw [← hi2, rd_eq hi1]; exact List.getElem_mem hi1)
      rw [← rd_eq hi1, hi2] at this
      simp at this
      omega
end Go.Proofs.Ythofdojknjhpgaa
set_option linter.unusedVariables false
set_option linter.unusedSimpArgs false
namespace Go.Proofs.Ythofdojknjhpgaa
open Go
theorem rbRef {σ : Nat → Nat} {n e : Nat} {t : TypeId} {a b : Int} : RB (RV σ n) (.row t e [.int .i64 a, .int .i64 b]) (.row t e [.int .i64 a, .int .i64 b]) := RB.cl fun v hv => by
  simp only [List.mem_cons, List.not_mem_nil, or_false] at hv
  rcases hv with rfl | rfl <;> exact Cl.int
theorem rbOrd {σ : Nat → Nat} {n e : Nat} {t : TypeId} {a : Int} {l : List (Int × Int)} : RB (RV σ n) (.row t e [.int .i64 a, L l]) (.row t e [.int .i64 a, L l]) := RB.cl fun v hv => by
  simp only [List.mem_cons, List.not_mem_nil, or_false] at hv
  rcases hv with rfl | rfl
  · exact Cl.int
  · exact L_cl
theorem veq_rv' {a1 a2 b1 b2 : Int} : vbin .neq 6 [(0, 2), (1, 2)] (.agg #[.int .i64 a1, .int .i64 a2]) (.agg #[.int .i64 b1, .int .i64 b2]) = some (.bool (decide ((a1, a2) ≠ (b1, b2)))) := veq_rv (a := (a1, a2)) (b := (b1, b2))
section
variable {h : AH}
theorem f7_ok {p e a : List Int} (hp : p.length < 4611686018427387904) (he : e.length < 4611686018427387904) (ha : a.length < 4611686018427387904) : AC Go.Proofs.Try.prog 7 [L p, L e, L a] h (.bool true) h := by
  refine AC.wf fun hw => AC.of_app hw Cl.bool ?_
  obtain ⟨ps, os, at', hm, ho, hg, c28⟩ := f28_ok (h := h) hp he ha
  have hval := hm.valid
  have hpa := pathsA_of hval
  have hosA := ho.osA hm
  have hel := evM_len hpa
  have hpl := hm.1
  have hpl2 := hm.2.1
  have hpb : ∀ r, r < ps.length → (rd ps r).length ≤ 4 := fun r hr => (hm.2.2 _ (rd_mem hr)).2.1
  have hatl := goodB_len hg
  have hol : (ordM ps os at').length ≤ (evM ps).length := lineD_len _ _
  have hosl := hosA.len
  have c31 := f31_ok (h := h) (fun H => ho.check hm) hpa hosA hg
  refine EC.intro f7_is ?_
  unfold f7_c
  (refine EX.rg (by intro KK hkk; unfold f7_r0; simp only [SX, Nat.reduceEqDiff, ↓reduceIte, Nat.reduceSub, Nat.reduceAdd, Nat.reduceLT, Nat.reduceLeDiff, I.quiet, false_implies, implies_true, -List.reduceReplicate]; exact hkk) ?_)
  (refine EX.rg (by intro KK hkk; unfold f7_r1; simp only [SX, Nat.reduceEqDiff, ↓reduceIte, Nat.reduceSub, Nat.reduceAdd, Nat.reduceLT, Nat.reduceLeDiff, I.quiet, false_implies, implies_true, -List.reduceReplicate]; refine RO_callvS (c28) ?_; simp only [SX, Nat.reduceEqDiff, ↓reduceIte, Nat.reduceSub, Nat.reduceAdd, Nat.reduceLT, Nat.reduceLeDiff, I.quiet, false_implies, implies_true, -List.reduceReplicate]; exact hkk) ?_)
  cases hok : okM ps os at' with
  | false =>
    have hlm : lineM ps os at' = ([], false) := by unfold lineM; rw [hok, if_neg (by decide)]
    rw [hlm] at c31
    simp only at c31
    (refine EX.rg (by intro KK hkk; unfold f7_r2; simp only [SX, Nat.reduceEqDiff, ↓reduceIte, Nat.reduceSub, Nat.reduceAdd, Nat.reduceLT, Nat.reduceLeDiff, I.quiet, false_implies, implies_true, -List.reduceReplicate]; refine RO_callvS (c31) ?_; simp only [SX, Nat.reduceEqDiff, ↓reduceIte, Nat.reduceSub, Nat.reduceAdd, Nat.reduceLT, Nat.reduceLeDiff, I.quiet, false_implies, implies_true, -List.reduceReplicate]; exact hkk) ?_)
    (refine EX.rg (by intro KK hkk; unfold f7_r3; simp only [SX, Nat.reduceEqDiff, ↓reduceIte, Nat.reduceSub, Nat.reduceAdd, Nat.reduceLT, Nat.reduceLeDiff, I.quiet, false_implies, implies_true, -List.reduceReplicate]; exact hkk) ?_)
    refine EX.condT rfl ?_
    refine EX.rg (by intro KK hkk; unfold f7_r4; refine RO_callvS (f25_ok) ?_; simp only [SX, Nat.reduceEqDiff, ↓reduceIte, Nat.reduceSub, Nat.reduceAdd, Nat.reduceLT, Nat.reduceLeDiff, I.quiet, false_implies, implies_true, -List.reduceReplicate, show decide (((0 : Nat) : Int) = 0) = true from rfl]; exact hkk) ?_
    ((with_reducible repeat first|apply EX.seq|apply EX.blk); refine EX.ret ?_; (with_reducible repeat first|apply nA|apply nB|apply nC|apply nD|apply nE|apply nF|apply nG (by decide)|apply nH|apply nI|apply nJ); refine ⟨_, rfl, ?_⟩; simp only [packV, upd, Nat.reduceEqDiff, reduceIte, if_true, if_false, Nat.one_ne_zero, Nat.zero_ne_one])
    exact ⟨trivial, [], (app_nil hw).symm⟩
  | true =>
    have hlm : lineM ps os at' = (evsM ps (ordM ps os at'), true) := by unfold lineM; rw [hok, if_pos rfl]
    have hcount : (ordM ps os at').length = (doneM ps at').count false := by
      unfold okM at hok
      simp only [Bool.and_eq_true, decide_eq_true_eq] at hok
      exact hok.1
    rw [hlm] at c31
    simp only at c31
    have hll : (evsM ps (ordM ps os at')).length = (ordM ps os at').length := by simp [evsM]
    have hlat : ∀ j i : Nat, j < (ordM ps os at').length → rd (ordM ps os at') j = (i : Int) → rd (evsM ps (ordM ps os at')) j = rd (evM ps) i := fun j i hj hi => by
      rw [rdq (by omega)]
      unfold evsM
      rw [List.getElem_map, ← rdq hj, hi, Int.toNat_natCast]
    have hrun0 := RunOk.start (os := os) hg
    have hstep := fun j now (hr : RunOk ps os at' j now) => hr.step
    generalize evsM ps (ordM ps os at') = l at *
    (refine EX.rg (by intro KK hkk; unfold f7_r2; simp only [SX, Nat.reduceEqDiff, ↓reduceIte, Nat.reduceSub, Nat.reduceAdd, Nat.reduceLT, Nat.reduceLeDiff, I.quiet, false_implies, implies_true, -List.reduceReplicate]; refine RO_callvS (c31) ?_; simp only [SX, Nat.reduceEqDiff, ↓reduceIte, Nat.reduceSub, Nat.reduceAdd, Nat.reduceLT, Nat.reduceLeDiff, I.quiet, false_implies, implies_true, -List.reduceReplicate]; exact hkk) ?_)
    (refine EX.rg (by intro KK hkk; unfold f7_r3; simp only [SX, Nat.reduceEqDiff, ↓reduceIte, Nat.reduceSub, Nat.reduceAdd, Nat.reduceLT, Nat.reduceLeDiff, I.quiet, false_implies, implies_true, -List.reduceReplicate]; exact hkk) ?_)
    refine EX.condF rfl ?_
    (refine EX.skip ?_; (with_reducible repeat first|apply nA|apply nB|apply nC|apply nD|apply nE|apply nF|apply nG (by decide)|apply nH|apply nI|apply nJ))
    have hane : at' ≠ [] := by rintro rfl; simp at hatl; omega
    have cp := app1_copy (h := h) (bs := []) (t := 3) (e := 1) (bytes := 8) (xs := at') rfl hane (by omega) (by omega)
    rw [app_nil hw] at cp
    simp only [List.length_nil, Nat.add_zero, List.nil_append] at cp
    (refine EX.rg (by intro KK hkk; unfold f7_r5; simp only [SX, Nat.reduceEqDiff, ↓reduceIte, Nat.reduceSub, Nat.reduceAdd, Nat.reduceLT, Nat.reduceLeDiff, I.quiet, false_implies, implies_true, -List.reduceReplicate, cp]; exact hkk) ?_)
    (refine EX.rg (by intro KK hkk; unfold f7_r6; simp only [SX, Nat.reduceEqDiff, ↓reduceIte, Nat.reduceSub, Nat.reduceAdd, Nat.reduceLT, Nat.reduceLeDiff, I.quiet, false_implies, implies_true, -List.reduceReplicate]; exact hkk) ?_)
    refine EX.nxtR (F := fun T1 H1 => ∃ now, T1 7 = L ps ∧ T1 12 = .slice (some ⟨h.next, 0, none⟩) ps.length ps.length ∧ H1 = h.app [some (.row 3 1 (F now))] ∧ now.length = ps.length ∧ leftB ps now = true) ?_ ?_
    · (with_reducible repeat first|apply EX.seq|apply EX.blk)
      refine EX.loop (σ := Nat × List Int) (fun s => upd (upd (upd (upd (upd (upd TE 7 (L ps)) 8 (L os)) 12 (.slice (some ⟨h.next, 0, none⟩) ps.length ps.length)) 46 (L l)) 47 (.int .i64 l.length)) 48 (.int .i64 (s.1 : Nat))) (fun s => h.app [some (.row 3 1 (F s.2))])
        (fun s => s.1 ≤ l.length ∧ RunOk ps os at' s.1 s.2) (fun s => l.length - s.1) (0, at') ⟨Nat.zero_le _, hrun0⟩ (by rw [hatl]; exact Less.wk (by (repeat refine Less.upd ?_ (by rfl)); exact Less.nil)) ?_
      rintro ⟨j, now⟩ ⟨hj, hrun⟩
      simp only at hj hrun
      (refine EX.rg (by intro KK hkk; unfold f7_r7; simp only [SX, Nat.reduceEqDiff, ↓reduceIte, Nat.reduceSub, Nat.reduceAdd, Nat.reduceLT, Nat.reduceLeDiff, I.quiet, false_implies, implies_true, -List.reduceReplicate, lt_nat]; exact hkk) ?_)
      (with_reducible repeat first|apply EX.seq|apply EX.blk)
      refine EX.dec rfl (fun hlt => ?_) (fun hlt => ?_)
      · (refine EX.skip ?_; (with_reducible repeat first|apply nA|apply nB|apply nC|apply nD|apply nE|apply nF|apply nG (by decide)|apply nH|apply nI|apply nJ))
        obtain ⟨i, t, k, hoi, ht, hk, hik, hi, hev, hkn, hall, hrun'⟩ := hstep j now hrun (by omega)
        have hlu := hlat j i (by omega) hoi
        rw [hev] at hlu
        have hnl := hrun.nok.1
        have htn : t < now.length := by omega
        have hkl4 := hpb t ht
        have hover := fun (o : Ordr) (ho : o ∈ os) (p' q : Nat) (h1 : p' < q) (h2 : q < o.uses.length) (h3 : rd o.uses q = ((t : Int), (k : Int))) (h4 : (rd o.uses p').1 ≠ (t : Int)) => over_ok (os := os) hosA hall ht hik hi ho h1 h2 h3 h4
        (refine EX.rg (by intro KK hkk; unfold f7_r8; simp only [SX, Nat.reduceEqDiff, ↓reduceIte, Nat.reduceSub, Nat.reduceAdd, Nat.reduceLT, Nat.reduceLeDiff, I.quiet, false_implies, implies_true, -List.reduceReplicate, hlt, wref, lds_ref hlt, hlu, hw.roi, stAt_all]; exact hkk) ?_)
        have hwr : IntKind.wrap .i64 (rd now t + 1) = (k : Int) := by rw [wrap_id (by omega) (by omega)]; omega
        have d1 : decide ((t : Int) < 0) = false := decide_eq_false (by omega)
        have d2 : decide ((ps.length : Int) ≤ (t : Int)) = false := decide_eq_false (by omega)
        have d2' : decide ((t : Int) ≥ (ps.length : Int)) = false := decide_eq_false (by omega)
        have d3 : decide ((k : Int) ≠ (k : Int)) = false := decide_eq_false (fun e => e rfl)
        have d4 : decide (((rd ps t).length : Int) < (k : Int)) = false := decide_eq_false (by omega)
        have d4' : decide ((k : Int) > ((rd ps t).length : Int)) = false := decide_eq_false (by omega)
        (refine EX.dg (by intro KK hkk; unfold f7_r9; simp only [SX, Nat.reduceEqDiff, ↓reduceIte, Nat.reduceSub, Nat.reduceAdd, Nat.reduceLT, Nat.reduceLeDiff, I.quiet, false_implies, implies_true, -List.reduceReplicate, d1, d2, d2', d3, d4, d4', hwr, ias1_own ht, ht, F_geti htn, ld1_ef ht o1l]; exact hkk) ?_)
        refine EX.condF rfl ?_
        (refine EX.skip ?_; (with_reducible repeat first|apply nA|apply nB|apply nC|apply nD|apply nE|apply nF|apply nG (by decide)|apply nH|apply nI|apply nJ))
        have hsl : (now.set t (k : Int)).length = ps.length := by simpa using hnl
        (refine EX.rg (by intro KK hkk; unfold f7_r11; simp only [SX, Nat.reduceEqDiff, ↓reduceIte, Nat.reduceSub, Nat.reduceAdd, Nat.reduceLT, Nat.reduceLeDiff, I.quiet, false_implies, implies_true, -List.reduceReplicate, ias1_own ht, hw.ro0, stAt_Fi, htn]; exact hkk) ?_)
        generalize hnw : now.set t (k : Int) = nw at *
        (refine EX.rg (by intro KK hkk; unfold f7_r12; simp only [SX, Nat.reduceEqDiff, ↓reduceIte, Nat.reduceSub, Nat.reduceAdd, Nat.reduceLT, Nat.reduceLeDiff, I.quiet, false_implies, implies_true, -List.reduceReplicate]; exact hkk) ?_)
        refine EX.cutR (F := fun T2 H2 => T2 7 = L ps ∧ T2 8 = L os ∧ T2 12 = .slice (some ⟨h.next, 0, none⟩) ps.length ps.length ∧ T2 46 = L l ∧ T2 47 = .int .i64 l.length ∧ T2 48 = .int .i64 (j : Nat) ∧ H2 = h.app [some (.row 3 1 (F nw)), some (.row 48 0 [.int .i64 (t : Nat), .int .i64 (k : Nat)])]) ?_ ?_
        · (with_reducible repeat first|apply EX.seq|apply EX.blk)
          refine EX.loop (σ := Nat) (fun kk => upd (upd (upd (upd (upd (upd (upd (upd (upd (upd TE 7 (L ps)) 8 (L os)) 12 (.slice (some ⟨h.next, 0, none⟩) ps.length ps.length)) 14 (.pointer (some ⟨h.next + 1, 0, none⟩))) 46 (L l)) 47 (.int .i64 l.length)) 48 (.int .i64 (j : Nat))) 90 (L os)) 91 (.int .i64 os.length)) 92 (.int .i64 (kk : Nat))) (fun _ => h.app [some (.row 3 1 (F nw)), some (.row 48 0 [.int .i64 (t : Nat), .int .i64 (k : Nat)])]) (fun kk => kk ≤ os.length) (fun kk => os.length - kk) 0 (Nat.zero_le _) (Less.wk (by (repeat refine Less.upd ?_ (by rfl)); exact Less.nil)) ?_
          intro kk hkk
          (refine EX.rg (by intro KK hkk; unfold f7_r13; simp only [SX, Nat.reduceEqDiff, ↓reduceIte, Nat.reduceSub, Nat.reduceAdd, Nat.reduceLT, Nat.reduceLeDiff, I.quiet, false_implies, implies_true, -List.reduceReplicate, lt_nat]; exact hkk) ?_)
          (with_reducible repeat first|apply EX.seq|apply EX.blk)
          refine EX.dec rfl (fun hlk => ?_) (fun hlk => ?_)
          · (refine EX.skip ?_; (with_reducible repeat first|apply nA|apply nB|apply nC|apply nD|apply nE|apply nF|apply nG (by decide)|apply nH|apply nI|apply nJ))
            have hef : ∀ H : AH, lds1 2 (ef os kk 0) H = some (.agg #[.int .i64 (rd os kk).res, L (rd os kk).uses], H) := fun H => by
              rw [lds1_ef hlk (Nat.le_refl 2)]; rfl
            have hom := rd_mem hlk
            have hou := hosA.ul _ hom
            have hok2 := hosA.ok _ hom
            have hov := hover _ hom
            (refine EX.rg (by intro KK hkk; unfold f7_r14; simp only [SX, Nat.reduceEqDiff, ↓reduceIte, Nat.reduceSub, Nat.reduceAdd, Nat.reduceLT, Nat.reduceLeDiff, I.quiet, false_implies, implies_true, -List.reduceReplicate, hlk, wordr, hef, hw.roi, stAt_all]; exact hkk) ?_)
            generalize rd os kk = o at *
            (refine EX.rg (by intro KK hkk; unfold f7_r15; simp only [SX, Nat.reduceEqDiff, ↓reduceIte, Nat.reduceSub, Nat.reduceAdd, Nat.reduceLT, Nat.reduceLeDiff, I.quiet, false_implies, implies_true, -List.reduceReplicate]; exact hkk) ?_)
            refine EX.cutR (F := fun T3 H3 => T3 7 = L ps ∧ T3 8 = L os ∧ T3 12 = .slice (some ⟨h.next, 0, none⟩) ps.length ps.length ∧ T3 14 = .pointer (some ⟨h.next + 1, 0, none⟩) ∧ T3 46 = L l ∧ T3 47 = .int .i64 l.length ∧ T3 48 = .int .i64 (j : Nat) ∧ T3 90 = L os ∧ T3 91 = .int .i64 os.length ∧ T3 92 = .int .i64 (kk : Nat) ∧ H3 = h.app [some (.row 3 1 (F nw)), some (.row 48 0 [.int .i64 (t : Nat), .int .i64 (k : Nat)]), some (.row 45 0 [.int .i64 o.res, L o.uses])]) ?_ ?_
            · (with_reducible repeat first|apply EX.seq|apply EX.blk)
              refine EX.loop (σ := Nat) (fun q => upd (upd (upd (upd (upd (upd (upd (upd (upd (upd (upd (upd (upd (upd TE 7 (L ps)) 8 (L os)) 12 (.slice (some ⟨h.next, 0, none⟩) ps.length ps.length)) 14 (.pointer (some ⟨h.next + 1, 0, none⟩))) 16 (.pointer (some ⟨h.next + 2, 0, none⟩))) 46 (L l)) 47 (.int .i64 l.length)) 48 (.int .i64 (j : Nat))) 90 (L os)) 91 (.int .i64 os.length)) 92 (.int .i64 (kk : Nat))) 97 (L o.uses)) 98 (.int .i64 o.uses.length)) 99 (.int .i64 (q : Nat))) (fun _ => h.app [some (.row 3 1 (F nw)), some (.row 48 0 [.int .i64 (t : Nat), .int .i64 (k : Nat)]), some (.row 45 0 [.int .i64 o.res, L o.uses])]) (fun q => q ≤ o.uses.length) (fun q => o.uses.length - q) 0 (Nat.zero_le _) (Less.wk (by (repeat refine Less.upd ?_ (by rfl)); exact Less.nil)) ?_
              intro q hq
              (refine EX.rg (by intro KK hkk; unfold f7_r16; simp only [SX, Nat.reduceEqDiff, ↓reduceIte, Nat.reduceSub, Nat.reduceAdd, Nat.reduceLT, Nat.reduceLeDiff, I.quiet, false_implies, implies_true, -List.reduceReplicate, lt_nat]; exact hkk) ?_)
              (with_reducible repeat first|apply EX.seq|apply EX.blk)
              refine EX.dec rfl (fun hlq => ?_) (fun hlq => ?_)
              · (refine EX.skip ?_; (with_reducible repeat first|apply nA|apply nB|apply nC|apply nD|apply nE|apply nF|apply nG (by decide)|apply nH|apply nI|apply nJ))
                (refine EX.rg (by intro KK hkk; unfold f7_r17; simp only [SX, Nat.reduceEqDiff, ↓reduceIte, Nat.reduceSub, Nat.reduceAdd, Nat.reduceLT, Nat.reduceLeDiff, I.quiet, false_implies, implies_true, -List.reduceReplicate, hlq, wref, lds_ref hlq, hw.roi, stAt_all]; exact hkk) ?_)
                (refine EX.rg (by intro KK hkk; unfold f7_r18; simp only [SX, Nat.reduceEqDiff, ↓reduceIte, Nat.reduceSub, Nat.reduceAdd, Nat.reduceLT, Nat.reduceLeDiff, I.quiet, false_implies, implies_true, -List.reduceReplicate, ldsAt_row, Nat.le_refl, veq_rv']; exact hkk) ?_)
                refine EX.dec rfl (fun hvn => ?_) (fun hvn => ?_)
                · (refine EX.exit ?_; (with_reducible repeat first|apply nA|apply nB|apply nC|apply nD|apply nE|apply nF|apply nG (by decide)|apply nH|apply nI|apply nJ))
                  (refine EX.rg (by intro KK hkk; unfold f7_r25; simp only [SX, Nat.reduceEqDiff, ↓reduceIte, Nat.reduceSub, Nat.reduceAdd, Nat.reduceLT, Nat.reduceLeDiff, I.quiet, false_implies, implies_true, -List.reduceReplicate, wrap_nat (show q < 4611686018427387904 by omega)]; exact hkk) ?_)
                  exact ⟨q + 1, hlq, by omega, Wk.app [0, 1, 2] hw (by decide) (AppOk.some rfl RB.F (AppOk.some rfl rbRef (AppOk.some rfl rbOrd AppOk.nil))) (by (repeat (first | exact RVs.nil | refine RVs.updc ?_ Cl.int rfl | refine RVs.updc ?_ L_cl rfl | refine RVs.updc ?_ Cl.bool rfl | refine RVs.upd ?_ (RV.ptr (rnm_00 rfl) (by simp only [List.length_cons, List.length_nil]; omega)) | refine RVs.upd ?_ (RV.ptr (rnm_ij rfl) (by simp only [List.length_cons, List.length_nil]; omega)) | refine RVs.upd ?_ (RV.ptr (rnm_i0 rfl) (by simp only [List.length_cons, List.length_nil]; omega)) | refine RVs.upd ?_ (RV.ptr (rnm_0j rfl) (by simp only [List.length_cons, List.length_nil]; omega)) | refine RVs.upd ?_ (RV.slice (rnm_00 rfl) (by simp only [List.length_cons, List.length_nil]; omega)) | refine RVs.upd ?_ (RV.slice (rnm_ij rfl) (by simp only [List.length_cons, List.length_nil]; omega)) | refine RVs.upd ?_ (RV.slice (rnm_i0 rfl) (by simp only [List.length_cons, List.length_nil]; omega)) | refine RVs.upd ?_ (RV.slice (rnm_0j rfl) (by simp only [List.length_cons, List.length_nil]; omega)) | refine RVs.updc ?_ Cl.slice0 rfl | refine RVs.upd ?_ (RV.map (rnm_00 rfl) (by simp only [List.length_cons, List.length_nil]; omega)) | refine RVs.upd ?_ (RV.map (rnm_ij rfl) (by simp only [List.length_cons, List.length_nil]; omega)))))⟩
                · (refine EX.skip ?_; (with_reducible repeat first|apply nA|apply nB|apply nC|apply nD|apply nE|apply nF|apply nG (by decide)|apply nH|apply nI|apply nJ))
                  have hve : rd o.uses q = ((t : Int), (k : Int)) := by
                    have h3 := Decidable.not_not.1 hvn
                    simp only [Prod.mk.injEq] at h3
                    exact Prod.ext h3.1 h3.2
                  have hqn : (q : Nat) ≤ o.uses.length := hq
                  have hsl2 : ∀ H : AH, sls1 2 (L o.uses) none (some (.int .i64 (q : Nat))) H = some (L (o.uses.take q), H) := fun H => by
                    have := sls1_Ll (h := H) (xs := o.uses) (e := 2) (k := .i64) (j := (q : Nat)) rfl (by omega) (by simpa using hq)
                    simpa only [Int.toNat_natCast] using this
                  (refine EX.rg (by intro KK hkk; unfold f7_r19; simp only [SX, Nat.reduceEqDiff, ↓reduceIte, Nat.reduceSub, Nat.reduceAdd, Nat.reduceLT, Nat.reduceLeDiff, I.quiet, false_implies, implies_true, -List.reduceReplicate, hsl2]; exact hkk) ?_)
                  have htkl : (o.uses.take q).length = q := by rw [List.length_take]; omega
                  have htk : ∀ p', p' < q → rd (o.uses.take q) p' = rd o.uses p' := fun p' h1 => by rw [rdq (by omega), rdq (by omega), List.getElem_take]
                  generalize o.uses.take q = ws at *
                  refine EX.cutR (F := fun T4 H4 => T4 7 = L ps ∧ T4 8 = L os ∧ T4 12 = .slice (some ⟨h.next, 0, none⟩) ps.length ps.length ∧ T4 14 = .pointer (some ⟨h.next + 1, 0, none⟩) ∧ T4 16 = .pointer (some ⟨h.next + 2, 0, none⟩) ∧ T4 46 = L l ∧ T4 47 = .int .i64 l.length ∧ T4 48 = .int .i64 (j : Nat) ∧ T4 90 = L os ∧ T4 91 = .int .i64 os.length ∧ T4 92 = .int .i64 (kk : Nat) ∧ T4 97 = L o.uses ∧ T4 98 = .int .i64 o.uses.length ∧ T4 99 = .int .i64 (q : Nat) ∧ H4 = h.app [some (.row 3 1 (F nw)), some (.row 48 0 [.int .i64 (t : Nat), .int .i64 (k : Nat)]), some (.row 45 0 [.int .i64 o.res, L o.uses])]) ?_ ?_
                  · (with_reducible repeat first|apply EX.seq|apply EX.blk)
                    refine EX.loop (σ := Nat) (fun p' => upd (upd (upd (upd (upd (upd (upd (upd (upd (upd (upd (upd (upd (upd (upd (upd (upd TE 7 (L ps)) 8 (L os)) 12 (.slice (some ⟨h.next, 0, none⟩) ps.length ps.length)) 14 (.pointer (some ⟨h.next + 1, 0, none⟩))) 16 (.pointer (some ⟨h.next + 2, 0, none⟩))) 46 (L l)) 47 (.int .i64 l.length)) 48 (.int .i64 (j : Nat))) 90 (L os)) 91 (.int .i64 os.length)) 92 (.int .i64 (kk : Nat))) 97 (L o.uses)) 98 (.int .i64 o.uses.length)) 99 (.int .i64 (q : Nat))) 110 (L ws)) 111 (.int .i64 ws.length)) 112 (.int .i64 (p' : Nat))) (fun _ => h.app [some (.row 3 1 (F nw)), some (.row 48 0 [.int .i64 (t : Nat), .int .i64 (k : Nat)]), some (.row 45 0 [.int .i64 o.res, L o.uses])]) (fun p' => p' ≤ ws.length) (fun p' => ws.length - p') 0 (Nat.zero_le _) (Wk.app [0, 1, 2] hw (by decide) (AppOk.some rfl RB.F (AppOk.some rfl rbRef (AppOk.some rfl rbOrd AppOk.nil))) (by (repeat (first | exact RVs.nil | refine RVs.updc ?_ Cl.int rfl | refine RVs.updc ?_ L_cl rfl | refine RVs.updc ?_ Cl.bool rfl | refine RVs.upd ?_ (RV.ptr (rnm_00 rfl) (by simp only [List.length_cons, List.length_nil]; omega)) | refine RVs.upd ?_ (RV.ptr (rnm_ij rfl) (by simp only [List.length_cons, List.length_nil]; omega)) | refine RVs.upd ?_ (RV.ptr (rnm_i0 rfl) (by simp only [List.length_cons, List.length_nil]; omega)) | refine RVs.upd ?_ (RV.ptr (rnm_0j rfl) (by simp only [List.length_cons, List.length_nil]; omega)) | refine RVs.upd ?_ (RV.slice (rnm_00 rfl) (by simp only [List.length_cons, List.length_nil]; omega)) | refine RVs.upd ?_ (RV.slice (rnm_ij rfl) (by simp only [List.length_cons, List.length_nil]; omega)) | refine RVs.upd ?_ (RV.slice (rnm_i0 rfl) (by simp only [List.length_cons, List.length_nil]; omega)) | refine RVs.upd ?_ (RV.slice (rnm_0j rfl) (by simp only [List.length_cons, List.length_nil]; omega)) | refine RVs.updc ?_ Cl.slice0 rfl | refine RVs.upd ?_ (RV.map (rnm_00 rfl) (by simp only [List.length_cons, List.length_nil]; omega)) | refine RVs.upd ?_ (RV.map (rnm_ij rfl) (by simp only [List.length_cons, List.length_nil]; omega)))))) ?_
                    intro p' hp'
                    (refine EX.rg (by intro KK hkk; unfold f7_r20; simp only [SX, Nat.reduceEqDiff, ↓reduceIte, Nat.reduceSub, Nat.reduceAdd, Nat.reduceLT, Nat.reduceLeDiff, I.quiet, false_implies, implies_true, -List.reduceReplicate, lt_nat]; exact hkk) ?_)
                    (with_reducible repeat first|apply EX.seq|apply EX.blk)
                    refine EX.dec rfl (fun hlp => ?_) (fun hlp => ?_)
                    · (refine EX.skip ?_; (with_reducible repeat first|apply nA|apply nB|apply nC|apply nD|apply nE|apply nF|apply nG (by decide)|apply nH|apply nI|apply nJ))
                      have hpq : p' < q := by omega
                      have hwe := htk p' hpq
                      have hwu : UseOk ps (rd ws p') := by rw [hwe]; exact hok2 _ (rd_mem (by omega))
                      have hovw : (rd ws p').1 ≠ (t : Int) → overB ps nw (rd ws p') o.res = true := fun h4 => by
                        rw [hwe] at h4 ⊢
                        exact hov p' q hpq hlq hve h4
                      (refine EX.rg (by intro KK hkk; unfold f7_r21; simp only [SX, Nat.reduceEqDiff, ↓reduceIte, Nat.reduceSub, Nat.reduceAdd, Nat.reduceLT, Nat.reduceLeDiff, I.quiet, false_implies, implies_true, -List.reduceReplicate, hlp, wref, lds_ref hlp, hw.roi, stAt_all]; exact hkk) ?_)
                      generalize rd ws p' = w at *
                      have c32 := f32_ok (h := h.app [some (.row 3 1 (F nw)), some (.row 48 0 [.int .i64 (t : Nat), .int .i64 (k : Nat)]), some (.row 45 0 [.int .i64 o.res, L o.uses]), some (.row 48 0 [.int .i64 w.1, .int .i64 w.2])]) (ps := ps) (w := .slice (some ⟨h.next, 0, none⟩) ps.length ps.length) (xs := nw) (u := w) (r := o.res) hpa (RdI.own (t := 3) (e := 1) (by rw [app_get0]; rfl) (by rw [app_next]; simp) hsl) hwu (by omega)
                      cases hd : decide (w.1 ≠ (t : Int)) with
                      | false =>
                        (refine EX.rg (by intro KK hkk; unfold f7_r22; simp only [SX, Nat.reduceEqDiff, ↓reduceIte, Nat.reduceSub, Nat.reduceAdd, Nat.reduceLT, Nat.reduceLeDiff, I.quiet, false_implies, implies_true, -List.reduceReplicate, hd, ldsAt_row, Nat.le_refl]; exact hkk) ?_)
                        refine EX.condF rfl ?_
                        (refine EX.skip ?_; (with_reducible repeat first|apply nA|apply nB|apply nC|apply nD|apply nE|apply nF|apply nG (by decide)|apply nH|apply nI|apply nJ))
                        (refine EX.rg (by intro KK hkk; unfold f7_r24; simp only [SX, Nat.reduceEqDiff, ↓reduceIte, Nat.reduceSub, Nat.reduceAdd, Nat.reduceLT, Nat.reduceLeDiff, I.quiet, false_implies, implies_true, -List.reduceReplicate, wrap_nat (show p' < 4611686018427387904 by omega)]; exact hkk) ?_)
                        exact ⟨p' + 1, hlp, by omega, Wk.app [0, 1, 2] hw (by decide) (AppOk.some rfl RB.F (AppOk.some rfl rbRef (AppOk.some rfl rbOrd AppOk.nil))) (by (repeat (first | exact RVs.nil | refine RVs.updc ?_ Cl.int rfl | refine RVs.updc ?_ L_cl rfl | refine RVs.updc ?_ Cl.bool rfl | refine RVs.upd ?_ (RV.ptr (rnm_00 rfl) (by simp only [List.length_cons, List.length_nil]; omega)) | refine RVs.upd ?_ (RV.ptr (rnm_ij rfl) (by simp only [List.length_cons, List.length_nil]; omega)) | refine RVs.upd ?_ (RV.ptr (rnm_i0 rfl) (by simp only [List.length_cons, List.length_nil]; omega)) | refine RVs.upd ?_ (RV.ptr (rnm_0j rfl) (by simp only [List.length_cons, List.length_nil]; omega)) | refine RVs.upd ?_ (RV.slice (rnm_00 rfl) (by simp only [List.length_cons, List.length_nil]; omega)) | refine RVs.upd ?_ (RV.slice (rnm_ij rfl) (by simp only [List.length_cons, List.length_nil]; omega)) | refine RVs.upd ?_ (RV.slice (rnm_i0 rfl) (by simp only [List.length_cons, List.length_nil]; omega)) | refine RVs.upd ?_ (RV.slice (rnm_0j rfl) (by simp only [List.length_cons, List.length_nil]; omega)) | refine RVs.updc ?_ Cl.slice0 rfl | refine RVs.upd ?_ (RV.map (rnm_00 rfl) (by simp only [List.length_cons, List.length_nil]; omega)) | refine RVs.upd ?_ (RV.map (rnm_ij rfl) (by simp only [List.length_cons, List.length_nil]; omega)))))⟩
                      | true =>
                        rw [hovw (of_decide_eq_true hd)] at c32
                        refine EX.rg (by intro KK hkk; unfold f7_r22; simp only [SX, Nat.reduceEqDiff, ↓reduceIte, Nat.reduceSub, Nat.reduceAdd, Nat.reduceLT, Nat.reduceLeDiff, I.quiet, false_implies, implies_true, -List.reduceReplicate, hd, ldsAt_row, Nat.le_refl]; refine RO_callvS c32 ?_; simp only [SX, Nat.reduceEqDiff, ↓reduceIte, Nat.reduceSub, Nat.reduceAdd, Nat.reduceLT, Nat.reduceLeDiff, I.quiet, false_implies, implies_true, -List.reduceReplicate]; exact hkk) ?_
                        refine EX.condF rfl ?_
                        (refine EX.skip ?_; (with_reducible repeat first|apply nA|apply nB|apply nC|apply nD|apply nE|apply nF|apply nG (by decide)|apply nH|apply nI|apply nJ))
                        (refine EX.rg (by intro KK hkk; unfold f7_r24; simp only [SX, Nat.reduceEqDiff, ↓reduceIte, Nat.reduceSub, Nat.reduceAdd, Nat.reduceLT, Nat.reduceLeDiff, I.quiet, false_implies, implies_true, -List.reduceReplicate, wrap_nat (show p' < 4611686018427387904 by omega)]; exact hkk) ?_)
                        exact ⟨p' + 1, hlp, by omega, Wk.app [0, 1, 2] hw (by decide) (AppOk.some rfl RB.F (AppOk.some rfl rbRef (AppOk.some rfl rbOrd AppOk.nil))) (by (repeat (first | exact RVs.nil | refine RVs.updc ?_ Cl.int rfl | refine RVs.updc ?_ L_cl rfl | refine RVs.updc ?_ Cl.bool rfl | refine RVs.upd ?_ (RV.ptr (rnm_00 rfl) (by simp only [List.length_cons, List.length_nil]; omega)) | refine RVs.upd ?_ (RV.ptr (rnm_ij rfl) (by simp only [List.length_cons, List.length_nil]; omega)) | refine RVs.upd ?_ (RV.ptr (rnm_i0 rfl) (by simp only [List.length_cons, List.length_nil]; omega)) | refine RVs.upd ?_ (RV.ptr (rnm_0j rfl) (by simp only [List.length_cons, List.length_nil]; omega)) | refine RVs.upd ?_ (RV.slice (rnm_00 rfl) (by simp only [List.length_cons, List.length_nil]; omega)) | refine RVs.upd ?_ (RV.slice (rnm_ij rfl) (by simp only [List.length_cons, List.length_nil]; omega)) | refine RVs.upd ?_ (RV.slice (rnm_i0 rfl) (by simp only [List.length_cons, List.length_nil]; omega)) | refine RVs.upd ?_ (RV.slice (rnm_0j rfl) (by simp only [List.length_cons, List.length_nil]; omega)) | refine RVs.updc ?_ Cl.slice0 rfl | refine RVs.upd ?_ (RV.map (rnm_00 rfl) (by simp only [List.length_cons, List.length_nil]; omega)) | refine RVs.upd ?_ (RV.map (rnm_ij rfl) (by simp only [List.length_cons, List.length_nil]; omega)))))⟩
                    · (refine EX.exit ?_; (with_reducible repeat first|apply nA|apply nB|apply nC|apply nD|apply nE|apply nF|apply nG (by decide)|apply nH|apply nI|apply nJ))
                      exact ⟨rfl, rfl, rfl, rfl, rfl, rfl, rfl, rfl, rfl, rfl, rfl, rfl, rfl, rfl, rfl⟩
                  · rintro T4 H4 ⟨u7, u8, u12, u14, u16, u46, u47, u48, u90, u91, u92, u97, u98, u99, rfl⟩
                    (with_reducible repeat first|apply nA|apply nB|apply nC|apply nD|apply nE|apply nF|apply nG (by decide)|apply nH|apply nI|apply nJ)
                    (refine EX.rg (by intro KK hkk; unfold f7_r25; simp only [SX, Nat.reduceEqDiff, ↓reduceIte, Nat.reduceSub, Nat.reduceAdd, Nat.reduceLT, Nat.reduceLeDiff, I.quiet, false_implies, implies_true, -List.reduceReplicate, u99, wrap_nat (show q < 4611686018427387904 by omega)]; exact hkk) ?_)
                    refine ⟨q + 1, hlq, by omega, Less.wk ?_⟩
                    refine Less.upd (Less.upd (Less.upd (Less.upd (Less.upd (Less.upd (Less.upd (Less.upd (Less.upd (Less.upd (Less.upd (Less.upd (Less.upd (Less.upd Less.nil ?_) ?_) ?_) ?_) ?_) ?_) ?_) ?_) ?_) ?_) ?_) ?_) ?_) ?_ <;> simp [upd, u7, u8, u12, u14, u16, u46, u47, u48, u90, u91, u92, u97, u98]
              · (refine EX.exit ?_; (with_reducible repeat first|apply nA|apply nB|apply nC|apply nD|apply nE|apply nF|apply nG (by decide)|apply nH|apply nI|apply nJ))
                exact ⟨rfl, rfl, rfl, rfl, rfl, rfl, rfl, rfl, rfl, rfl, rfl⟩
            · rintro T3 H3 ⟨u7, u8, u12, u14, u46, u47, u48, u90, u91, u92, rfl⟩
              (with_reducible repeat first|apply nA|apply nB|apply nC|apply nD|apply nE|apply nF|apply nG (by decide)|apply nH|apply nI|apply nJ)
              (refine EX.rg (by intro KK hkk; unfold f7_r26; simp only [SX, Nat.reduceEqDiff, ↓reduceIte, Nat.reduceSub, Nat.reduceAdd, Nat.reduceLT, Nat.reduceLeDiff, I.quiet, false_implies, implies_true, -List.reduceReplicate, u92, wrap_nat (show kk < 4611686018427387904 by omega)]; exact hkk) ?_)
              refine ⟨kk + 1, hlk, by omega, Wk.app [0, 1] hw (by decide) (AppOk.some rfl RB.F (AppOk.some rfl rbRef AppOk.nil)) ?_⟩
              refine RVs.updc (RVs.updc (RVs.updc (RVs.updc (RVs.updc (RVs.updc (RVs.upd (RVs.upd (RVs.updc (RVs.updc RVs.nil L_cl ?_) L_cl ?_) ?_) ?_) L_cl ?_) Cl.int ?_) Cl.int ?_) L_cl ?_) Cl.int ?_) Cl.int ?_
              · simp [upd, u7]
              · simp [upd, u8]
              · simp only [upd, Nat.reduceEqDiff, reduceIte, u12]; exact RV.slice (rnm_00 rfl) (by simp only [List.length_cons, List.length_nil]; omega)
              · simp only [upd, Nat.reduceEqDiff, reduceIte, u14]; exact RV.ptr (rnm_ij rfl) (by simp only [List.length_cons, List.length_nil]; omega)
              · simp [upd, u46]
              · simp [upd, u47]
              · simp [upd, u48]
              · simp [upd, u90]
              · simp [upd, u91]
              · simp [upd]
          · (refine EX.exit ?_; (with_reducible repeat first|apply nA|apply nB|apply nC|apply nD|apply nE|apply nF|apply nG (by decide)|apply nH|apply nI|apply nJ))
            exact ⟨rfl, rfl, rfl, rfl, rfl, rfl, rfl⟩
        · rintro T2 H2 ⟨u7, u8, u12, u46, u47, u48, rfl⟩
          (with_reducible repeat first|apply nA|apply nB|apply nC|apply nD|apply nE|apply nF|apply nG (by decide)|apply nH|apply nI|apply nJ)
          (refine EX.rg (by intro KK hkk; unfold f7_r27; simp only [SX, Nat.reduceEqDiff, ↓reduceIte, Nat.reduceSub, Nat.reduceAdd, Nat.reduceLT, Nat.reduceLeDiff, I.quiet, false_implies, implies_true, -List.reduceReplicate, u48, wrap_nat (show j < 4611686018427387904 by omega)]; exact hkk) ?_)
          refine ⟨(j + 1, nw), ⟨hlt, hrun'⟩, by show l.length - (j + 1) < l.length - j; omega, Wk.app [0] hw (by decide) (AppOk.some rfl RB.F AppOk.nil) ?_⟩
          refine RVs.updc (RVs.updc (RVs.updc (RVs.upd (RVs.updc (RVs.updc RVs.nil L_cl ?_) L_cl ?_) ?_) L_cl ?_) Cl.int ?_) Cl.int ?_
          · simp [upd, u7]
          · simp [upd, u8]
          · simp only [upd, Nat.reduceEqDiff, reduceIte, u12]; exact RV.slice (rnm_00 rfl) (by simp only [List.length_cons, List.length_nil]; omega)
          · simp [upd, u46]
          · simp [upd, u47]
          · simp [upd]
      · (refine EX.exit ?_; (with_reducible repeat first|apply nA|apply nB|apply nC|apply nD|apply nE|apply nF|apply nG (by decide)|apply nH|apply nI|apply nJ))
        obtain rfl : j = l.length := by omega
        refine ⟨now, rfl, rfl, rfl, hrun.nok.1, left_ok ?_⟩
        have := hrun.cnt
        omega
    · rintro T1 H1 ⟨now, t7, t12, rfl, hnl, hleft⟩
      have c33 := f33_ok (h := h.app [some (.row 3 1 (F now))]) (ps := ps) (w := .slice (some ⟨h.next, 0, none⟩) ps.length ps.length) (xs := now) (RdI.own (t := 3) (e := 1) (by rw [app_get0]; rfl) (by rw [app_next]; simp) hnl) (by omega)
      rw [hleft] at c33
      (with_reducible repeat first|apply nA|apply nB|apply nC|apply nD|apply nE|apply nF|apply nG (by decide)|apply nH|apply nI|apply nJ)
      refine EX.rg (by intro KK hkk; unfold f7_r28; refine RO_callvS (f25_ok) ?_; simp only [SX, Nat.reduceEqDiff, ↓reduceIte, Nat.reduceSub, Nat.reduceAdd, Nat.reduceLT, Nat.reduceLeDiff, I.quiet, false_implies, implies_true, -List.reduceReplicate, t7, t12]; refine RO_callvS c33 ?_; simp only [SX, Nat.reduceEqDiff, ↓reduceIte, Nat.reduceSub, Nat.reduceAdd, Nat.reduceLT, Nat.reduceLeDiff, I.quiet, false_implies, implies_true, -List.reduceReplicate]; exact hkk) ?_
      ((with_reducible repeat first|apply EX.seq|apply EX.blk); refine EX.ret ?_; (with_reducible repeat first|apply nA|apply nB|apply nC|apply nD|apply nE|apply nF|apply nG (by decide)|apply nH|apply nI|apply nJ); refine ⟨_, rfl, ?_⟩; simp only [packV, upd, Nat.reduceEqDiff, reduceIte, if_true, if_false, Nat.one_ne_zero, Nat.zero_ne_one])
      exact ⟨trivial, _, rfl⟩
end
end Go.Proofs.Ythofdojknjhpgaa
namespace Go.Proofs.Ythofdojknjhpgaa
open Go
theorem PrecedenceUsed_ac (p : List Int) (hp : p.length < 4611686018427387904) (e : List Int) (he : e.length < 4611686018427387904) (a : List Int) (ha : a.length < 4611686018427387904) : AC Go.Proofs.Try.prog 7 [L p, L e, L a] hE (.bool true) hE := f7_ok hp he ha
end Go.Proofs.Ythofdojknjhpgaa
