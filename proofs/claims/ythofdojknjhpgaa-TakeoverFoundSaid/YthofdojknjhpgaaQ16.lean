/- Contracts: Identify of the program. -/
import Derived.Test.YthofdojknjhpgaaQ15
set_option linter.unusedVariables false
set_option linter.unusedSimpArgs false
namespace Go.Proofs.Ythofdojknjhpgaa
open Go
/-- The same from the program's search. -/
theorem ident_P {ps : List (List Stg)} {ex occ : List Int} {bud : Int} (hne : ps ≠ []) (hasc : occ.Pairwise (· < ·)) (hbb : ¬ (bud < 1 ∨ 1048576 < bud)) {b : Bool} {used : Nat} {sum : Int} {best : List Int} {tw : Bool}
    (hdf : dfs ps occ bud (leafP ps ex occ) ps.length [] (0, 0, [], false) = (b, used, sum, best, tw)) :
    ident ps ex occ bud = (if b = false then (([] : List Int), (0 : Int), (15 : Int)) else if best = [] then ([], (used : Int), 6) else if tw = true then ([], (used : Int), 13) else (best, (used : Int), 0)) ∧ (best ≠ [] → best.length = ps.length) := by
  obtain ⟨s1, s2, s3⟩ := dfs_sim (R := SimR) (ps := ps) (occ := occ) (bud := bud) (leaf1 := leafP ps ex occ) (leaf2 := leafR ps ex occ) (fun xs a b hx h => leaf_sim hne hx h) ps.length [] (Nat.add_zero _) 0 (0, [], false) (0, 0, []) ⟨by simp, fun e => absurd rfl e⟩
  have hln : best ≠ [] → best.length = ps.length := by
    have := (dfs_sim (R := fun (a _ : Int × List Int × Bool) => a.2.1 ≠ [] → a.2.1.length = ps.length) (ps := ps) (occ := occ) (bud := bud) (leaf1 := leafP ps ex occ) (leaf2 := leafP ps ex occ) (by
      intro xs a b hx ha
      unfold leafP
      split
      · exact fun _ => hx
      · exact ha) ps.length [] (Nat.add_zero _) 0 (0, [], false) (0, [], false) (fun e => absurd rfl e)).2.2
    rw [hdf] at this
    exact this
  rw [hdf] at s1 s2 s3
  refine ⟨?_, hln⟩
  rw [ident, if_neg (fun e => e hasc), if_neg hbb]
  generalize dfs ps occ bud (leafR ps ex occ) ps.length [] (0, 0, 0, []) = r at *
  obtain ⟨b2, used2, found, sum2, best2⟩ := r
  simp only at s1 s2 s3
  subst s1; subst s2
  obtain ⟨q1, q2⟩ := s3
  simp only at q1 q2
  cases b with
  | false => rfl
  | true =>
    simp only
    rw [if_neg (show ¬ (true = false) by decide)]
    by_cases hf : found = 0
    · rw [if_pos hf, if_pos (q1.2 hf)]
    · obtain ⟨-, q4, q5⟩ := q2 hf
      rw [if_neg hf, if_neg (fun e => hf (q1.1 e)), q4]
      by_cases h1 : 1 < found
      · rw [if_pos h1, if_pos (decide_eq_true h1)]
      · rw [if_neg h1, if_neg (by simp [h1]), q5 (by omega)]
section
variable {h : AH} {bs : List (Option Blk)} {ps : List (List Stg)} {ex occ xs best : List Int} {s m : Nat} {bud : Int} {v vb : Value} {T : Tm} {H : AH}
/-- 'Identify' of the program. -/
theorem f19_ok (hval : validB ps = true) (hgood : goodB ps ex = true) (hs : SmallP ps) (hne : ps ≠ []) (ho : occ.length < 4611686018427387904) : AC Go.Proofs.Try.prog 19 [L ps, L ex, L occ, .int .i64 bud] h (identV (ident ps ex occ bud)) h := by
  refine AC.wf fun hw => AC.of_app hw identV_cl ?_
  refine EC.intro f19_is ?_
  unfold f19_c
  ((repeat first | with_reducible refine EX.seq ?_ | with_reducible refine EX.blk ?_); refine EX.regx (by intro KK hkk; unfold f19_r0; simp only [SX, Nat.reduceEqDiff, ↓reduceIte, Nat.reduceSub, Nat.reduceAdd, Nat.reduceLT, Nat.reduceLeDiff, Nat.one_ne_zero, Nat.zero_ne_one, show decP [] = [] from rfl, I.quiet, List.not_mem_nil, false_implies, implies_true, -List.reduceReplicate, decide_true, decide_false]; exact hkk) ?_; (repeat first | with_reducible refine nxt_n ?_ | with_reducible refine nxt_e ?_ | with_reducible refine nxt_r ?_ | with_reducible refine inB_n ?_ | with_reducible refine inB_r ?_ | with_reducible refine inB_x ?_ | with_reducible refine inB_y (by decide) ?_ | with_reducible refine orQ_r ?_ | with_reducible refine orQ_x ?_ | with_reducible refine orQ_n ?_))
  ((repeat first | with_reducible refine EX.seq ?_ | with_reducible refine EX.blk ?_); refine EX.regx (by intro KK hkk; unfold f19_r1; simp only [SX, Nat.reduceEqDiff, ↓reduceIte, Nat.reduceSub, Nat.reduceAdd, Nat.reduceLT, Nat.reduceLeDiff, Nat.one_ne_zero, Nat.zero_ne_one, show decP [] = [] from rfl, I.quiet, List.not_mem_nil, false_implies, implies_true, -List.reduceReplicate, decide_true, decide_false, hval, hgood]; refine RO_callvS (f26_ok) ?_; simp only [SX, Nat.reduceEqDiff, ↓reduceIte, Nat.reduceSub, Nat.reduceAdd, Nat.reduceLT, Nat.reduceLeDiff, Nat.one_ne_zero, Nat.zero_ne_one, show decP [] = [] from rfl, I.quiet, List.not_mem_nil, false_implies, implies_true, -List.reduceReplicate, decide_true, decide_false, hval, hgood]; refine RO_callvS (f54_ok) ?_; simp only [SX, Nat.reduceEqDiff, ↓reduceIte, Nat.reduceSub, Nat.reduceAdd, Nat.reduceLT, Nat.reduceLeDiff, Nat.one_ne_zero, Nat.zero_ne_one, show decP [] = [] from rfl, I.quiet, List.not_mem_nil, false_implies, implies_true, -List.reduceReplicate, decide_true, decide_false, hval, hgood]; exact hkk) ?_; (repeat first | with_reducible refine nxt_n ?_ | with_reducible refine nxt_e ?_ | with_reducible refine nxt_r ?_ | with_reducible refine inB_n ?_ | with_reducible refine inB_r ?_ | with_reducible refine inB_x ?_ | with_reducible refine inB_y (by decide) ?_ | with_reducible refine orQ_r ?_ | with_reducible refine orQ_x ?_ | with_reducible refine orQ_n ?_))
  refine EX.condF rfl ?_
  (refine EX.skip ?_; (repeat first | with_reducible refine nxt_n ?_ | with_reducible refine nxt_e ?_ | with_reducible refine nxt_r ?_ | with_reducible refine inB_n ?_ | with_reducible refine inB_r ?_ | with_reducible refine inB_x ?_ | with_reducible refine inB_y (by decide) ?_ | with_reducible refine orQ_r ?_ | with_reducible refine orQ_x ?_ | with_reducible refine orQ_n ?_))
  ((repeat first | with_reducible refine EX.seq ?_ | with_reducible refine EX.blk ?_); refine EX.regx (by intro KK hkk; unfold f19_r3; simp only [SX, Nat.reduceEqDiff, ↓reduceIte, Nat.reduceSub, Nat.reduceAdd, Nat.reduceLT, Nat.reduceLeDiff, Nat.one_ne_zero, Nat.zero_ne_one, show decP [] = [] from rfl, I.quiet, List.not_mem_nil, false_implies, implies_true, -List.reduceReplicate, decide_true, decide_false]; exact hkk) ?_; (repeat first | with_reducible refine nxt_n ?_ | with_reducible refine nxt_e ?_ | with_reducible refine nxt_r ?_ | with_reducible refine inB_n ?_ | with_reducible refine inB_r ?_ | with_reducible refine inB_x ?_ | with_reducible refine inB_y (by decide) ?_ | with_reducible refine orQ_r ?_ | with_reducible refine orQ_x ?_ | with_reducible refine orQ_n ?_))
  refine EX.nxtR (F := fun T1 H1 => occ.Pairwise (· < ·) ∧ T1 0 = L ps ∧ T1 1 = L ex ∧ T1 2 = L occ ∧ T1 3 = .int .i64 bud ∧ H1 = h) ?_ ?_
  · (repeat first | with_reducible refine EX.seq ?_ | with_reducible refine EX.blk ?_)
    refine EX.loop (σ := Nat) (fun j => upd (upd (upd (upd (upd (upd (upd TE 0 (L ps)) 1 (L ex)) 2 (L occ)) 3 (.int .i64 bud)) 23 (L occ)) 24 (.int .i64 occ.length)) 25 (.int .i64 (j : Nat))) (fun _ => h)
      (fun j => j ≤ occ.length ∧ (occ.take j).Pairwise (· < ·)) (fun j => occ.length - j) 0 ⟨Nat.zero_le _, by simp⟩ (Less.wk (by (repeat refine Less.upd ?_ (by rfl)); exact Less.nil)) ?_
    rintro j ⟨hj, hp⟩
    ((repeat first | with_reducible refine EX.seq ?_ | with_reducible refine EX.blk ?_); refine EX.regx (by intro KK hkk; unfold f19_r4; simp only [SX, Nat.reduceEqDiff, ↓reduceIte, Nat.reduceSub, Nat.reduceAdd, Nat.reduceLT, Nat.reduceLeDiff, Nat.one_ne_zero, Nat.zero_ne_one, show decP [] = [] from rfl, I.quiet, List.not_mem_nil, false_implies, implies_true, -List.reduceReplicate, decide_true, decide_false, lt_nat]; exact hkk) ?_; (repeat first | with_reducible refine nxt_n ?_ | with_reducible refine nxt_e ?_ | with_reducible refine nxt_r ?_ | with_reducible refine inB_n ?_ | with_reducible refine inB_r ?_ | with_reducible refine inB_x ?_ | with_reducible refine inB_y (by decide) ?_ | with_reducible refine orQ_r ?_ | with_reducible refine orQ_x ?_ | with_reducible refine orQ_n ?_))
    (repeat first | with_reducible refine EX.seq ?_ | with_reducible refine EX.blk ?_)
    refine EX.dec rfl (fun hlt => ?_) (fun hlt => ?_)
    · (refine EX.skip ?_; (repeat first | with_reducible refine nxt_n ?_ | with_reducible refine nxt_e ?_ | with_reducible refine nxt_r ?_ | with_reducible refine inB_n ?_ | with_reducible refine inB_r ?_ | with_reducible refine inB_x ?_ | with_reducible refine inB_y (by decide) ?_ | with_reducible refine orQ_r ?_ | with_reducible refine orQ_x ?_ | with_reducible refine orQ_n ?_))
      ((repeat first | with_reducible refine EX.seq ?_ | with_reducible refine EX.blk ?_); refine EX.regx (by intro KK hkk; unfold f19_r5; simp only [SX, Nat.reduceEqDiff, ↓reduceIte, Nat.reduceSub, Nat.reduceAdd, Nat.reduceLT, Nat.reduceLeDiff, Nat.one_ne_zero, Nat.zero_ne_one, show decP [] = [] from rfl, I.quiet, List.not_mem_nil, false_implies, implies_true, -List.reduceReplicate, decide_true, decide_false, hlt, ld1_ef hlt o1i, rd_eq hlt]; exact hkk) ?_; (repeat first | with_reducible refine nxt_n ?_ | with_reducible refine nxt_e ?_ | with_reducible refine nxt_r ?_ | with_reducible refine inB_n ?_ | with_reducible refine inB_r ?_ | with_reducible refine inB_x ?_ | with_reducible refine inB_y (by decide) ?_ | with_reducible refine orQ_r ?_ | with_reducible refine orQ_x ?_ | with_reducible refine orQ_n ?_))
      have e25 : IntKind.wrap .i64 ((j : Int) + 1) = ((j + 1 : Nat) : Int) := wrap_nat (show j < 4611686018427387904 by omega)
      cases j with
      | zero =>
        ((repeat first | with_reducible refine EX.seq ?_ | with_reducible refine EX.blk ?_); refine EX.regx (by intro KK hkk; unfold f19_r6; simp only [SX, Nat.reduceEqDiff, ↓reduceIte, Nat.reduceSub, Nat.reduceAdd, Nat.reduceLT, Nat.reduceLeDiff, Nat.one_ne_zero, Nat.zero_ne_one, show decP [] = [] from rfl, I.quiet, List.not_mem_nil, false_implies, implies_true, -List.reduceReplicate, decide_true, decide_false, show decide ((((0 : Nat) : Int)) > 0) = false from rfl]; exact hkk) ?_; (repeat first | with_reducible refine nxt_n ?_ | with_reducible refine nxt_e ?_ | with_reducible refine nxt_r ?_ | with_reducible refine inB_n ?_ | with_reducible refine inB_r ?_ | with_reducible refine inB_x ?_ | with_reducible refine inB_y (by decide) ?_ | with_reducible refine orQ_r ?_ | with_reducible refine orQ_x ?_ | with_reducible refine orQ_n ?_))
        refine EX.condF rfl ?_
        (refine EX.skip ?_; (repeat first | with_reducible refine nxt_n ?_ | with_reducible refine nxt_e ?_ | with_reducible refine nxt_r ?_ | with_reducible refine inB_n ?_ | with_reducible refine inB_r ?_ | with_reducible refine inB_x ?_ | with_reducible refine inB_y (by decide) ?_ | with_reducible refine orQ_r ?_ | with_reducible refine orQ_x ?_ | with_reducible refine orQ_n ?_))
        ((repeat first | with_reducible refine EX.seq ?_ | with_reducible refine EX.blk ?_); refine EX.regx (by intro KK hkk; unfold f19_r8; simp only [SX, Nat.reduceEqDiff, ↓reduceIte, Nat.reduceSub, Nat.reduceAdd, Nat.reduceLT, Nat.reduceLeDiff, Nat.one_ne_zero, Nat.zero_ne_one, show decP [] = [] from rfl, I.quiet, List.not_mem_nil, false_implies, implies_true, -List.reduceReplicate, decide_true, decide_false, e25]; exact hkk) ?_; (repeat first | with_reducible refine nxt_n ?_ | with_reducible refine nxt_e ?_ | with_reducible refine nxt_r ?_ | with_reducible refine inB_n ?_ | with_reducible refine inB_r ?_ | with_reducible refine inB_x ?_ | with_reducible refine inB_y (by decide) ?_ | with_reducible refine orQ_r ?_ | with_reducible refine orQ_x ?_ | with_reducible refine orQ_n ?_))
        refine ⟨0 + 1, ⟨by omega, ?_⟩, by show occ.length - (0 + 1) < occ.length - 0; omega, Less.wk (by (repeat refine Less.upd ?_ (by rfl)); exact Less.nil)⟩
        rw [List.take_succ_eq_append_getElem hlt]; simp
      | succ i =>
        have hi0 : i < occ.length := by omega
        ((repeat first | with_reducible refine EX.seq ?_ | with_reducible refine EX.blk ?_); refine EX.regx (by intro KK hkk; unfold f19_r6; simp only [SX, Nat.reduceEqDiff, ↓reduceIte, Nat.reduceSub, Nat.reduceAdd, Nat.reduceLT, Nat.reduceLeDiff, Nat.one_ne_zero, Nat.zero_ne_one, show decP [] = [] from rfl, I.quiet, List.not_mem_nil, false_implies, implies_true, -List.reduceReplicate, decide_true, decide_false, show decide ((((i + 1 : Nat) : Int)) > 0) = true from decide_eq_true (by omega), wrap_sub1 (show i < 4611686018427387904 by omega), hi0, ld1_ef hi0 o1i, rd_eq hi0]; exact hkk) ?_; (repeat first | with_reducible refine nxt_n ?_ | with_reducible refine nxt_e ?_ | with_reducible refine nxt_r ?_ | with_reducible refine inB_n ?_ | with_reducible refine inB_r ?_ | with_reducible refine inB_x ?_ | with_reducible refine inB_y (by decide) ?_ | with_reducible refine orQ_r ?_ | with_reducible refine orQ_x ?_ | with_reducible refine orQ_n ?_))
        refine EX.dec rfl (fun hd => ?_) (fun hd => ?_)
        · ((repeat first | with_reducible refine EX.seq ?_ | with_reducible refine EX.blk ?_); refine EX.regx (by intro KK hkk; unfold f19_r7; simp only [SX, Nat.reduceEqDiff, ↓reduceIte, Nat.reduceSub, Nat.reduceAdd, Nat.reduceLT, Nat.reduceLeDiff, Nat.one_ne_zero, Nat.zero_ne_one, show decP [] = [] from rfl, I.quiet, List.not_mem_nil, false_implies, implies_true, -List.reduceReplicate, decide_true, decide_false]; exact hkk) ?_; (repeat first | with_reducible refine nxt_n ?_ | with_reducible refine nxt_e ?_ | with_reducible refine nxt_r ?_ | with_reducible refine inB_n ?_ | with_reducible refine inB_r ?_ | with_reducible refine inB_x ?_ | with_reducible refine inB_y (by decide) ?_ | with_reducible refine orQ_r ?_ | with_reducible refine orQ_x ?_ | with_reducible refine orQ_n ?_))
          (repeat first | with_reducible refine EX.seq ?_ | with_reducible refine EX.blk ?_)
          refine EX.wk ?_ (ret3 (bs := []) hw (app_nil hw).symm rfl rfl rfl)
          ((repeat first | with_reducible refine EX.seq ?_ | with_reducible refine EX.blk ?_); refine EX.ret ?_; (repeat first | with_reducible refine nxt_n ?_ | with_reducible refine nxt_e ?_ | with_reducible refine nxt_r ?_ | with_reducible refine inB_n ?_ | with_reducible refine inB_r ?_ | with_reducible refine inB_x ?_ | with_reducible refine inB_y (by decide) ?_ | with_reducible refine orQ_r ?_ | with_reducible refine orQ_x ?_ | with_reducible refine orQ_n ?_); refine ⟨_, rfl, ?_⟩; simp only [packV, upd, Nat.reduceEqDiff, reduceIte, if_true, if_false, Nat.one_ne_zero, Nat.zero_ne_one])
          refine ⟨?_, [], (app_nil hw).symm⟩
          rw [ident, if_pos]
          · rfl
          · intro hq
            have := List.pairwise_iff_getElem.1 hq i (i + 1) hi0 hlt (by omega)
            omega
        · (refine EX.skip ?_; (repeat first | with_reducible refine nxt_n ?_ | with_reducible refine nxt_e ?_ | with_reducible refine nxt_r ?_ | with_reducible refine inB_n ?_ | with_reducible refine inB_r ?_ | with_reducible refine inB_x ?_ | with_reducible refine inB_y (by decide) ?_ | with_reducible refine orQ_r ?_ | with_reducible refine orQ_x ?_ | with_reducible refine orQ_n ?_))
          ((repeat first | with_reducible refine EX.seq ?_ | with_reducible refine EX.blk ?_); refine EX.regx (by intro KK hkk; unfold f19_r8; simp only [SX, Nat.reduceEqDiff, ↓reduceIte, Nat.reduceSub, Nat.reduceAdd, Nat.reduceLT, Nat.reduceLeDiff, Nat.one_ne_zero, Nat.zero_ne_one, show decP [] = [] from rfl, I.quiet, List.not_mem_nil, false_implies, implies_true, -List.reduceReplicate, decide_true, decide_false, e25]; exact hkk) ?_; (repeat first | with_reducible refine nxt_n ?_ | with_reducible refine nxt_e ?_ | with_reducible refine nxt_r ?_ | with_reducible refine inB_n ?_ | with_reducible refine inB_r ?_ | with_reducible refine inB_x ?_ | with_reducible refine inB_y (by decide) ?_ | with_reducible refine orQ_r ?_ | with_reducible refine orQ_x ?_ | with_reducible refine orQ_n ?_))
          refine ⟨i + 1 + 1, ⟨by omega, asc_step hlt hp (by omega)⟩, by show occ.length - (i + 1 + 1) < occ.length - (i + 1); omega, Less.wk (by (repeat refine Less.upd ?_ (by rfl)); exact Less.nil)⟩
    · (refine EX.exit ?_; (repeat first | with_reducible refine nxt_n ?_ | with_reducible refine nxt_e ?_ | with_reducible refine nxt_r ?_ | with_reducible refine inB_n ?_ | with_reducible refine inB_r ?_ | with_reducible refine inB_x ?_ | with_reducible refine inB_y (by decide) ?_ | with_reducible refine orQ_r ?_ | with_reducible refine orQ_x ?_ | with_reducible refine orQ_n ?_))
      refine ⟨?_, rfl, rfl, rfl, rfl, rfl⟩
      rwa [List.take_of_length_le (by omega)] at hp
  rintro T1 H1 ⟨hasc, t0, t1, t2, t3, rfl⟩
  have hnn : ¬ ¬ occ.Pairwise (· < ·) := fun e => e hasc
  refine EX.seq ?_
  refine EX.seqM (F := fun T2 H2 => T2 0 = L ps ∧ T2 1 = L ex ∧ T2 2 = L occ ∧ T2 3 = .int .i64 bud ∧ T2 47 = .bool (decide (bud < 1) || decide (1048576 < bud)) ∧ H2 = H1) ?_ ?_
  · cases c1 : decide (bud < 1) with
    | true =>
      refine EX.regx (by intro KK hkk; unfold f19_r9; simp only [SX, Nat.reduceEqDiff, ↓reduceIte, Nat.reduceSub, Nat.reduceAdd, Nat.reduceLT, Nat.reduceLeDiff, Nat.one_ne_zero, Nat.zero_ne_one, show decP [] = [] from rfl, I.quiet, List.not_mem_nil, false_implies, implies_true, -List.reduceReplicate, decide_true, decide_false, t3, c1]; exact hkk) ?_
      exact ⟨rfl, t0, t1, t2, t3, rfl, rfl⟩
    | false =>
      refine EX.regx (by intro KK hkk; unfold f19_r9; simp only [SX, Nat.reduceEqDiff, ↓reduceIte, Nat.reduceSub, Nat.reduceAdd, Nat.reduceLT, Nat.reduceLeDiff, Nat.one_ne_zero, Nat.zero_ne_one, show decP [] = [] from rfl, I.quiet, List.not_mem_nil, false_implies, implies_true, -List.reduceReplicate, decide_true, decide_false, t3, c1]; exact hkk) ?_
      exact ⟨rfl, t0, t1, t2, t3, rfl, rfl⟩
  rintro T2 H2 ⟨u0, u1, u2, u3, u47, rfl⟩
  cases c1 : (decide (bud < 1) || decide (1048576 < bud)) with
  | true =>
    rw [c1] at u47
    refine EX.condT u47 ?_
    simp only [Bool.or_eq_true, decide_eq_true_eq] at c1
    ((repeat first | with_reducible refine EX.seq ?_ | with_reducible refine EX.blk ?_); refine EX.regx (by intro KK hkk; unfold f19_r10; simp only [SX, Nat.reduceEqDiff, ↓reduceIte, Nat.reduceSub, Nat.reduceAdd, Nat.reduceLT, Nat.reduceLeDiff, Nat.one_ne_zero, Nat.zero_ne_one, show decP [] = [] from rfl, I.quiet, List.not_mem_nil, false_implies, implies_true, -List.reduceReplicate, decide_true, decide_false]; exact hkk) ?_; (repeat first | with_reducible refine nxt_n ?_ | with_reducible refine nxt_e ?_ | with_reducible refine nxt_r ?_ | with_reducible refine inB_n ?_ | with_reducible refine inB_r ?_ | with_reducible refine inB_x ?_ | with_reducible refine inB_y (by decide) ?_ | with_reducible refine orQ_r ?_ | with_reducible refine orQ_x ?_ | with_reducible refine orQ_n ?_))
    (repeat first | with_reducible refine EX.seq ?_ | with_reducible refine EX.blk ?_)
    refine EX.wk ?_ (ret3 (bs := []) hw (app_nil hw).symm rfl rfl rfl)
    ((repeat first | with_reducible refine EX.seq ?_ | with_reducible refine EX.blk ?_); refine EX.ret ?_; (repeat first | with_reducible refine nxt_n ?_ | with_reducible refine nxt_e ?_ | with_reducible refine nxt_r ?_ | with_reducible refine inB_n ?_ | with_reducible refine inB_r ?_ | with_reducible refine inB_x ?_ | with_reducible refine inB_y (by decide) ?_ | with_reducible refine orQ_r ?_ | with_reducible refine orQ_x ?_ | with_reducible refine orQ_n ?_); refine ⟨_, rfl, ?_⟩; simp only [packV, upd, Nat.reduceEqDiff, reduceIte, if_true, if_false, Nat.one_ne_zero, Nat.zero_ne_one])
    refine ⟨?_, [], (app_nil hw).symm⟩
    rw [ident, if_neg hnn, if_pos c1]; rfl
  | false =>
  rw [c1] at u47
  refine EX.condF u47 ?_
  (refine EX.skip ?_; (repeat first | with_reducible refine nxt_n ?_ | with_reducible refine nxt_e ?_ | with_reducible refine nxt_r ?_ | with_reducible refine inB_n ?_ | with_reducible refine inB_r ?_ | with_reducible refine inB_x ?_ | with_reducible refine inB_y (by decide) ?_ | with_reducible refine orQ_r ?_ | with_reducible refine orQ_x ?_ | with_reducible refine orQ_n ?_))
  have hbb : ¬ (bud < 1 ∨ 1048576 < bud) := by
    simp only [Bool.or_eq_false_iff, decide_eq_false_iff_not] at c1; omega
  ((repeat first | with_reducible refine EX.seq ?_ | with_reducible refine EX.blk ?_); refine EX.regx (by intro KK hkk; unfold f19_r11; simp only [SX, Nat.reduceEqDiff, ↓reduceIte, Nat.reduceSub, Nat.reduceAdd, Nat.reduceLT, Nat.reduceLeDiff, Nat.one_ne_zero, Nat.zero_ne_one, show decP [] = [] from rfl, I.quiet, List.not_mem_nil, false_implies, implies_true, -List.reduceReplicate, decide_true, decide_false, u0, u1, u2, u3, new_app hw]; exact hkk) ?_; (repeat first | with_reducible refine nxt_n ?_ | with_reducible refine nxt_e ?_ | with_reducible refine nxt_r ?_ | with_reducible refine inB_n ?_ | with_reducible refine inB_r ?_ | with_reducible refine inB_x ?_ | with_reducible refine inB_y (by decide) ?_ | with_reducible refine orQ_r ?_ | with_reducible refine orQ_x ?_ | with_reducible refine orQ_n ?_))
  obtain ⟨_, _, g, bs', b, ⟨used, sum, best, tw⟩, rfl, rfl, hdf, ⟨v, vb, hS, hM, hv, hb⟩, hu⟩ := f55_ok (s := 1) (m := 0) (h := H2) (bud := bud) hw hs hgood ho hasc hne (by omega) ps.length [some (.map []), some (.row 87 0 [L ps, L ex, L occ, .slice none 0 0, .map (some H2.next), .int .i64 0, .int .i64 bud, .slice none 0 0, .int .i64 0, .bool false])] [] (0, 0, [], false) (by simp) PosP.nil (by show ((0 : Nat) : Int) ≤ bud; omega) ⟨_, _, rfl, rfl, .inl ⟨rfl, rfl⟩, .inl ⟨rfl, rfl⟩⟩
  obtain ⟨hid, hln⟩ := ident_P hne hasc hbb hdf
  rw [hid]
  simp only at hS hb hu
  have hsl := getElem?_lt hS
  have g' : AC Go.Proofs.Try.prog 55 [.pointer (some ⟨H2.next + 1, 0, none⟩), .int .i64 0] (H2.app [some (.map []), some (.row 87 0 [L ps, L ex, L occ, .slice none 0 0, .map (some H2.next), .int .i64 0, .int .i64 bud, .slice none 0 0, .int .i64 0, .bool false])]) (.bool b) (H2.app bs') := g
  refine EX.seqR (F := fun T3 H3 => b = true ∧ best ≠ [] ∧ ¬ tw = true ∧ T3 13 = .pointer (some ⟨H2.next + 1, 0, none⟩) ∧ H3 = H2.app bs') ?_ ?_
  · ((repeat first | with_reducible refine EX.seq ?_ | with_reducible refine EX.blk ?_); refine EX.regx (by intro KK hkk; unfold f19_r12; simp only [SX, Nat.reduceEqDiff, ↓reduceIte, Nat.reduceSub, Nat.reduceAdd, Nat.reduceLT, Nat.reduceLeDiff, Nat.one_ne_zero, Nat.zero_ne_one, show decP [] = [] from rfl, I.quiet, List.not_mem_nil, false_implies, implies_true, -List.reduceReplicate, decide_true, decide_false]; refine RO_callE (g') ?_; simp only [SX, Nat.reduceEqDiff, ↓reduceIte, Nat.reduceSub, Nat.reduceAdd, Nat.reduceLT, Nat.reduceLeDiff, Nat.one_ne_zero, Nat.zero_ne_one, show decP [] = [] from rfl, I.quiet, List.not_mem_nil, false_implies, implies_true, -List.reduceReplicate, decide_true, decide_false]; exact hkk) ?_; (repeat first | with_reducible refine nxt_n ?_ | with_reducible refine nxt_e ?_ | with_reducible refine nxt_r ?_ | with_reducible refine inB_n ?_ | with_reducible refine inB_r ?_ | with_reducible refine inB_x ?_ | with_reducible refine inB_y (by decide) ?_ | with_reducible refine orQ_r ?_ | with_reducible refine orQ_x ?_ | with_reducible refine orQ_n ?_))
    cases b with
    | false =>
      refine EX.condT rfl ?_
      ((repeat first | with_reducible refine EX.seq ?_ | with_reducible refine EX.blk ?_); refine EX.regx (by intro KK hkk; unfold f19_r13; simp only [SX, Nat.reduceEqDiff, ↓reduceIte, Nat.reduceSub, Nat.reduceAdd, Nat.reduceLT, Nat.reduceLeDiff, Nat.one_ne_zero, Nat.zero_ne_one, show decP [] = [] from rfl, I.quiet, List.not_mem_nil, false_implies, implies_true, -List.reduceReplicate, decide_true, decide_false]; exact hkk) ?_; (repeat first | with_reducible refine nxt_n ?_ | with_reducible refine nxt_e ?_ | with_reducible refine nxt_r ?_ | with_reducible refine inB_n ?_ | with_reducible refine inB_r ?_ | with_reducible refine inB_x ?_ | with_reducible refine inB_y (by decide) ?_ | with_reducible refine orQ_r ?_ | with_reducible refine orQ_x ?_ | with_reducible refine orQ_n ?_))
      (repeat first | with_reducible refine EX.seq ?_ | with_reducible refine EX.blk ?_)
      refine EX.wk ?_ (ret3 (bs := bs') hw rfl rfl rfl rfl)
      ((repeat first | with_reducible refine EX.seq ?_ | with_reducible refine EX.blk ?_); refine EX.ret ?_; (repeat first | with_reducible refine nxt_n ?_ | with_reducible refine nxt_e ?_ | with_reducible refine nxt_r ?_ | with_reducible refine inB_n ?_ | with_reducible refine inB_r ?_ | with_reducible refine inB_x ?_ | with_reducible refine inB_y (by decide) ?_ | with_reducible refine orQ_r ?_ | with_reducible refine orQ_x ?_ | with_reducible refine orQ_n ?_); refine ⟨_, rfl, ?_⟩; simp only [packV, upd, Nat.reduceEqDiff, reduceIte, if_true, if_false, Nat.one_ne_zero, Nat.zero_ne_one])
      exact ⟨rfl, [], (app_nil hw).symm⟩
    | true =>
      refine EX.condF rfl ?_
      have hq := hb.nilEq (eqs := [])
      ((repeat first | with_reducible refine EX.seq ?_ | with_reducible refine EX.blk ?_); refine EX.regx (by intro KK hkk; unfold f19_r14; simp only [SX, Nat.reduceEqDiff, ↓reduceIte, Nat.reduceSub, Nat.reduceAdd, Nat.reduceLT, Nat.reduceLeDiff, Nat.one_ne_zero, Nat.zero_ne_one, show decP [] = [] from rfl, I.quiet, List.not_mem_nil, false_implies, implies_true, -List.reduceReplicate, decide_true, decide_false, hS, hq]; exact hkk) ?_; (repeat first | with_reducible refine nxt_n ?_ | with_reducible refine nxt_e ?_ | with_reducible refine nxt_r ?_ | with_reducible refine inB_n ?_ | with_reducible refine inB_r ?_ | with_reducible refine inB_x ?_ | with_reducible refine inB_y (by decide) ?_ | with_reducible refine orQ_r ?_ | with_reducible refine orQ_x ?_ | with_reducible refine orQ_n ?_))
      refine EX.dec rfl (fun h0 => ?_) (fun h0 => ?_)
      · ((repeat first | with_reducible refine EX.seq ?_ | with_reducible refine EX.blk ?_); refine EX.drwx (by intro KK hkk; unfold f19_r15; simp only [SX, Nat.reduceEqDiff, ↓reduceIte, Nat.reduceSub, Nat.reduceAdd, Nat.reduceLT, Nat.reduceLeDiff, Nat.one_ne_zero, Nat.zero_ne_one, show decP [] = [] from rfl, I.quiet, List.not_mem_nil, false_implies, implies_true, -List.reduceReplicate, decide_true, decide_false, hS]; exact hkk) ?_; (repeat first | with_reducible refine nxt_n ?_ | with_reducible refine nxt_e ?_ | with_reducible refine nxt_r ?_ | with_reducible refine inB_n ?_ | with_reducible refine inB_r ?_ | with_reducible refine inB_x ?_ | with_reducible refine inB_y (by decide) ?_ | with_reducible refine orQ_r ?_ | with_reducible refine orQ_x ?_ | with_reducible refine orQ_n ?_))
        (repeat first | with_reducible refine EX.seq ?_ | with_reducible refine EX.blk ?_)
        refine EX.wk ?_ (ret3 (bs := bs') hw rfl rfl rfl rfl)
        ((repeat first | with_reducible refine EX.seq ?_ | with_reducible refine EX.blk ?_); refine EX.ret ?_; (repeat first | with_reducible refine nxt_n ?_ | with_reducible refine nxt_e ?_ | with_reducible refine nxt_r ?_ | with_reducible refine inB_n ?_ | with_reducible refine inB_r ?_ | with_reducible refine inB_x ?_ | with_reducible refine inB_y (by decide) ?_ | with_reducible refine orQ_r ?_ | with_reducible refine orQ_x ?_ | with_reducible refine orQ_n ?_); refine ⟨_, rfl, ?_⟩; simp only [packV, upd, Nat.reduceEqDiff, reduceIte, if_true, if_false, Nat.one_ne_zero, Nat.zero_ne_one])
        refine ⟨?_, [], (app_nil hw).symm⟩
        rw [if_neg (by decide), if_pos h0]; rfl
      · ((repeat first | with_reducible refine EX.seq ?_ | with_reducible refine EX.blk ?_); refine EX.regx (by intro KK hkk; unfold f19_r16; simp only [SX, Nat.reduceEqDiff, ↓reduceIte, Nat.reduceSub, Nat.reduceAdd, Nat.reduceLT, Nat.reduceLeDiff, Nat.one_ne_zero, Nat.zero_ne_one, show decP [] = [] from rfl, I.quiet, List.not_mem_nil, false_implies, implies_true, -List.reduceReplicate, decide_true, decide_false, hS]; exact hkk) ?_; (repeat first | with_reducible refine nxt_n ?_ | with_reducible refine nxt_e ?_ | with_reducible refine nxt_r ?_ | with_reducible refine inB_n ?_ | with_reducible refine inB_r ?_ | with_reducible refine inB_x ?_ | with_reducible refine inB_y (by decide) ?_ | with_reducible refine orQ_r ?_ | with_reducible refine orQ_x ?_ | with_reducible refine orQ_n ?_))
        cases tw with
        | true =>
          refine EX.condT rfl ?_
          ((repeat first | with_reducible refine EX.seq ?_ | with_reducible refine EX.blk ?_); refine EX.drwx (by intro KK hkk; unfold f19_r17; simp only [SX, Nat.reduceEqDiff, ↓reduceIte, Nat.reduceSub, Nat.reduceAdd, Nat.reduceLT, Nat.reduceLeDiff, Nat.one_ne_zero, Nat.zero_ne_one, show decP [] = [] from rfl, I.quiet, List.not_mem_nil, false_implies, implies_true, -List.reduceReplicate, decide_true, decide_false, hS]; exact hkk) ?_; (repeat first | with_reducible refine nxt_n ?_ | with_reducible refine nxt_e ?_ | with_reducible refine nxt_r ?_ | with_reducible refine inB_n ?_ | with_reducible refine inB_r ?_ | with_reducible refine inB_x ?_ | with_reducible refine inB_y (by decide) ?_ | with_reducible refine orQ_r ?_ | with_reducible refine orQ_x ?_ | with_reducible refine orQ_n ?_))
          (repeat first | with_reducible refine EX.seq ?_ | with_reducible refine EX.blk ?_)
          refine EX.wk ?_ (ret3 (bs := bs') hw rfl rfl rfl rfl)
          ((repeat first | with_reducible refine EX.seq ?_ | with_reducible refine EX.blk ?_); refine EX.ret ?_; (repeat first | with_reducible refine nxt_n ?_ | with_reducible refine nxt_e ?_ | with_reducible refine nxt_r ?_ | with_reducible refine inB_n ?_ | with_reducible refine inB_r ?_ | with_reducible refine inB_x ?_ | with_reducible refine inB_y (by decide) ?_ | with_reducible refine orQ_r ?_ | with_reducible refine orQ_x ?_ | with_reducible refine orQ_n ?_); refine ⟨_, rfl, ?_⟩; simp only [packV, upd, Nat.reduceEqDiff, reduceIte, if_true, if_false, Nat.one_ne_zero, Nat.zero_ne_one])
          refine ⟨?_, [], (app_nil hw).symm⟩
          rw [if_neg (by decide), if_neg h0]; rfl
        | false =>
          refine EX.condF rfl ?_
          refine EX.skip ?_
          (repeat first | with_reducible refine nxt_n ?_ | with_reducible refine nxt_e ?_ | with_reducible refine nxt_r ?_ | with_reducible refine inB_n ?_ | with_reducible refine inB_r ?_ | with_reducible refine inB_x ?_ | with_reducible refine inB_y (by decide) ?_ | with_reducible refine orQ_r ?_ | with_reducible refine orQ_x ?_ | with_reducible refine orQ_n ?_)
          exact ⟨rfl, h0, by decide, rfl, rfl⟩
  · rintro T3 H3 ⟨rfl, h0, h1, w13, rfl⟩
    ((repeat first | with_reducible refine EX.seq ?_ | with_reducible refine EX.blk ?_); refine EX.drwx (by intro KK hkk; unfold f19_r18; simp only [SX, Nat.reduceEqDiff, ↓reduceIte, Nat.reduceSub, Nat.reduceAdd, Nat.reduceLT, Nat.reduceLeDiff, Nat.one_ne_zero, Nat.zero_ne_one, show decP [] = [] from rfl, I.quiet, List.not_mem_nil, false_implies, implies_true, -List.reduceReplicate, decide_true, decide_false, w13, hS]; exact hkk) ?_; (repeat first | with_reducible refine nxt_n ?_ | with_reducible refine nxt_e ?_ | with_reducible refine nxt_r ?_ | with_reducible refine inB_n ?_ | with_reducible refine inB_r ?_ | with_reducible refine inB_x ?_ | with_reducible refine inB_y (by decide) ?_ | with_reducible refine orQ_r ?_ | with_reducible refine orQ_x ?_ | with_reducible refine orQ_n ?_))
    have hln2 := hln h0
    have hs1 := hs.1
    (repeat first | with_reducible refine EX.seq ?_ | with_reducible refine EX.blk ?_)
    refine EX.wk ?_ (ret3B hw hb h0 (by omega) rfl rfl rfl)
    ((repeat first | with_reducible refine EX.seq ?_ | with_reducible refine EX.blk ?_); refine EX.ret ?_; (repeat first | with_reducible refine nxt_n ?_ | with_reducible refine nxt_e ?_ | with_reducible refine nxt_r ?_ | with_reducible refine inB_n ?_ | with_reducible refine inB_r ?_ | with_reducible refine inB_x ?_ | with_reducible refine inB_y (by decide) ?_ | with_reducible refine orQ_r ?_ | with_reducible refine orQ_x ?_ | with_reducible refine orQ_n ?_); refine ⟨_, rfl, ?_⟩; simp only [packV, upd, Nat.reduceEqDiff, reduceIte, if_true, if_false, Nat.one_ne_zero, Nat.zero_ne_one])
    refine ⟨?_, [], (app_nil hw).symm⟩
    rw [if_neg (by decide), if_neg h0, if_neg h1]; rfl
end
end Go.Proofs.Ythofdojknjhpgaa
