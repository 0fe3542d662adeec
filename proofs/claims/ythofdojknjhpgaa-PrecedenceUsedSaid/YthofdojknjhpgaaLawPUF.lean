/- Own texts, merged: a part of the proof that is told in the last text of this claim. -/
import Derived.Test.YthofdojknjhpgaaCMXm
import Derived.Test.YthofdojknjhpgaaLawPUE
set_option linter.unnecessarySimpa false
set_option linter.unusedSectionVars false
set_option linter.defProp false
set_option linter.unusedVariables false
set_option linter.unusedSimpArgs false
namespace Go.Proofs.Ythofdojknjhpgaa
open Go
def insL (K : List Int) (l : List Int) : List Int := l.foldl insK K
theorem mem_insL {y : Int} : ∀ {l K : List Int}, y ∈ insL K l ↔ y ∈ K ∨ y ∈ l
  | [], K => by simp [insL]
  | x :: l, K => by
    have ih := mem_insL (y := y) (l := l) (K := insK K x)
    simp only [insL, List.foldl_cons] at ih ⊢
    rw [ih, mem_insK, List.mem_cons]
    constructor
    · rintro ((a | b) | c)
      · exact .inl a
      · exact .inr (.inl b)
      · exact .inr (.inr c)
    · rintro (a | b | c)
      · exact .inl (.inl a)
      · exact .inl (.inr b)
      · exact .inr c
theorem insL_snoc {l K : List Int} {x : Int} : insL K (l ++ [x]) = insK (insL K l) x := by simp [insL]
def mm (K : List Int) : Option Blk := some (.map (mS K))
section
variable {h : AH}
/-- 'precedence.Valid'. -/
theorem f26_ok {ps : List (List Stg)} : AC Go.Proofs.Try.prog 26 [L ps] h (.bool (validB ps)) h := by
  refine AC.bd 0 rfl fun bp => ?_
  have lp := bp.1
  refine AC.wf fun hw => AC.of_app hw Cl.bool (EC.intro f26_is ?_)
  unfold f26_c
  (refine EX.rg (by intro KK hkk; unfold f26_r0; simp only [SX, Nat.reduceEqDiff, ↓reduceIte, Nat.reduceSub, Nat.reduceAdd, Nat.reduceLT, Nat.reduceLeDiff, I.quiet, false_implies, implies_true, -List.reduceReplicate]; exact hkk) ?_)
  (refine EX.rg (by intro KK hkk; unfold f26_r1; simp only [SX, Nat.reduceEqDiff, ↓reduceIte, Nat.reduceSub, Nat.reduceAdd, Nat.reduceLT, Nat.reduceLeDiff, I.quiet, false_implies, implies_true, -List.reduceReplicate]; exact hkk) ?_)
  refine EX.dec rfl (fun hd => ?_) (fun hd => ?_)
  · (refine EX.rg (by intro KK hkk; unfold f26_r2; simp only [SX, Nat.reduceEqDiff, ↓reduceIte, Nat.reduceSub, Nat.reduceAdd, Nat.reduceLT, Nat.reduceLeDiff, I.quiet, false_implies, implies_true, -List.reduceReplicate]; exact hkk) ?_)
    ((with_reducible repeat first|apply EX.seq|apply EX.blk); refine EX.ret ?_; (with_reducible repeat first|apply nA|apply nB|apply nC|apply nD|apply nE|apply nF|apply nG (by decide)|apply nH|apply nI|apply nJ); refine ⟨_, rfl, ?_⟩; simp only [packV, upd, Nat.reduceEqDiff, reduceIte, if_true, if_false, Nat.one_ne_zero, Nat.zero_ne_one])
    have : ¬ ps.length ≤ 10 := by omega
    exact ⟨by simp [validB, this], [], (app_nil hw).symm⟩
  (refine EX.skip ?_; (with_reducible repeat first|apply nA|apply nB|apply nC|apply nD|apply nE|apply nF|apply nG (by decide)|apply nH|apply nI|apply nJ))
  have h10 : ps.length ≤ 10 := by omega
  (refine EX.rg (by intro KK hkk; unfold f26_r3; simp only [SX, Nat.reduceEqDiff, ↓reduceIte, Nat.reduceSub, Nat.reduceAdd, Nat.reduceLT, Nat.reduceLeDiff, I.quiet, false_implies, implies_true, -List.reduceReplicate, new_app hw]; exact hkk) ?_)
  (refine EX.rg (by intro KK hkk; unfold f26_r4; simp only [SX, Nat.reduceEqDiff, ↓reduceIte, Nat.reduceSub, Nat.reduceAdd, Nat.reduceLT, Nat.reduceLeDiff, I.quiet, false_implies, implies_true, -List.reduceReplicate]; exact hkk) ?_)
  refine EX.nxtR (F := fun T1 H1 => T1 3 = .map (some h.next) ∧ T1 4 = .map (some (h.next + 1)) ∧ H1 = h.app [mm (insL [] (secsOf ps)), mm (insL [] (ptsOf ps))] ∧ ps.all pathB = true) ?_ ?_
  · (with_reducible repeat first|apply EX.seq|apply EX.blk)
    refine EX.loop (fun i => upd (upd (upd (upd (upd TE 3 (.map (some h.next))) 4 (.map (some (h.next + 1)))) 17 (L ps)) 18 (.int .i64 ps.length)) 19 (.int .i64 (i : Nat)))
      (fun i => h.app [mm (insL [] (secsOf (ps.take i))), mm (insL [] (ptsOf (ps.take i)))]) (fun i => i ≤ ps.length ∧ (ps.take i).all pathB = true) (fun i => ps.length - i) 0 ⟨Nat.zero_le _, rfl⟩ (Less.wk (by (repeat refine Less.upd ?_ (by rfl)); exact Less.nil)) ?_
    intro i ⟨hi, hall⟩
    (refine EX.rg (by intro KK hkk; unfold f26_r5; simp only [SX, Nat.reduceEqDiff, ↓reduceIte, Nat.reduceSub, Nat.reduceAdd, Nat.reduceLT, Nat.reduceLeDiff, I.quiet, false_implies, implies_true, -List.reduceReplicate, lt_nat]; exact hkk) ?_)
    (with_reducible repeat first|apply EX.seq|apply EX.blk)
    refine EX.dec rfl (fun hd1 => ?_) (fun hd1 => ?_)
    · (refine EX.skip ?_; (with_reducible repeat first|apply nA|apply nB|apply nC|apply nD|apply nE|apply nF|apply nG (by decide)|apply nH|apply nI|apply nJ))
      have hmem : ps[i] ∈ ps := List.getElem_mem _
      (refine EX.rg (by intro KK hkk; unfold f26_r6; simp only [SX, Nat.reduceEqDiff, ↓reduceIte, Nat.reduceSub, Nat.reduceAdd, Nat.reduceLT, Nat.reduceLeDiff, I.quiet, false_implies, implies_true, -List.reduceReplicate, hd1, ld1_ef hd1 o1l, rd_eq hd1]; exact hkk) ?_)
      cases c1 : decide ((ps[i].length : Int) < 1) with
      | true =>
        have c1' := of_decide_eq_true c1
        (refine EX.rg (by intro KK hkk; unfold f26_r7; simp only [SX, Nat.reduceEqDiff, ↓reduceIte, Nat.reduceSub, Nat.reduceAdd, Nat.reduceLT, Nat.reduceLeDiff, I.quiet, false_implies, implies_true, -List.reduceReplicate, c1]; exact hkk) ?_)
        refine EX.condT rfl ?_
        (refine EX.rg (by intro KK hkk; unfold f26_r8; simp only [SX, Nat.reduceEqDiff, ↓reduceIte, Nat.reduceSub, Nat.reduceAdd, Nat.reduceLT, Nat.reduceLeDiff, I.quiet, false_implies, implies_true, -List.reduceReplicate]; exact hkk) ?_)
        ((with_reducible repeat first|apply EX.seq|apply EX.blk); refine EX.ret ?_; (with_reducible repeat first|apply nA|apply nB|apply nC|apply nD|apply nE|apply nF|apply nG (by decide)|apply nH|apply nI|apply nJ); refine ⟨_, rfl, ?_⟩; simp only [packV, upd, Nat.reduceEqDiff, reduceIte, if_true, if_false, Nat.one_ne_zero, Nat.zero_ne_one])
        have : pathB ps[i] = false := by rw [pathB, decide_eq_false (by omega)]; rfl
        exact ⟨by rw [validB_bad hmem this], _, rfl⟩
      | false =>
      cases c2 : decide (64 < (ps[i].length : Int)) with
      | true =>
        have c2' := of_decide_eq_true c2
        (refine EX.rg (by intro KK hkk; unfold f26_r7; simp only [SX, Nat.reduceEqDiff, ↓reduceIte, Nat.reduceSub, Nat.reduceAdd, Nat.reduceLT, Nat.reduceLeDiff, I.quiet, false_implies, implies_true, -List.reduceReplicate, c1, c2]; exact hkk) ?_)
        refine EX.condT rfl ?_
        (refine EX.rg (by intro KK hkk; unfold f26_r8; simp only [SX, Nat.reduceEqDiff, ↓reduceIte, Nat.reduceSub, Nat.reduceAdd, Nat.reduceLT, Nat.reduceLeDiff, I.quiet, false_implies, implies_true, -List.reduceReplicate]; exact hkk) ?_)
        ((with_reducible repeat first|apply EX.seq|apply EX.blk); refine EX.ret ?_; (with_reducible repeat first|apply nA|apply nB|apply nC|apply nD|apply nE|apply nF|apply nG (by decide)|apply nH|apply nI|apply nJ); refine ⟨_, rfl, ?_⟩; simp only [packV, upd, Nat.reduceEqDiff, reduceIte, if_true, if_false, Nat.one_ne_zero, Nat.zero_ne_one])
        have : pathB ps[i] = false := by rw [pathB, decide_eq_false (show ¬ ps[i].length ≤ 64 by omega)]; simp
        exact ⟨by rw [validB_bad hmem this], _, rfl⟩
      | false =>
      have c1' := of_decide_eq_false c1
      have c2' := of_decide_eq_false c2
      (refine EX.rg (by intro KK hkk; unfold f26_r7; simp only [SX, Nat.reduceEqDiff, ↓reduceIte, Nat.reduceSub, Nat.reduceAdd, Nat.reduceLT, Nat.reduceLeDiff, I.quiet, false_implies, implies_true, -List.reduceReplicate, c1, c2]; exact hkk) ?_)
      refine EX.condF rfl ?_
      (refine EX.skip ?_; (with_reducible repeat first|apply nA|apply nB|apply nC|apply nD|apply nE|apply nF|apply nG (by decide)|apply nH|apply nI|apply nJ))
      (refine EX.rg (by intro KK hkk; unfold f26_r9; simp only [SX, Nat.reduceEqDiff, ↓reduceIte, Nat.reduceSub, Nat.reduceAdd, Nat.reduceLT, Nat.reduceLeDiff, I.quiet, false_implies, implies_true, -List.reduceReplicate]; exact hkk) ?_)
      (with_reducible repeat first|apply EX.seq|apply EX.blk)
      have ht : ps.take (i + 1) = ps.take i ++ [ps[i]] := by rw [List.take_add_one, List.getElem?_eq_getElem hd1]; rfl
      have hS : secsOf (ps.take (i + 1)) = secsOf (ps.take i) ++ ps[i].map (·.sec) := by rw [ht]; simp only [secsOf, List.flatMap_append, List.flatMap_cons, List.flatMap_nil, List.append_nil]
      have hP : ptsOf (ps.take (i + 1)) = ptsOf (ps.take i) ++ ps[i].flatMap (·.pts) := by rw [ht]; simp only [ptsOf, List.flatMap_append, List.flatMap_cons, List.flatMap_nil, List.append_nil]
      have bpi := bp.2 _ hmem
      generalize hSS : secsOf (ps.take i) = SS at hS ⊢
      generalize hPP : ptsOf (ps.take i) = PP at hP ⊢
      generalize hpi : ps[i] = p at *
      refine EX.loop (fun k => upd (upd (upd (upd (upd (upd (upd (upd (upd TE 3 (.map (some h.next))) 4 (.map (some (h.next + 1)))) 6 (L p)) 17 (L ps)) 18 (.int .i64 ps.length)) 19 (.int .i64 (i : Nat))) 31 (L p)) 32 (.int .i64 p.length)) 33 (.int .i64 (k : Nat)))
        (fun k => h.app [mm (insL [] (SS ++ (p.take k).map (·.sec))), mm (insL [] (PP ++ (p.take k).flatMap (·.pts)))]) (fun k => k ≤ p.length ∧ (List.range k).all (stOk p) = true) (fun k => p.length - k) 0 ⟨Nat.zero_le _, rfl⟩ (by simp only [List.take_zero, List.map_nil, List.flatMap_nil, List.append_nil]; exact Less.wk (by (repeat refine Less.upd ?_ (by rfl)); exact Less.nil)) ?_
      intro k ⟨hk, hst⟩
      (refine EX.rg (by intro KK hkk; unfold f26_r10; simp only [SX, Nat.reduceEqDiff, ↓reduceIte, Nat.reduceSub, Nat.reduceAdd, Nat.reduceLT, Nat.reduceLeDiff, I.quiet, false_implies, implies_true, -List.reduceReplicate, lt_nat]; exact hkk) ?_)
      (with_reducible repeat first|apply EX.seq|apply EX.blk)
      refine EX.dec rfl (fun hk' => ?_) (fun hk2 => ?_)
      · (refine EX.skip ?_; (with_reducible repeat first|apply nA|apply nB|apply nC|apply nD|apply nE|apply nF|apply nG (by decide)|apply nH|apply nI|apply nJ))
        generalize hSk : SS ++ (p.take k).map (·.sec) = SK
        generalize hPk : PP ++ (p.take k).flatMap (·.pts) = PK
        have bg : Bd p[k].pts := bpi.2 _ (List.getElem_mem hk')
        (refine EX.rg (by intro KK hkk; unfold f26_r11; simp only [SX, Nat.reduceEqDiff, ↓reduceIte, Nat.reduceSub, Nat.reduceAdd, Nat.reduceLT, Nat.reduceLeDiff, I.quiet, false_implies, implies_true, -List.reduceReplicate, hk', w4s, lds1_ef hk' (show 0 + 4 ≤ Enc.w Stg from Nat.le_refl 4), rd_eq hk', cells_stg, hw.roi, stAt_all]; exact hkk) ?_)
        have bad : stOk p k = false → validB ps = false := fun hb => validB_bad hmem (pathB_bad hk' hb)
        cases c3 : stageB p[k] with
        | false =>
          (refine EX.dg (by intro KK hkk; unfold f26_r12; simp only [SX, Nat.reduceEqDiff, ↓reduceIte, Nat.reduceSub, Nat.reduceAdd, Nat.reduceLT, Nat.reduceLeDiff, I.quiet, false_implies, implies_true, -List.reduceReplicate, ldsAt_row, Nat.le_refl, c3]; refine RD_callvS (f59_ok bg.1) ?_; simp only [SX, Nat.reduceEqDiff, ↓reduceIte, Nat.reduceSub, Nat.reduceAdd, Nat.reduceLT, Nat.reduceLeDiff, I.quiet, false_implies, implies_true, -List.reduceReplicate, ldsAt_row, Nat.le_refl, c3]; exact hkk) ?_)
          refine EX.condT rfl ?_
          (refine EX.rg (by intro KK hkk; unfold f26_r13; simp only [SX, Nat.reduceEqDiff, ↓reduceIte, Nat.reduceSub, Nat.reduceAdd, Nat.reduceLT, Nat.reduceLeDiff, I.quiet, false_implies, implies_true, -List.reduceReplicate]; exact hkk) ?_)
          ((with_reducible repeat first|apply EX.seq|apply EX.blk); refine EX.ret ?_; (with_reducible repeat first|apply nA|apply nB|apply nC|apply nD|apply nE|apply nF|apply nG (by decide)|apply nH|apply nI|apply nJ); refine ⟨_, rfl, ?_⟩; simp only [packV, upd, Nat.reduceEqDiff, reduceIte, if_true, if_false, Nat.one_ne_zero, Nat.zero_ne_one])
          exact ⟨by rw [bad (by simp only [stOk, List.getElem?_eq_getElem hk', c3, Bool.false_and])], _, rfl⟩
        | true =>
        refine EX.seqR (F := fun T1 H3 => H3 = h.app [mm (insL [] SK), mm (insL [] PK), some (.row 65 0 [.int .i64 p[k].sec, L p[k].pts, .int .i64 p[k].min, .int .i64 p[k].not])] ∧ stOk p k = true ∧ T1 3 = .map (some h.next) ∧ T1 4 = .map (some (h.next + 1)) ∧ T1 6 = L p ∧ T1 17 = L ps ∧ T1 18 = .int .i64 ps.length ∧ T1 19 = .int .i64 (i : Nat) ∧ T1 31 = L p ∧ T1 32 = .int .i64 p.length ∧ T1 33 = .int .i64 (k : Nat) ∧ T1 8 = .pointer (some ⟨h.next + 2, 0, none⟩)) ?_ ?_
        · by_cases hk0 : k = 0
          · subst hk0
            have z : decide ((0 : Int) < ((0 : Nat) : Int)) = false := rfl
            (refine EX.dg (by intro KK hkk; unfold f26_r12; simp only [SX, Nat.reduceEqDiff, ↓reduceIte, Nat.reduceSub, Nat.reduceAdd, Nat.reduceLT, Nat.reduceLeDiff, I.quiet, false_implies, implies_true, -List.reduceReplicate, ldsAt_row, Nat.le_refl, c3, z]; refine RD_callvS (f59_ok bg.1) ?_; simp only [SX, Nat.reduceEqDiff, ↓reduceIte, Nat.reduceSub, Nat.reduceAdd, Nat.reduceLT, Nat.reduceLeDiff, I.quiet, false_implies, implies_true, -List.reduceReplicate, ldsAt_row, Nat.le_refl, c3, z]; exact hkk) ?_)
            refine EX.condF rfl ?_
            (refine EX.skip ?_; (with_reducible repeat first|apply nA|apply nB|apply nC|apply nD|apply nE|apply nF|apply nG (by decide)|apply nH|apply nI|apply nJ))
            exact ⟨rfl, by simp only [stOk, List.getElem?_eq_getElem hk', c3, BEq.rfl, Bool.true_or, Bool.and_self], rfl, rfl, rfl, rfl, rfl, rfl, rfl, rfl, rfl, rfl⟩
          · have z : decide ((0 : Int) < (k : Int)) = true := decide_eq_true (by omega)
            have hk1 : k - 1 < p.length := by omega
            have wr : IntKind.wrap .i64 ((k : Int) - 1) = ((k - 1 : Nat) : Int) := by rw [wrap_id (by omega) (by omega)]; omega
            have hs : stOk p k = decide (p[k - 1].sec ≠ p[k].sec) := by
              have hb : (k == 0) = false := by simpa using hk0
              simp only [stOk, List.getElem?_eq_getElem hk', List.getElem?_eq_getElem hk1, c3, hb, Bool.false_or, Bool.true_and]
            cases c4 : decide (p[k - 1].sec = p[k].sec) with
            | true =>
              have c4' := of_decide_eq_true c4
              (refine EX.dg (by intro KK hkk; unfold f26_r12; simp only [SX, Nat.reduceEqDiff, ↓reduceIte, Nat.reduceSub, Nat.reduceAdd, Nat.reduceLT, Nat.reduceLeDiff, I.quiet, false_implies, implies_true, -List.reduceReplicate, ldsAt_row, Nat.le_refl, c3, z, wr, hk1, w4s, ld1_ef hk1 (o4s (show 0 < 4 by decide)), cells_stg, rd_eq hk1, c4]; refine RD_callvS (f59_ok bg.1) ?_; simp only [SX, Nat.reduceEqDiff, ↓reduceIte, Nat.reduceSub, Nat.reduceAdd, Nat.reduceLT, Nat.reduceLeDiff, I.quiet, false_implies, implies_true, -List.reduceReplicate, ldsAt_row, Nat.le_refl, c3, z, wr, hk1, w4s, ld1_ef hk1 (o4s (show 0 < 4 by decide)), cells_stg, rd_eq hk1, c4]; exact hkk) ?_)
              refine EX.condT rfl ?_
              (refine EX.rg (by intro KK hkk; unfold f26_r13; simp only [SX, Nat.reduceEqDiff, ↓reduceIte, Nat.reduceSub, Nat.reduceAdd, Nat.reduceLT, Nat.reduceLeDiff, I.quiet, false_implies, implies_true, -List.reduceReplicate]; exact hkk) ?_)
              ((with_reducible repeat first|apply EX.seq|apply EX.blk); refine EX.ret ?_; (with_reducible repeat first|apply nA|apply nB|apply nC|apply nD|apply nE|apply nF|apply nG (by decide)|apply nH|apply nI|apply nJ); refine ⟨_, rfl, ?_⟩; simp only [packV, upd, Nat.reduceEqDiff, reduceIte, if_true, if_false, Nat.one_ne_zero, Nat.zero_ne_one])
              exact ⟨by rw [bad (by rw [hs]; simp [c4'])], _, rfl⟩
            | false =>
              have c4' := of_decide_eq_false c4
              (refine EX.dg (by intro KK hkk; unfold f26_r12; simp only [SX, Nat.reduceEqDiff, ↓reduceIte, Nat.reduceSub, Nat.reduceAdd, Nat.reduceLT, Nat.reduceLeDiff, I.quiet, false_implies, implies_true, -List.reduceReplicate, ldsAt_row, Nat.le_refl, c3, z, wr, hk1, w4s, ld1_ef hk1 (o4s (show 0 < 4 by decide)), cells_stg, rd_eq hk1, c4]; refine RD_callvS (f59_ok bg.1) ?_; simp only [SX, Nat.reduceEqDiff, ↓reduceIte, Nat.reduceSub, Nat.reduceAdd, Nat.reduceLT, Nat.reduceLeDiff, I.quiet, false_implies, implies_true, -List.reduceReplicate, ldsAt_row, Nat.le_refl, c3, z, wr, hk1, w4s, ld1_ef hk1 (o4s (show 0 < 4 by decide)), cells_stg, rd_eq hk1, c4]; exact hkk) ?_)
              refine EX.condF rfl ?_
              (refine EX.skip ?_; (with_reducible repeat first|apply nA|apply nB|apply nC|apply nD|apply nE|apply nF|apply nG (by decide)|apply nH|apply nI|apply nJ))
              exact ⟨rfl, by rw [hs]; exact decide_eq_true c4', rfl, rfl, rfl, rfl, rfl, rfl, rfl, rfl, rfl, rfl⟩
        · rintro T1 H3 ⟨rfl, hsk, t3, t4, t6, t17, t18, t19, t31, t32, t33, t8⟩
          have hk1t : p.take (k + 1) = p.take k ++ [p[k]] := by rw [List.take_add_one, List.getElem?_eq_getElem hk']; rfl
          have hS1 : SK ++ [p[k].sec] = SS ++ (p.take (k + 1)).map (·.sec) := by rw [← hSk, hk1t, List.map_append, List.append_assoc]; rfl
          have hP1 : PK ++ p[k].pts = PP ++ (p.take (k + 1)).flatMap (·.pts) := by rw [← hPk, hk1t, List.flatMap_append, List.append_assoc]; simp only [List.flatMap_cons, List.flatMap_nil, List.append_nil]
          (refine EX.rg (by intro KK hkk; unfold f26_r14; simp only [SX, Nat.reduceEqDiff, ↓reduceIte, Nat.reduceSub, Nat.reduceAdd, Nat.reduceLT, Nat.reduceLeDiff, I.quiet, false_implies, implies_true, -List.reduceReplicate, t8, t3, run_mup, mup1_set (h := h.app [mm (insL [] SK), mm (insL [] PK), some (.row 65 0 [.int .i64 p[k].sec, L p[k].pts, .int .i64 p[k].min, .int .i64 p[k].not])]) (K := insL [] SK) app_get0 hw.ro0, ← insL_snoc]; exact hkk) ?_)
          (refine EX.rg (by intro KK hkk; unfold f26_r15; simp only [SX, Nat.reduceEqDiff, ↓reduceIte, Nat.reduceSub, Nat.reduceAdd, Nat.reduceLT, Nat.reduceLeDiff, I.quiet, false_implies, implies_true, -List.reduceReplicate, t8]; exact hkk) ?_)
          (with_reducible repeat first|apply EX.seq|apply EX.blk)
          refine EX.loop (fun j => upd (upd (upd (upd (upd (upd (upd (upd (upd (upd (upd (upd TE 3 (.map (some h.next))) 4 (.map (some (h.next + 1)))) 6 (L p)) 17 (L ps)) 18 (.int .i64 ps.length)) 19 (.int .i64 (i : Nat))) 31 (L p)) 32 (.int .i64 p.length)) 33 (.int .i64 (k : Nat))) 60 (L p[k].pts)) 61 (.int .i64 p[k].pts.length)) 62 (.int .i64 (j : Nat)))
            (fun j => h.app [mm (insL [] (SK ++ [p[k].sec])), mm (insL [] (PK ++ p[k].pts.take j)), some (.row 65 0 [.int .i64 p[k].sec, L p[k].pts, .int .i64 p[k].min, .int .i64 p[k].not])]) (fun j => j ≤ p[k].pts.length) (fun j => p[k].pts.length - j) 0 (Nat.zero_le _) ?_ ?_
          · simp only [List.take_zero, List.append_nil]
            refine Less.wk (Less.upd (Less.upd (Less.upd (Less.upd (Less.upd (Less.upd (Less.upd (Less.upd (Less.upd (Less.upd (Less.upd (Less.upd Less.nil ?_) ?_) ?_) ?_) ?_) ?_) ?_) ?_) ?_) ?_) ?_) ?_)
            · exact t3
            · exact t4
            · exact t6
            · exact t17
            · exact t18
            · exact t19
            · exact t31
            · exact t32
            · exact t33
            · rfl
            · rfl
            · rfl
          intro j hj
          (refine EX.rg (by intro KK hkk; unfold f26_r16; simp only [SX, Nat.reduceEqDiff, ↓reduceIte, Nat.reduceSub, Nat.reduceAdd, Nat.reduceLT, Nat.reduceLeDiff, I.quiet, false_implies, implies_true, -List.reduceReplicate, lt_nat]; exact hkk) ?_)
          (with_reducible repeat first|apply EX.seq|apply EX.blk)
          refine EX.dec rfl (fun hj' => ?_) (fun hj2 => ?_)
          · (refine EX.skip ?_; (with_reducible repeat first|apply nA|apply nB|apply nC|apply nD|apply nE|apply nF|apply nG (by decide)|apply nH|apply nI|apply nJ))
            (refine EX.rg (by intro KK hkk; unfold f26_r17; simp only [SX, Nat.reduceEqDiff, ↓reduceIte, Nat.reduceSub, Nat.reduceAdd, Nat.reduceLT, Nat.reduceLeDiff, I.quiet, false_implies, implies_true, -List.reduceReplicate, hj', ld1_ef hj' o1i, rd_eq hj']; exact hkk) ?_)
            have hj1 : (PK ++ p[k].pts.take j) ++ [p[k].pts[j]] = PK ++ p[k].pts.take (j + 1) := by rw [List.take_add_one, List.getElem?_eq_getElem hj', List.append_assoc]; rfl
            (refine EX.rg (by intro KK hkk; unfold f26_r18; simp only [SX, Nat.reduceEqDiff, ↓reduceIte, Nat.reduceSub, Nat.reduceAdd, Nat.reduceLT, Nat.reduceLeDiff, I.quiet, false_implies, implies_true, -List.reduceReplicate, run_mup, mup1_set (h := h.app [mm (insL [] (SK ++ [p[k].sec])), mm (insL [] (PK ++ p[k].pts.take j)), some (.row 65 0 [.int .i64 p[k].sec, L p[k].pts, .int .i64 p[k].min, .int .i64 p[k].not])]) (K := insL [] (PK ++ p[k].pts.take j)) (B := h.next + 1) app_get hw.roi, ← insL_snoc, hj1]; exact hkk) ?_)
            (refine EX.rg (by intro KK hkk; unfold f26_r19; simp only [SX, Nat.reduceEqDiff, ↓reduceIte, Nat.reduceSub, Nat.reduceAdd, Nat.reduceLT, Nat.reduceLeDiff, I.quiet, false_implies, implies_true, -List.reduceReplicate, wrap_nat (show j < 4611686018427387904 by have := bg.1; omega)]; exact hkk) ?_)
            exact ⟨j + 1, hj', by omega, Less.wk (by (repeat refine Less.upd ?_ (by rfl)); exact Less.nil)⟩
          · (refine EX.exit ?_; (with_reducible repeat first|apply nA|apply nB|apply nC|apply nD|apply nE|apply nF|apply nG (by decide)|apply nH|apply nI|apply nJ))
            obtain rfl : j = p[k].pts.length := by omega
            rw [List.take_length, hP1, hS1]
            (refine EX.rg (by intro KK hkk; unfold f26_r20; simp only [SX, Nat.reduceEqDiff, ↓reduceIte, Nat.reduceSub, Nat.reduceAdd, Nat.reduceLT, Nat.reduceLeDiff, I.quiet, false_implies, implies_true, -List.reduceReplicate, wrap_nat (show k < 4611686018427387904 by omega)]; exact hkk) ?_)
            refine ⟨k + 1, ⟨hk', ?_⟩, by omega, Wk.app (bs0 := [_, _]) [0, 1] hw (by decide) ⟨⟨_, rfl, RB.mS⟩, ⟨_, rfl, RB.mS⟩, trivial⟩ ?_⟩
            · show (List.range (k + 1)).all (stOk p) = true
              rw [List.range_succ, List.all_append, hst]; simp [hsk]
            · (repeat (first | exact RVs.nil | refine RVs.updc ?_ Cl.int rfl | refine RVs.updc ?_ L_cl rfl | refine RVs.updc ?_ Cl.bool rfl | refine RVs.upd ?_ (RV.ptr (rnm_00 rfl) (by simp only [List.length_cons, List.length_nil]; omega)) | refine RVs.upd ?_ (RV.ptr (rnm_ij rfl) (by simp only [List.length_cons, List.length_nil]; omega)) | refine RVs.upd ?_ (RV.ptr (rnm_i0 rfl) (by simp only [List.length_cons, List.length_nil]; omega)) | refine RVs.upd ?_ (RV.ptr (rnm_0j rfl) (by simp only [List.length_cons, List.length_nil]; omega)) | refine RVs.upd ?_ (RV.slice (rnm_00 rfl) (by simp only [List.length_cons, List.length_nil]; omega)) | refine RVs.upd ?_ (RV.slice (rnm_ij rfl) (by simp only [List.length_cons, List.length_nil]; omega)) | refine RVs.upd ?_ (RV.slice (rnm_i0 rfl) (by simp only [List.length_cons, List.length_nil]; omega)) | refine RVs.upd ?_ (RV.slice (rnm_0j rfl) (by simp only [List.length_cons, List.length_nil]; omega)) | refine RVs.updc ?_ Cl.slice0 rfl | refine RVs.upd ?_ (RV.map (rnm_00 rfl) (by simp only [List.length_cons, List.length_nil]; omega)) | refine RVs.upd ?_ (RV.map (rnm_ij rfl) (by simp only [List.length_cons, List.length_nil]; omega))))
      · (refine EX.exit ?_; (with_reducible repeat first|apply nA|apply nB|apply nC|apply nD|apply nE|apply nF|apply nG (by decide)|apply nH|apply nI|apply nJ))
        obtain rfl : k = p.length := by omega
        rw [List.take_length, ← hS, ← hP]
        have hpb : pathB p = true := by rw [pathB, hst, decide_eq_true (by omega), decide_eq_true (by omega)]; rfl
        (refine EX.rg (by intro KK hkk; unfold f26_r21; simp only [SX, Nat.reduceEqDiff, ↓reduceIte, Nat.reduceSub, Nat.reduceAdd, Nat.reduceLT, Nat.reduceLeDiff, I.quiet, false_implies, implies_true, -List.reduceReplicate, wrap_nat (show i < 4611686018427387904 by omega)]; exact hkk) ?_)
        refine ⟨i + 1, ⟨hd1, ?_⟩, by omega, Less.wk (by (repeat refine Less.upd ?_ (by rfl)); exact Less.nil)⟩
        show (ps.take (i + 1)).all pathB = true
        rw [ht, List.all_append, hall]; simp [hpb]
    · (refine EX.exit ?_; (with_reducible repeat first|apply nA|apply nB|apply nC|apply nD|apply nE|apply nF|apply nG (by decide)|apply nH|apply nI|apply nJ))
      obtain rfl : i = ps.length := by omega
      rw [List.take_length] at hall
      exact ⟨rfl, rfl, by rw [List.take_length], hall⟩
  · rintro T1 H1 ⟨t3, t4, rfl, hall⟩
    have hsec : ∀ x ∈ secsOf ps, 0 ≤ x ∧ x < 144 := by
      intro x hx
      simp only [secsOf, List.mem_flatMap, List.mem_map] at hx
      obtain ⟨p, hp, g, hg, rfl⟩ := hx
      have h1 := List.all_eq_true.1 hall p hp
      simp only [pathB, Bool.and_eq_true, List.all_eq_true] at h1
      obtain ⟨k, hk, rfl⟩ := List.getElem_of_mem hg
      have h2 := h1.2 k (List.mem_range.2 hk)
      simp only [stOk, List.getElem?_eq_getElem hk, Bool.and_eq_true] at h2
      exact stageB_sec h2.1
    have hcl : clashB (secsOf ps) (ptsOf ps) = true ↔ ∃ x ∈ insL [] (secsOf ps), x ∈ insL [] (ptsOf ps) := by
      simp only [clashB, List.any_eq_true, Bool.and_eq_true, decide_eq_true_eq, mem_insL, List.not_mem_nil, false_or]
      constructor
      · rintro ⟨r, _, h1, h2⟩; exact ⟨_, h1, h2⟩
      · rintro ⟨x, h1, h2⟩
        obtain ⟨b0, b1⟩ := hsec x h1
        exact ⟨x.toNat, List.mem_range.2 (by omega), by rw [Int.toNat_of_nonneg b0]; exact h1, by rw [Int.toNat_of_nonneg b0]; exact h2⟩
    have hv : validB ps = !clashB (secsOf ps) (ptsOf ps) := by simp [validB, hall, h10]
    (with_reducible repeat first|apply EX.seq|apply EX.blk)
    refine EX.rng (B := h.next) (es := mS (insL [] (secsOf ps))) (T0 := upd (upd TE 4 (.map (some (h.next + 1)))) 72 (.pointer (some ⟨(h.app [mm (insL [] (secsOf ps)), mm (insL [] (ptsOf ps))]).next, 0, none⟩))) (Te := upd TE 2 (.bool false)) t3 app_get0 ⟨?_, ?_, ?_, rfl⟩ ?_ (fun k => match k with | .int _ x => decide (x ∈ insL [] (ptsOf ps)) | _ => false) ?_ ?_ ?_ ?_
    · intro i
      simp only [upd, TE]
      split
      · rename_i e; exact .inr (.inl ⟨e, rfl⟩)
      · split
        · rename_i e; subst e; exact .inr (.inr ⟨t4.symm, by decide, by decide⟩)
        · exact .inl rfl
    · intro i; simp only [upd, TE]; split
      · rfl
      · split <;> rfl
    · rintro i (rfl | rfl | rfl | rfl | rfl) <;> rfl
    · intro i; simp only [upd, TE]; split
      · exact .inr rfl
      · exact .inl rfl
    · intro k v hkv ψ n
      simp only [mS, List.mem_map] at hkv
      obtain ⟨x, _, hx⟩ := hkv
      cases hx; exact .int _ _
    · intro k v hkv
      simp only [mS, List.mem_map] at hkv
      obtain ⟨x, hxm, hx⟩ := hkv
      cases hx
      have hB : (hRng (h.app [mm (insL [] (secsOf ps)), mm (insL [] (ptsOf ps))])).get (h.next + 1) = some (.map (mS (insL [] (ptsOf ps)))) := app_get (bs := [mm (insL [] (secsOf ps)), mm (insL [] (ptsOf ps))]) (i := 1)
      (refine EX.rg (by intro KK hkk; unfold f26_r22; simp only [SX, Nat.reduceEqDiff, ↓reduceIte, Nat.reduceSub, Nat.reduceAdd, Nat.reduceLT, Nat.reduceLeDiff, I.quiet, false_implies, implies_true, -List.reduceReplicate, run_lk, lkV_set hB]; exact hkk) ?_)
      refine EX.dec rfl (fun hd => ?_) (fun hd => ?_)
      · (refine EX.rg (by intro KK hkk; unfold f26_r23; simp only [SX, Nat.reduceEqDiff, ↓reduceIte, Nat.reduceSub, Nat.reduceAdd, Nat.reduceLT, Nat.reduceLeDiff, I.quiet, false_implies, implies_true, -List.reduceReplicate]; exact hkk) ?_)
        refine EX.ret ?_
        exact ⟨rfl, .inl ⟨decide_eq_true hd, rfl, fun i => by
          simp only [upd, TE]; split
          · exact .inr rfl
          · exact .inl rfl⟩⟩
      · refine EX.skip ?_
        refine ⟨rfl, .inr ⟨decide_eq_false hd, rfl, fun i => ?_⟩⟩
        by_cases e1 : i = 72
        · subst e1; exact .inr rfl
        by_cases e2 : i = 4
        · subst e2; exact .inr rfl
        exact .inl (by simp [upd, TE, e1, e2])
    · rintro ⟨z, hz, hp⟩
      simp only [mS, List.mem_map] at hz
      obtain ⟨x, hxm, rfl⟩ := hz
      (with_reducible repeat first|apply nA|apply nB|apply nC|apply nD|apply nE|apply nF|apply nG (by decide)|apply nH|apply nI|apply nJ)
      refine ⟨_, rfl, ?_⟩
      refine ⟨?_, _, rfl⟩
      rw [hv, hcl.2 ⟨x, hxm, of_decide_eq_true hp⟩]; rfl
    · intro hno
      (with_reducible repeat first|apply nA|apply nB|apply nC|apply nD|apply nE|apply nF|apply nG (by decide)|apply nH|apply nI|apply nJ)
      (refine EX.rg (by intro KK hkk; unfold f26_r24; simp only [SX, Nat.reduceEqDiff, ↓reduceIte, Nat.reduceSub, Nat.reduceAdd, Nat.reduceLT, Nat.reduceLeDiff, I.quiet, false_implies, implies_true, -List.reduceReplicate]; exact hkk) ?_)
      ((with_reducible repeat first|apply EX.seq|apply EX.blk); refine EX.ret ?_; (with_reducible repeat first|apply nA|apply nB|apply nC|apply nD|apply nE|apply nF|apply nG (by decide)|apply nH|apply nI|apply nJ); refine ⟨_, rfl, ?_⟩; simp only [packV, upd, Nat.reduceEqDiff, reduceIte, if_true, if_false, Nat.one_ne_zero, Nat.zero_ne_one])
      refine ⟨?_, _, rfl⟩
      have : ¬ clashB (secsOf ps) (ptsOf ps) = true := by
        rw [hcl]
        rintro ⟨x, h1, h2⟩
        have := hno (.int .i64 x, .bool true) (List.mem_map.2 ⟨x, h1, rfl⟩)
        exact of_decide_eq_false this h2
      rw [hv]; simp [this]
end
end Go.Proofs.Ythofdojknjhpgaa
