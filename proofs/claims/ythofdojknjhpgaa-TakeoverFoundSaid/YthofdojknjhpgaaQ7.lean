/- Contracts: good positions are made; the sections that trains hold. -/
import Derived.Test.YthofdojknjhpgaaQ6
set_option linter.unusedVariables false
set_option linter.unusedSimpArgs false
namespace Go.Proofs.Ythofdojknjhpgaa
open Go
def SmallP (ps : List (List Stg)) : Prop := ps.length ≤ 1000 ∧ ∀ p ∈ ps, p.length ≤ 1000 ∧ ∀ g ∈ p, 0 ≤ g.sec ∧ g.sec < 8
theorem goodB_of {ps : List (List Stg)} {xs : List Int} (hl : xs.length = ps.length) (hg : ∀ (i : Nat) (x : Int) (p : List Stg), xs[i]? = some x → ps[i]? = some p → -1 ≤ x ∧ x ≤ p.length) : goodB ps xs = true := by
  rw [goodB, decide_eq_true hl, Bool.true_and, List.all_eq_true]
  intro i hi
  have hi' := List.mem_range.1 hi
  have h1 := List.getElem?_eq_getElem hi'
  have h2 := List.getElem?_eq_getElem (show i < ps.length by omega)
  have := hg i _ _ h1 h2
  rw [goodAt, h1, h2]
  simp only [decide_eq_true this.1, decide_eq_true this.2, Bool.and_self]
theorem goodB_len {ps : List (List Stg)} {xs : List Int} (h : goodB ps xs = true) : xs.length = ps.length := by
  simp only [goodB, Bool.and_eq_true, decide_eq_true_eq] at h; exact h.1
def heldB (ps : List (List Stg)) (xs : List Int) (r : Nat) : Bool := (List.range ps.length).any fun t => decide (secAt ps xs t = (r : Int))
def secsU (ps : List (List Stg)) (xs : List Int) (n : Nat) : List Int := ((List.range n).filter (heldB ps xs)).map fun (r : Nat) => (r : Int)
theorem secsU_succ (ps : List (List Stg)) (xs : List Int) (n : Nat) : secsU ps xs (n + 1) = secsU ps xs n ++ (if heldB ps xs n = true then [(n : Int)] else []) := by
  simp only [secsU, List.range_succ, List.filter_append, List.map_append]
  cases hh : heldB ps xs n <;> simp [List.filter, hh]
theorem secsU_len (ps : List (List Stg)) (xs : List Int) (n : Nat) : (secsU ps xs n).length ≤ n := by
  simp only [secsU, List.length_map]
  have := List.length_filter_le (heldB ps xs) (List.range n)
  simpa using this
/-- The result of a call, told otherwise. -/
theorem AC.wkR {P : Program} {f : FuncId} {args : List Value} {h h0 h' : AH} {v v0 : Value} (k : AC P f args h v h') (hw : Wk h.next (upd TE 0 v0) h0 (upd TE 0 v) h') : AC P f args h v0 h0 := by
  intro base w0 φ cargs w hr hv
  refine (k base w0 φ cargs w hr hv).mono ?_
  rintro e w' ⟨cv, ψ, rfl, g1, g2, g3, g4⟩
  have hst : St base w0 ψ 0 (upd TE 0 v) h' { tmps := #[cv], defers := [] } w' := by
    refine ⟨g4, fun t => ?_, rfl, Nat.zero_le _⟩
    by_cases ht : t = 0
    · subst ht; exact g3
    · have : upd TE 0 v t = .tuple #[] := by simp [upd, TE, ht]
      rw [this]; exact .any _
  obtain ⟨χ, a1, a2, a3⟩ := hw base w0 ψ 0 _ w' g2 hst
  exact ⟨cv, χ, rfl, g1.trans a1 (Nat.le_refl _), a2, a3.tr 0, a3.hr⟩
section
variable {h : AH}
/-- 'At'. -/
theorem f16_ok {ps : List (List Stg)} {l : List Int} (hs : SmallP ps) (hl : l.length < 4611686018427387904) : ∃ xs, goodB ps xs = true ∧ AC Go.Proofs.Try.prog 16 [L ps, L l] h (L xs) h := by
  by_cases hw : Wf h
  case neg =>
    exact ⟨ps.map fun _ => -1, goodB_of (by simp) (by
      intro i x p hx hp
      simp only [List.getElem?_map, hp, Option.map_some, Option.some.injEq] at hx
      omega), AC.wf fun hw' => absurd hw' hw⟩
  suffices k : EC Go.Proofs.Try.prog 16 [L ps, L l] h fun r h' => ∃ xs, r = L xs ∧ h' = h ∧ goodB ps xs = true by
    obtain ⟨_, _, g, xs, rfl, rfl, hg⟩ := k
    exact ⟨xs, hg, g⟩
  refine EC.intro f16_is ?_
  unfold f16_c
  ((repeat first | with_reducible refine EX.seq ?_ | with_reducible refine EX.blk ?_); refine EX.regx (by intro KK hkk; unfold f16_r0; simp only [SX, Nat.reduceEqDiff, ↓reduceIte, Nat.reduceSub, Nat.reduceAdd, Nat.reduceLT, Nat.reduceLeDiff, Nat.one_ne_zero, Nat.zero_ne_one, show decP [] = [] from rfl, I.quiet, List.not_mem_nil, false_implies, implies_true, -List.reduceReplicate, decide_true, decide_false]; exact hkk) ?_; (repeat first | with_reducible refine nxt_n ?_ | with_reducible refine nxt_e ?_ | with_reducible refine nxt_r ?_ | with_reducible refine inB_n ?_ | with_reducible refine inB_r ?_ | with_reducible refine inB_x ?_ | with_reducible refine inB_y (by decide) ?_ | with_reducible refine orQ_r ?_ | with_reducible refine orQ_x ?_ | with_reducible refine orQ_n ?_))
  ((repeat first | with_reducible refine EX.seq ?_ | with_reducible refine EX.blk ?_); refine EX.regx (by intro KK hkk; unfold f16_r1; simp only [SX, Nat.reduceEqDiff, ↓reduceIte, Nat.reduceSub, Nat.reduceAdd, Nat.reduceLT, Nat.reduceLeDiff, Nat.one_ne_zero, Nat.zero_ne_one, show decP [] = [] from rfl, I.quiet, List.not_mem_nil, false_implies, implies_true, -List.reduceReplicate, decide_true, decide_false]; refine RO_callE (f51_ok) ?_; simp only [SX, Nat.reduceEqDiff, ↓reduceIte, Nat.reduceSub, Nat.reduceAdd, Nat.reduceLT, Nat.reduceLeDiff, Nat.one_ne_zero, Nat.zero_ne_one, show decP [] = [] from rfl, I.quiet, List.not_mem_nil, false_implies, implies_true, -List.reduceReplicate, decide_true, decide_false]; exact hkk) ?_; (repeat first | with_reducible refine nxt_n ?_ | with_reducible refine nxt_e ?_ | with_reducible refine nxt_r ?_ | with_reducible refine inB_n ?_ | with_reducible refine inB_r ?_ | with_reducible refine inB_x ?_ | with_reducible refine inB_y (by decide) ?_ | with_reducible refine orQ_r ?_ | with_reducible refine orQ_x ?_ | with_reducible refine orQ_n ?_))
  ((repeat first | with_reducible refine EX.seq ?_ | with_reducible refine EX.blk ?_); refine EX.regx (by intro KK hkk; unfold f16_r2; simp only [SX, Nat.reduceEqDiff, ↓reduceIte, Nat.reduceSub, Nat.reduceAdd, Nat.reduceLT, Nat.reduceLeDiff, Nat.one_ne_zero, Nat.zero_ne_one, show decP [] = [] from rfl, I.quiet, List.not_mem_nil, false_implies, implies_true, -List.reduceReplicate, decide_true, decide_false]; exact hkk) ?_; (repeat first | with_reducible refine nxt_n ?_ | with_reducible refine nxt_e ?_ | with_reducible refine nxt_r ?_ | with_reducible refine inB_n ?_ | with_reducible refine inB_r ?_ | with_reducible refine inB_x ?_ | with_reducible refine inB_y (by decide) ?_ | with_reducible refine orQ_r ?_ | with_reducible refine orQ_x ?_ | with_reducible refine orQ_n ?_))
  ((repeat first | with_reducible refine EX.seq ?_ | with_reducible refine EX.blk ?_); refine EX.regx (by intro KK hkk; unfold f16_r3; simp only [SX, Nat.reduceEqDiff, ↓reduceIte, Nat.reduceSub, Nat.reduceAdd, Nat.reduceLT, Nat.reduceLeDiff, Nat.one_ne_zero, Nat.zero_ne_one, show decP [] = [] from rfl, I.quiet, List.not_mem_nil, false_implies, implies_true, -List.reduceReplicate, decide_true, decide_false, new_app hw]; exact hkk) ?_; (repeat first | with_reducible refine nxt_n ?_ | with_reducible refine nxt_e ?_ | with_reducible refine nxt_r ?_ | with_reducible refine inB_n ?_ | with_reducible refine inB_r ?_ | with_reducible refine inB_x ?_ | with_reducible refine inB_y (by decide) ?_ | with_reducible refine orQ_r ?_ | with_reducible refine orQ_x ?_ | with_reducible refine orQ_n ?_))
  ((repeat first | with_reducible refine EX.seq ?_ | with_reducible refine EX.blk ?_); refine EX.regx (by intro KK hkk; unfold f16_r4; simp only [SX, Nat.reduceEqDiff, ↓reduceIte, Nat.reduceSub, Nat.reduceAdd, Nat.reduceLT, Nat.reduceLeDiff, Nat.one_ne_zero, Nat.zero_ne_one, show decP [] = [] from rfl, I.quiet, List.not_mem_nil, false_implies, implies_true, -List.reduceReplicate, decide_true, decide_false]; exact hkk) ?_; (repeat first | with_reducible refine nxt_n ?_ | with_reducible refine nxt_e ?_ | with_reducible refine nxt_r ?_ | with_reducible refine inB_n ?_ | with_reducible refine inB_r ?_ | with_reducible refine inB_x ?_ | with_reducible refine inB_y (by decide) ?_ | with_reducible refine orQ_r ?_ | with_reducible refine orQ_x ?_ | with_reducible refine orQ_n ?_))
  (repeat first | with_reducible refine EX.seq ?_ | with_reducible refine EX.blk ?_)
  refine EX.loop (σ := Nat × List Int × List Bool × List Int) (fun s => upd (upd (upd (upd (upd (upd TE 5 (.pointer (some ⟨h.next, 0, none⟩))) 6 (ow (h.next + 2) s.2.2.2.length)) 7 (.pointer (some ⟨h.next + 1, 0, none⟩))) 13 (L ps)) 14 (.int .i64 ps.length)) 15 (.int .i64 (s.1 : Nat)))
    (fun s => h.app [src l s.2.1, some (.row 81 1 (F s.2.2.1)), owb 3 s.2.2.2])
    (fun s => s.1 ≤ ps.length ∧ s.2.1 <:+ l ∧ s.2.2.1.length = 8 ∧ s.2.2.2.length = s.1 ∧ ∀ (i : Nat) (x : Int) (p : List Stg), s.2.2.2[i]? = some x → ps[i]? = some p → -1 ≤ x ∧ x ≤ p.length)
    (fun s => ps.length - s.1) (0, l, List.replicate 8 false, []) ⟨Nat.zero_le _, List.suffix_refl _, rfl, rfl, by simp⟩ ?_ ?_
  · refine Wk.app (bs0 := [_, _, none]) [0, 1, 2] hw (by decide) (.some (by simp only [Nat.sub_self]; rfl) RB.src (.some rfl RB.F (.none .nil))) ?_
    refine RVs.updc (RVs.updc (RVs.updc (RVs.upd (RVs.updc (RVs.upd RVs.nil (RV.ptr (rnm_00 rfl) (by simp only [List.length_cons, List.length_nil]; omega))) Cl.slice0 rfl) (RV.ptr (rnm_ij rfl) (by simp only [List.length_cons, List.length_nil]; omega))) L_cl rfl) Cl.int rfl) Cl.int rfl
  rintro ⟨k, rem, bs, xs⟩ ⟨hk, hrem, hbs, hxl, hgood⟩
  simp only at hk hrem hbs hxl hgood
  ((repeat first | with_reducible refine EX.seq ?_ | with_reducible refine EX.blk ?_); refine EX.regx (by intro KK hkk; unfold f16_r5; simp only [SX, Nat.reduceEqDiff, ↓reduceIte, Nat.reduceSub, Nat.reduceAdd, Nat.reduceLT, Nat.reduceLeDiff, Nat.one_ne_zero, Nat.zero_ne_one, show decP [] = [] from rfl, I.quiet, List.not_mem_nil, false_implies, implies_true, -List.reduceReplicate, decide_true, decide_false, lt_nat]; exact hkk) ?_; (repeat first | with_reducible refine nxt_n ?_ | with_reducible refine nxt_e ?_ | with_reducible refine nxt_r ?_ | with_reducible refine inB_n ?_ | with_reducible refine inB_r ?_ | with_reducible refine inB_x ?_ | with_reducible refine inB_y (by decide) ?_ | with_reducible refine orQ_r ?_ | with_reducible refine orQ_x ?_ | with_reducible refine orQ_n ?_))
  (repeat first | with_reducible refine EX.seq ?_ | with_reducible refine EX.blk ?_)
  refine EX.dec rfl (fun hlt => ?_) (fun hlt => ?_)
  · (refine EX.skip ?_; (repeat first | with_reducible refine nxt_n ?_ | with_reducible refine nxt_e ?_ | with_reducible refine nxt_r ?_ | with_reducible refine inB_n ?_ | with_reducible refine inB_r ?_ | with_reducible refine inB_x ?_ | with_reducible refine inB_y (by decide) ?_ | with_reducible refine orQ_r ?_ | with_reducible refine orQ_x ?_ | with_reducible refine orQ_n ?_))
    obtain ⟨hp1, hp2⟩ := hs.2 ps[k] (List.getElem_mem _)
    ((repeat first | with_reducible refine EX.seq ?_ | with_reducible refine EX.blk ?_); refine EX.regx (by intro KK hkk; unfold f16_r6; simp only [SX, Nat.reduceEqDiff, ↓reduceIte, Nat.reduceSub, Nat.reduceAdd, Nat.reduceLT, Nat.reduceLeDiff, Nat.one_ne_zero, Nat.zero_ne_one, show decP [] = [] from rfl, I.quiet, List.not_mem_nil, false_implies, implies_true, -List.reduceReplicate, decide_true, decide_false, hlt, ld1_ef hlt o1l, rd_eq hlt]; exact hkk) ?_; (repeat first | with_reducible refine nxt_n ?_ | with_reducible refine nxt_e ?_ | with_reducible refine nxt_r ?_ | with_reducible refine inB_n ?_ | with_reducible refine inB_r ?_ | with_reducible refine inB_x ?_ | with_reducible refine inB_y (by decide) ?_ | with_reducible refine orQ_r ?_ | with_reducible refine orQ_x ?_ | with_reducible refine orQ_n ?_))
    generalize hpk : ps[k] = p at *
    have wr2 : IntKind.wrap .i64 ((p.length : Int) + 2) = (p.length : Int) + 2 := wrap_id (by omega) (by omega)
    have y0 := nx_ge rem (n := (p.length : Int) + 2) (by omega)
    have y1 := nx_lt rem (n := (p.length : Int) + 2) (by omega)
    have hrem2 := nx_suf (n := (p.length : Int) + 2) hrem
    have hc2 := f52_ok (h := h.app [src l rem, some (.row 81 1 (F bs)), owb 3 xs]) (n := (p.length : Int) + 2) app_get0 hrem hl hw.ro0 (by omega) (by omega)
    revert hc2 hrem2 y0 y1
    generalize nx rem ((p.length : Int) + 2) = q
    intro y0 y1 hrem2 hc2
    have wr3 : IntKind.wrap .i64 (q.1 - 1) = q.1 - 1 := wrap_id (by omega) (by omega)
    ((repeat first | with_reducible refine EX.seq ?_ | with_reducible refine EX.blk ?_); refine EX.regx (by intro KK hkk; unfold f16_r7; simp only [SX, Nat.reduceEqDiff, ↓reduceIte, Nat.reduceSub, Nat.reduceAdd, Nat.reduceLT, Nat.reduceLeDiff, Nat.one_ne_zero, Nat.zero_ne_one, show decP [] = [] from rfl, I.quiet, List.not_mem_nil, false_implies, implies_true, -List.reduceReplicate, decide_true, decide_false, wr2, wr3]; refine RO_callE (hc2) ?_; simp only [SX, Nat.reduceEqDiff, ↓reduceIte, Nat.reduceSub, Nat.reduceAdd, Nat.reduceLT, Nat.reduceLeDiff, Nat.one_ne_zero, Nat.zero_ne_one, show decP [] = [] from rfl, I.quiet, List.not_mem_nil, false_implies, implies_true, -List.reduceReplicate, decide_true, decide_false, wr2, wr3]; exact hkk) ?_; (repeat first | with_reducible refine nxt_n ?_ | with_reducible refine nxt_e ?_ | with_reducible refine nxt_r ?_ | with_reducible refine inB_n ?_ | with_reducible refine inB_r ?_ | with_reducible refine inB_x ?_ | with_reducible refine inB_y (by decide) ?_ | with_reducible refine orQ_r ?_ | with_reducible refine orQ_x ?_ | with_reducible refine orQ_n ?_))
    refine EX.seqM (F := fun T1 H3 => ∃ (y : Int) (rem3 : List Int), rem3 <:+ l ∧ -1 ≤ y ∧ y ≤ p.length ∧ T1 5 = .pointer (some ⟨h.next, 0, none⟩) ∧ T1 6 = ow (h.next + 2) xs.length ∧ T1 7 = .pointer (some ⟨h.next + 1, 0, none⟩) ∧ T1 9 = L p ∧ T1 10 = .int .i64 y ∧ T1 13 = L ps ∧ T1 14 = .int .i64 ps.length ∧ T1 15 = .int .i64 (k : Nat) ∧ H3 = h.app [src l rem3, some (.row 81 1 (F bs)), owb 3 xs]) ?_ ?_
    · cases c1 : decide ((0 : Int) ≤ q.1 - 1) with
      | false =>
        have c1' := of_decide_eq_false c1
        ((repeat first | with_reducible refine EX.seq ?_ | with_reducible refine EX.blk ?_); refine EX.regx (by intro KK hkk; unfold f16_r8; simp only [SX, Nat.reduceEqDiff, ↓reduceIte, Nat.reduceSub, Nat.reduceAdd, Nat.reduceLT, Nat.reduceLeDiff, Nat.one_ne_zero, Nat.zero_ne_one, show decP [] = [] from rfl, I.quiet, List.not_mem_nil, false_implies, implies_true, -List.reduceReplicate, decide_true, decide_false, c1]; exact hkk) ?_; (repeat first | with_reducible refine nxt_n ?_ | with_reducible refine nxt_e ?_ | with_reducible refine nxt_r ?_ | with_reducible refine inB_n ?_ | with_reducible refine inB_r ?_ | with_reducible refine inB_x ?_ | with_reducible refine inB_y (by decide) ?_ | with_reducible refine orQ_r ?_ | with_reducible refine orQ_x ?_ | with_reducible refine orQ_n ?_))
        refine EX.condF rfl ?_
        refine EX.skip ?_
        exact ⟨rfl, q.1 - 1, q.2, hrem2, by omega, by omega, rfl, rfl, rfl, rfl, rfl, rfl, rfl, rfl, rfl⟩
      | true =>
      have c1' := of_decide_eq_true c1
      cases c2 : decide (q.1 - 1 < (p.length : Int)) with
      | false =>
        have c2' := of_decide_eq_false c2
        ((repeat first | with_reducible refine EX.seq ?_ | with_reducible refine EX.blk ?_); refine EX.regx (by intro KK hkk; unfold f16_r8; simp only [SX, Nat.reduceEqDiff, ↓reduceIte, Nat.reduceSub, Nat.reduceAdd, Nat.reduceLT, Nat.reduceLeDiff, Nat.one_ne_zero, Nat.zero_ne_one, show decP [] = [] from rfl, I.quiet, List.not_mem_nil, false_implies, implies_true, -List.reduceReplicate, decide_true, decide_false, c1, c2]; exact hkk) ?_; (repeat first | with_reducible refine nxt_n ?_ | with_reducible refine nxt_e ?_ | with_reducible refine nxt_r ?_ | with_reducible refine inB_n ?_ | with_reducible refine inB_r ?_ | with_reducible refine inB_x ?_ | with_reducible refine inB_y (by decide) ?_ | with_reducible refine orQ_r ?_ | with_reducible refine orQ_x ?_ | with_reducible refine orQ_n ?_))
        refine EX.condF rfl ?_
        refine EX.skip ?_
        exact ⟨rfl, q.1 - 1, q.2, hrem2, by omega, by omega, rfl, rfl, rfl, rfl, rfl, rfl, rfl, rfl, rfl⟩
      | true =>
      have c2' := of_decide_eq_true c2
      have hj : (q.1 - 1).toNat < p.length := by omega
      obtain ⟨b0, b1⟩ := hp2 _ (List.getElem_mem hj)
      have hbj : (p[(q.1 - 1).toNat].sec).toNat < bs.length := by omega
      cases ht : rd bs p[(q.1 - 1).toNat].sec.toNat with
      | false =>
        ((repeat first | with_reducible refine EX.seq ?_ | with_reducible refine EX.blk ?_); refine EX.regx (by intro KK hkk; unfold f16_r8; simp only [SX, Nat.reduceEqDiff, ↓reduceIte, Nat.reduceSub, Nat.reduceAdd, Nat.reduceLT, Nat.reduceLeDiff, Nat.one_ne_zero, Nat.zero_ne_one, show decP [] = [] from rfl, I.quiet, List.not_mem_nil, false_implies, implies_true, -List.reduceReplicate, decide_true, decide_false, c1, c2, c1', hj, w4s, ld1_ef hj (o4s (show 0 < 4 by decide)), cells_stg, rd_eq hj, iaa1_mk b0 b1, F_getb hbj, ht]; exact hkk) ?_; (repeat first | with_reducible refine nxt_n ?_ | with_reducible refine nxt_e ?_ | with_reducible refine nxt_r ?_ | with_reducible refine inB_n ?_ | with_reducible refine inB_r ?_ | with_reducible refine inB_x ?_ | with_reducible refine inB_y (by decide) ?_ | with_reducible refine orQ_r ?_ | with_reducible refine orQ_x ?_ | with_reducible refine orQ_n ?_))
        refine EX.condF rfl ?_
        refine EX.skip ?_
        exact ⟨rfl, q.1 - 1, q.2, hrem2, by omega, by omega, rfl, rfl, rfl, rfl, rfl, rfl, rfl, rfl, rfl⟩
      | true =>
        have hc3 := f52_ok (h := h.app [src l q.2, some (.row 81 1 (F bs)), owb 3 xs]) (n := 8) app_get0 hrem2 hl hw.ro0 (by omega) (by omega)
        have hrem3 := nx_suf (n := 8) hrem2
        ((repeat first | with_reducible refine EX.seq ?_ | with_reducible refine EX.blk ?_); refine EX.regx (by intro KK hkk; unfold f16_r8; simp only [SX, Nat.reduceEqDiff, ↓reduceIte, Nat.reduceSub, Nat.reduceAdd, Nat.reduceLT, Nat.reduceLeDiff, Nat.one_ne_zero, Nat.zero_ne_one, show decP [] = [] from rfl, I.quiet, List.not_mem_nil, false_implies, implies_true, -List.reduceReplicate, decide_true, decide_false, c1, c2, c1', hj, w4s, ld1_ef hj (o4s (show 0 < 4 by decide)), cells_stg, rd_eq hj, iaa1_mk b0 b1, F_getb hbj, ht]; refine RO_callE (hc3) ?_; simp only [SX, Nat.reduceEqDiff, ↓reduceIte, Nat.reduceSub, Nat.reduceAdd, Nat.reduceLT, Nat.reduceLeDiff, Nat.one_ne_zero, Nat.zero_ne_one, show decP [] = [] from rfl, I.quiet, List.not_mem_nil, false_implies, implies_true, -List.reduceReplicate, decide_true, decide_false, c1, c2, c1', hj, w4s, ld1_ef hj (o4s (show 0 < 4 by decide)), cells_stg, rd_eq hj, iaa1_mk b0 b1, F_getb hbj, ht]; exact hkk) ?_; (repeat first | with_reducible refine nxt_n ?_ | with_reducible refine nxt_e ?_ | with_reducible refine nxt_r ?_ | with_reducible refine inB_n ?_ | with_reducible refine inB_r ?_ | with_reducible refine inB_x ?_ | with_reducible refine inB_y (by decide) ?_ | with_reducible refine orQ_r ?_ | with_reducible refine orQ_x ?_ | with_reducible refine orQ_n ?_))
        refine EX.dec rfl (fun hd => ?_) (fun hd => ?_)
        · refine EX.regx (by intro KK hkk; unfold f16_r9; simp only [SX, Nat.reduceEqDiff, ↓reduceIte, Nat.reduceSub, Nat.reduceAdd, Nat.reduceLT, Nat.reduceLeDiff, Nat.one_ne_zero, Nat.zero_ne_one, show decP [] = [] from rfl, I.quiet, List.not_mem_nil, false_implies, implies_true, -List.reduceReplicate, decide_true, decide_false]; exact hkk) ?_
          exact ⟨rfl, -1, _, hrem3, by omega, by omega, rfl, rfl, rfl, rfl, rfl, rfl, rfl, rfl, rfl⟩
        · refine EX.skip ?_
          exact ⟨rfl, q.1 - 1, _, hrem3, by omega, by omega, rfl, rfl, rfl, rfl, rfl, rfl, rfl, rfl, rfl⟩
    · rintro T1 H3 ⟨y, rem3, hrem3, yl, yh, t5, t6, t7, t9, t10, t13, t14, t15, rfl⟩
      refine EX.seqM (F := fun T2 H4 => ∃ bs2 : List Bool, bs2.length = 8 ∧ T2 5 = .pointer (some ⟨h.next, 0, none⟩) ∧ T2 6 = ow (h.next + 2) xs.length ∧ T2 7 = .pointer (some ⟨h.next + 1, 0, none⟩) ∧ T2 10 = .int .i64 y ∧ T2 13 = L ps ∧ T2 14 = .int .i64 ps.length ∧ T2 15 = .int .i64 (k : Nat) ∧ H4 = h.app [src l rem3, some (.row 81 1 (F bs2)), owb 3 xs]) ?_ ?_
      · cases c1 : decide ((0 : Int) ≤ y) with
        | false =>
          ((repeat first | with_reducible refine EX.seq ?_ | with_reducible refine EX.blk ?_); refine EX.regx (by intro KK hkk; unfold f16_r10; simp only [SX, Nat.reduceEqDiff, ↓reduceIte, Nat.reduceSub, Nat.reduceAdd, Nat.reduceLT, Nat.reduceLeDiff, Nat.one_ne_zero, Nat.zero_ne_one, show decP [] = [] from rfl, I.quiet, List.not_mem_nil, false_implies, implies_true, -List.reduceReplicate, decide_true, decide_false, t10, c1]; exact hkk) ?_; (repeat first | with_reducible refine nxt_n ?_ | with_reducible refine nxt_e ?_ | with_reducible refine nxt_r ?_ | with_reducible refine inB_n ?_ | with_reducible refine inB_r ?_ | with_reducible refine inB_x ?_ | with_reducible refine inB_y (by decide) ?_ | with_reducible refine orQ_r ?_ | with_reducible refine orQ_x ?_ | with_reducible refine orQ_n ?_))
          refine EX.condF rfl ?_
          refine EX.skip ?_
          exact ⟨rfl, bs, hbs, t5, t6, t7, t10, t13, t14, t15, rfl⟩
        | true =>
        have c1' := of_decide_eq_true c1
        cases c2 : decide (y < (p.length : Int)) with
        | false =>
          ((repeat first | with_reducible refine EX.seq ?_ | with_reducible refine EX.blk ?_); refine EX.regx (by intro KK hkk; unfold f16_r10; simp only [SX, Nat.reduceEqDiff, ↓reduceIte, Nat.reduceSub, Nat.reduceAdd, Nat.reduceLT, Nat.reduceLeDiff, Nat.one_ne_zero, Nat.zero_ne_one, show decP [] = [] from rfl, I.quiet, List.not_mem_nil, false_implies, implies_true, -List.reduceReplicate, decide_true, decide_false, t10, c1, t9, c2]; exact hkk) ?_; (repeat first | with_reducible refine nxt_n ?_ | with_reducible refine nxt_e ?_ | with_reducible refine nxt_r ?_ | with_reducible refine inB_n ?_ | with_reducible refine inB_r ?_ | with_reducible refine inB_x ?_ | with_reducible refine inB_y (by decide) ?_ | with_reducible refine orQ_r ?_ | with_reducible refine orQ_x ?_ | with_reducible refine orQ_n ?_))
          refine EX.condF rfl ?_
          refine EX.skip ?_
          exact ⟨rfl, bs, hbs, t5, t6, t7, t10, t13, t14, t15, rfl⟩
        | true =>
          have c2' := of_decide_eq_true c2
          have hj : y.toNat < p.length := by omega
          obtain ⟨b0, b1⟩ := hp2 _ (List.getElem_mem hj)
          ((repeat first | with_reducible refine EX.seq ?_ | with_reducible refine EX.blk ?_); refine EX.regx (by intro KK hkk; unfold f16_r10; simp only [SX, Nat.reduceEqDiff, ↓reduceIte, Nat.reduceSub, Nat.reduceAdd, Nat.reduceLT, Nat.reduceLeDiff, Nat.one_ne_zero, Nat.zero_ne_one, show decP [] = [] from rfl, I.quiet, List.not_mem_nil, false_implies, implies_true, -List.reduceReplicate, decide_true, decide_false, t10, c1, t9, c2]; exact hkk) ?_; (repeat first | with_reducible refine nxt_n ?_ | with_reducible refine nxt_e ?_ | with_reducible refine nxt_r ?_ | with_reducible refine inB_n ?_ | with_reducible refine inB_r ?_ | with_reducible refine inB_x ?_ | with_reducible refine inB_y (by decide) ?_ | with_reducible refine orQ_r ?_ | with_reducible refine orQ_x ?_ | with_reducible refine orQ_n ?_))
          refine EX.condT rfl ?_
          refine EX.regx (by intro KK hkk; unfold f16_r11; simp only [SX, Nat.reduceEqDiff, ↓reduceIte, Nat.reduceSub, Nat.reduceAdd, Nat.reduceLT, Nat.reduceLeDiff, Nat.one_ne_zero, Nat.zero_ne_one, show decP [] = [] from rfl, I.quiet, List.not_mem_nil, false_implies, implies_true, -List.reduceReplicate, decide_true, decide_false, t10, t9, t7, c1', hj, w4s, ld1_ef hj (o4s (show 0 < 4 by decide)), cells_stg, rd_eq hj, iaa1_mk b0 b1, stAt_Fb hw.roi (show p[y.toNat].sec.toNat < bs.length by omega)]; exact hkk) ?_
          exact ⟨rfl, _, by simpa using hbs, t5, t6, t7, t10, t13, t14, t15, rfl⟩
      · rintro T2 H4 ⟨bs2, hbs2, u5, u6, u7, u10, u13, u14, u15, rfl⟩
        have ap := app1_push (h := h) (i := 2) (j := 3) (t := 3) (t1 := 3) (bytes := 8) (bs := [src l rem3, some (.row 81 1 (F bs2)), owb 3 xs, some (.row 3 1 [.int .i64 y])]) (xs := xs) (x := y) w1i rfl rfl hw.ro (by have := hs.1; omega) (by have := hs.1; omega)
        ((repeat first | with_reducible refine EX.seq ?_ | with_reducible refine EX.blk ?_); refine EX.regx (by intro KK hkk; unfold f16_r12; simp only [SX, Nat.reduceEqDiff, ↓reduceIte, Nat.reduceSub, Nat.reduceAdd, Nat.reduceLT, Nat.reduceLeDiff, Nat.one_ne_zero, Nat.zero_ne_one, show decP [] = [] from rfl, I.quiet, List.not_mem_nil, false_implies, implies_true, -List.reduceReplicate, decide_true, decide_false, u6, u10, ap]; exact hkk) ?_; (repeat first | with_reducible refine nxt_n ?_ | with_reducible refine nxt_e ?_ | with_reducible refine nxt_r ?_ | with_reducible refine inB_n ?_ | with_reducible refine inB_r ?_ | with_reducible refine inB_x ?_ | with_reducible refine inB_y (by decide) ?_ | with_reducible refine orQ_r ?_ | with_reducible refine orQ_x ?_ | with_reducible refine orQ_n ?_))
        ((repeat first | with_reducible refine EX.seq ?_ | with_reducible refine EX.blk ?_); refine EX.regx (by intro KK hkk; unfold f16_r13; simp only [SX, Nat.reduceEqDiff, ↓reduceIte, Nat.reduceSub, Nat.reduceAdd, Nat.reduceLT, Nat.reduceLeDiff, Nat.one_ne_zero, Nat.zero_ne_one, show decP [] = [] from rfl, I.quiet, List.not_mem_nil, false_implies, implies_true, -List.reduceReplicate, decide_true, decide_false, u15, wrap_nat (show k < 4611686018427387904 by have := hs.1; omega)]; exact hkk) ?_; (repeat first | with_reducible refine nxt_n ?_ | with_reducible refine nxt_e ?_ | with_reducible refine nxt_r ?_ | with_reducible refine inB_n ?_ | with_reducible refine inB_r ?_ | with_reducible refine inB_x ?_ | with_reducible refine inB_y (by decide) ?_ | with_reducible refine orQ_r ?_ | with_reducible refine orQ_x ?_ | with_reducible refine orQ_n ?_))
        refine ⟨(k + 1, rem3, bs2, xs ++ [y]), ⟨by show k + 1 ≤ _; omega, hrem3, hbs2, by simp [hxl], ?_⟩, by show _ - (k + 1) < _ - k; omega, Wk.app (bs0 := [src l rem3, some (.row 81 1 (F bs2)), owb 3 (xs ++ [y])]) [0, 1, 4] hw (by decide) (.some rfl RB.src (.some rfl RB.F (.owb rfl .nil))) ?_⟩
        · intro i x p' hi hpi
          by_cases hik : i < k
          · rw [List.getElem?_append_left (by omega)] at hi
            exact hgood i x p' hi hpi
          · have hil := (List.getElem?_eq_some_iff.1 hi).1
            simp at hil
            obtain rfl : i = k := by omega
            rw [List.getElem?_append_right (by omega), hxl] at hi
            simp at hi
            rw [List.getElem?_eq_getElem hlt, hpk] at hpi
            cases hpi
            subst hi
            exact ⟨yl, yh⟩
        · refine RVs.updc (RVs.updc (RVs.updc (RVs.upd (RVs.upd (RVs.upd RVs.nil ?_) ?_) ?_) L_cl u13) Cl.int u14) Cl.int rfl
          · show RV _ _ _ (T2 5)
            rw [u5]; exact RV.ptr (rnm_00 rfl) (by simp only [List.length_cons, List.length_nil]; omega)
          · show RV _ _ _ (ow (h.next + 4) (xs.length + 1))
            exact RV.ow (rnm_ij rfl) (by simp only [List.length_cons, List.length_nil]; omega) (by simp)
          · show RV _ _ _ (T2 7)
            rw [u7]; exact RV.ptr (rnm_ij rfl) (by simp only [List.length_cons, List.length_nil]; omega)
  · (refine EX.exit ?_; (repeat first | with_reducible refine nxt_n ?_ | with_reducible refine nxt_e ?_ | with_reducible refine nxt_r ?_ | with_reducible refine inB_n ?_ | with_reducible refine inB_r ?_ | with_reducible refine inB_x ?_ | with_reducible refine inB_y (by decide) ?_ | with_reducible refine orQ_r ?_ | with_reducible refine orQ_x ?_ | with_reducible refine orQ_n ?_))
    obtain rfl : k = ps.length := by omega
    ((repeat first | with_reducible refine EX.seq ?_ | with_reducible refine EX.blk ?_); refine EX.regx (by intro KK hkk; unfold f16_r14; simp only [SX, Nat.reduceEqDiff, ↓reduceIte, Nat.reduceSub, Nat.reduceAdd, Nat.reduceLT, Nat.reduceLeDiff, Nat.one_ne_zero, Nat.zero_ne_one, show decP [] = [] from rfl, I.quiet, List.not_mem_nil, false_implies, implies_true, -List.reduceReplicate, decide_true, decide_false]; exact hkk) ?_; (repeat first | with_reducible refine nxt_n ?_ | with_reducible refine nxt_e ?_ | with_reducible refine nxt_r ?_ | with_reducible refine inB_n ?_ | with_reducible refine inB_r ?_ | with_reducible refine inB_x ?_ | with_reducible refine inB_y (by decide) ?_ | with_reducible refine orQ_r ?_ | with_reducible refine orQ_x ?_ | with_reducible refine orQ_n ?_))
    refine EX.wk ?_ (Wk.retL (i := 2) (r := 4) (xs := xs) hw rfl (by have := hs.1; omega) rfl)
    ((repeat first | with_reducible refine EX.seq ?_ | with_reducible refine EX.blk ?_); refine EX.ret ?_; (repeat first | with_reducible refine nxt_n ?_ | with_reducible refine nxt_e ?_ | with_reducible refine nxt_r ?_ | with_reducible refine inB_n ?_ | with_reducible refine inB_r ?_ | with_reducible refine inB_x ?_ | with_reducible refine inB_y (by decide) ?_ | with_reducible refine orQ_r ?_ | with_reducible refine orQ_x ?_ | with_reducible refine orQ_n ?_); refine ⟨_, rfl, ?_⟩; simp only [packV, upd, Nat.reduceEqDiff, reduceIte, if_true, if_false, Nat.one_ne_zero, Nat.zero_ne_one])
    exact ⟨xs, rfl, trivial, goodB_of hxl hgood⟩
/-- 'sections'. -/
theorem f17_own {ps : List (List Stg)} {xs : List Int} (hw : Wf h) (hl : xs.length = ps.length) (lp : ps.length < 4611686018427387904) : AC Go.Proofs.Try.prog 17 [L ps, L xs] h (ow h.next (secsU ps xs 8).length) (h.app [owb 3 (secsU ps xs 8)]) := by
  suffices k : EC Go.Proofs.Try.prog 17 [L ps, L xs] h fun r h' => r = ow h.next (secsU ps xs 8).length ∧ h' = h.app [owb 3 (secsU ps xs 8)] by
    obtain ⟨_, _, g, rfl, rfl⟩ := k
    exact g
  refine EC.intro f17_is ?_
  unfold f17_c
  ((repeat first | with_reducible refine EX.seq ?_ | with_reducible refine EX.blk ?_); refine EX.regx (by intro KK hkk; unfold f17_r0; simp only [SX, Nat.reduceEqDiff, ↓reduceIte, Nat.reduceSub, Nat.reduceAdd, Nat.reduceLT, Nat.reduceLeDiff, Nat.one_ne_zero, Nat.zero_ne_one, show decP [] = [] from rfl, I.quiet, List.not_mem_nil, false_implies, implies_true, -List.reduceReplicate, decide_true, decide_false]; exact hkk) ?_; (repeat first | with_reducible refine nxt_n ?_ | with_reducible refine nxt_e ?_ | with_reducible refine nxt_r ?_ | with_reducible refine inB_n ?_ | with_reducible refine inB_r ?_ | with_reducible refine inB_x ?_ | with_reducible refine inB_y (by decide) ?_ | with_reducible refine orQ_r ?_ | with_reducible refine orQ_x ?_ | with_reducible refine orQ_n ?_))
  ((repeat first | with_reducible refine EX.seq ?_ | with_reducible refine EX.blk ?_); refine EX.regx (by intro KK hkk; unfold f17_r1; simp only [SX, Nat.reduceEqDiff, ↓reduceIte, Nat.reduceSub, Nat.reduceAdd, Nat.reduceLT, Nat.reduceLeDiff, Nat.one_ne_zero, Nat.zero_ne_one, show decP [] = [] from rfl, I.quiet, List.not_mem_nil, false_implies, implies_true, -List.reduceReplicate, decide_true, decide_false]; exact hkk) ?_; (repeat first | with_reducible refine nxt_n ?_ | with_reducible refine nxt_e ?_ | with_reducible refine nxt_r ?_ | with_reducible refine inB_n ?_ | with_reducible refine inB_r ?_ | with_reducible refine inB_x ?_ | with_reducible refine inB_y (by decide) ?_ | with_reducible refine orQ_r ?_ | with_reducible refine orQ_x ?_ | with_reducible refine orQ_n ?_))
  ((repeat first | with_reducible refine EX.seq ?_ | with_reducible refine EX.blk ?_); refine EX.regx (by intro KK hkk; unfold f17_r2; simp only [SX, Nat.reduceEqDiff, ↓reduceIte, Nat.reduceSub, Nat.reduceAdd, Nat.reduceLT, Nat.reduceLeDiff, Nat.one_ne_zero, Nat.zero_ne_one, show decP [] = [] from rfl, I.quiet, List.not_mem_nil, false_implies, implies_true, -List.reduceReplicate, decide_true, decide_false]; exact hkk) ?_; (repeat first | with_reducible refine nxt_n ?_ | with_reducible refine nxt_e ?_ | with_reducible refine nxt_r ?_ | with_reducible refine inB_n ?_ | with_reducible refine inB_r ?_ | with_reducible refine inB_x ?_ | with_reducible refine inB_y (by decide) ?_ | with_reducible refine orQ_r ?_ | with_reducible refine orQ_x ?_ | with_reducible refine orQ_n ?_))
  (repeat first | with_reducible refine EX.seq ?_ | with_reducible refine EX.blk ?_)
  refine EX.loop (fun r => upd (upd (upd (upd TE 0 (L ps)) 1 (L xs)) 5 (ow h.next (secsU ps xs r).length)) 6 (.int .i64 (r : Nat)))
    (fun r => h.app [owb 3 (secsU ps xs r)]) (fun r => r ≤ 8) (fun r => 8 - r) 0 (Nat.zero_le _) ?_ ?_
  · refine Wk.app_in [0] hw (by decide) (show AppOk _ _ [] [0] [none] from trivial) ?_
    refine RVs.updc (RVs.updc (RVs.updc (RVs.updc RVs.nil L_cl rfl) L_cl rfl) Cl.slice0 rfl) Cl.int rfl
  intro r hr
  ((repeat first | with_reducible refine EX.seq ?_ | with_reducible refine EX.blk ?_); refine EX.regx (by intro KK hkk; unfold f17_r3; simp only [SX, Nat.reduceEqDiff, ↓reduceIte, Nat.reduceSub, Nat.reduceAdd, Nat.reduceLT, Nat.reduceLeDiff, Nat.one_ne_zero, Nat.zero_ne_one, show decP [] = [] from rfl, I.quiet, List.not_mem_nil, false_implies, implies_true, -List.reduceReplicate, decide_true, decide_false]; exact hkk) ?_; (repeat first | with_reducible refine nxt_n ?_ | with_reducible refine nxt_e ?_ | with_reducible refine nxt_r ?_ | with_reducible refine inB_n ?_ | with_reducible refine inB_r ?_ | with_reducible refine inB_x ?_ | with_reducible refine inB_y (by decide) ?_ | with_reducible refine orQ_r ?_ | with_reducible refine orQ_x ?_ | with_reducible refine orQ_n ?_))
  refine EX.dec rfl (fun hlt => ?_) (fun hlt => ?_)
  · (refine EX.skip ?_; (repeat first | with_reducible refine nxt_n ?_ | with_reducible refine nxt_e ?_ | with_reducible refine nxt_r ?_ | with_reducible refine inB_n ?_ | with_reducible refine inB_r ?_ | with_reducible refine inB_x ?_ | with_reducible refine inB_y (by decide) ?_ | with_reducible refine orQ_r ?_ | with_reducible refine orQ_x ?_ | with_reducible refine orQ_n ?_))
    ((repeat first | with_reducible refine EX.seq ?_ | with_reducible refine EX.blk ?_); refine EX.regx (by intro KK hkk; unfold f17_r4; simp only [SX, Nat.reduceEqDiff, ↓reduceIte, Nat.reduceSub, Nat.reduceAdd, Nat.reduceLT, Nat.reduceLeDiff, Nat.one_ne_zero, Nat.zero_ne_one, show decP [] = [] from rfl, I.quiet, List.not_mem_nil, false_implies, implies_true, -List.reduceReplicate, decide_true, decide_false]; exact hkk) ?_; (repeat first | with_reducible refine nxt_n ?_ | with_reducible refine nxt_e ?_ | with_reducible refine nxt_r ?_ | with_reducible refine inB_n ?_ | with_reducible refine inB_r ?_ | with_reducible refine inB_x ?_ | with_reducible refine inB_y (by decide) ?_ | with_reducible refine orQ_r ?_ | with_reducible refine orQ_x ?_ | with_reducible refine orQ_n ?_))
    refine EX.cut (F := fun T1 H1 => T1 0 = L ps ∧ T1 1 = L xs ∧ T1 5 = ow h.next (secsU ps xs (r + 1)).length ∧ T1 6 = .int .i64 (r : Nat) ∧ H1 = h.app [owb 3 (secsU ps xs (r + 1))]) ?_ ?_
    · (repeat first | with_reducible refine EX.seq ?_ | with_reducible refine EX.blk ?_)
      refine EX.loop (fun k => upd (upd (upd (upd (upd (upd TE 0 (L ps)) 1 (L xs)) 5 (ow h.next (secsU ps xs r).length)) 6 (.int .i64 (r : Nat))) 13 (.int .i64 ps.length)) 14 (.int .i64 (k : Nat))) (fun _ => h.app [owb 3 (secsU ps xs r)]) (fun k => k ≤ ps.length ∧ (List.range k).any (fun t => decide (secAt ps xs t = (r : Int))) = false) (fun k => ps.length - k) 0 (by simp) (Less.wk (by (repeat refine Less.upd ?_ (by rfl)); exact Less.nil)) ?_
      intro k ⟨hk, hkt⟩
      ((repeat first | with_reducible refine EX.seq ?_ | with_reducible refine EX.blk ?_); refine EX.regx (by intro KK hkk; unfold f17_r5; simp only [SX, Nat.reduceEqDiff, ↓reduceIte, Nat.reduceSub, Nat.reduceAdd, Nat.reduceLT, Nat.reduceLeDiff, Nat.one_ne_zero, Nat.zero_ne_one, show decP [] = [] from rfl, I.quiet, List.not_mem_nil, false_implies, implies_true, -List.reduceReplicate, decide_true, decide_false, lt_nat]; exact hkk) ?_; (repeat first | with_reducible refine nxt_n ?_ | with_reducible refine nxt_e ?_ | with_reducible refine nxt_r ?_ | with_reducible refine inB_n ?_ | with_reducible refine inB_r ?_ | with_reducible refine inB_x ?_ | with_reducible refine inB_y (by decide) ?_ | with_reducible refine orQ_r ?_ | with_reducible refine orQ_x ?_ | with_reducible refine orQ_n ?_))
      (repeat first | with_reducible refine EX.seq ?_ | with_reducible refine EX.blk ?_)
      refine EX.dec rfl (fun hk2 => ?_) (fun hk2 => ?_)
      · (refine EX.skip ?_; (repeat first | with_reducible refine nxt_n ?_ | with_reducible refine nxt_e ?_ | with_reducible refine nxt_r ?_ | with_reducible refine inB_n ?_ | with_reducible refine inB_r ?_ | with_reducible refine inB_x ?_ | with_reducible refine inB_y (by decide) ?_ | with_reducible refine orQ_r ?_ | with_reducible refine orQ_x ?_ | with_reducible refine orQ_n ?_))
        ((repeat first | with_reducible refine EX.seq ?_ | with_reducible refine EX.blk ?_); refine EX.regx (by intro KK hkk; unfold f17_r6; simp only [SX, Nat.reduceEqDiff, ↓reduceIte, Nat.reduceSub, Nat.reduceAdd, Nat.reduceLT, Nat.reduceLeDiff, Nat.one_ne_zero, Nat.zero_ne_one, show decP [] = [] from rfl, I.quiet, List.not_mem_nil, false_implies, implies_true, -List.reduceReplicate, decide_true, decide_false]; exact hkk) ?_; (repeat first | with_reducible refine nxt_n ?_ | with_reducible refine nxt_e ?_ | with_reducible refine nxt_r ?_ | with_reducible refine inB_n ?_ | with_reducible refine inB_r ?_ | with_reducible refine inB_x ?_ | with_reducible refine inB_y (by decide) ?_ | with_reducible refine orQ_r ?_ | with_reducible refine orQ_x ?_ | with_reducible refine orQ_n ?_))
        ((repeat first | with_reducible refine EX.seq ?_ | with_reducible refine EX.blk ?_); refine EX.regx (by intro KK hkk; unfold f17_r7; simp only [SX, Nat.reduceEqDiff, ↓reduceIte, Nat.reduceSub, Nat.reduceAdd, Nat.reduceLT, Nat.reduceLeDiff, Nat.one_ne_zero, Nat.zero_ne_one, show decP [] = [] from rfl, I.quiet, List.not_mem_nil, false_implies, implies_true, -List.reduceReplicate, decide_true, decide_false]; refine RO_callvS (f53_ok (by omega) hk2) ?_; simp only [SX, Nat.reduceEqDiff, ↓reduceIte, Nat.reduceSub, Nat.reduceAdd, Nat.reduceLT, Nat.reduceLeDiff, Nat.one_ne_zero, Nat.zero_ne_one, show decP [] = [] from rfl, I.quiet, List.not_mem_nil, false_implies, implies_true, -List.reduceReplicate, decide_true, decide_false]; exact hkk) ?_; (repeat first | with_reducible refine nxt_n ?_ | with_reducible refine nxt_e ?_ | with_reducible refine nxt_r ?_ | with_reducible refine inB_n ?_ | with_reducible refine inB_r ?_ | with_reducible refine inB_x ?_ | with_reducible refine inB_y (by decide) ?_ | with_reducible refine orQ_r ?_ | with_reducible refine orQ_x ?_ | with_reducible refine orQ_n ?_))
        refine EX.dec rfl (fun hd => ?_) (fun hd => ?_)
        · have := secsU_len ps xs r
          have hh : heldB ps xs r = true := by
            rw [heldB, List.any_eq_true]; exact ⟨k, List.mem_range.2 hk2, decide_eq_true hd⟩
          have hsu : secsU ps xs (r + 1) = secsU ps xs r ++ [(r : Int)] := by rw [secsU_succ, if_pos hh]
          have ap := app1_push (h := h) (i := 0) (j := 1) (t := 3) (t1 := 3) (bytes := 8) (bs := [owb 3 (secsU ps xs r), some (.row 3 1 [.int .i64 (r : Nat)])]) (xs := secsU ps xs r) (x := (r : Int)) w1i rfl rfl hw.ro (by omega) (by omega)
          rw [Nat.add_zero] at ap
          ((repeat first | with_reducible refine EX.seq ?_ | with_reducible refine EX.blk ?_); refine EX.regx (by intro KK hkk; unfold f17_r8; simp only [SX, Nat.reduceEqDiff, ↓reduceIte, Nat.reduceSub, Nat.reduceAdd, Nat.reduceLT, Nat.reduceLeDiff, Nat.one_ne_zero, Nat.zero_ne_one, show decP [] = [] from rfl, I.quiet, List.not_mem_nil, false_implies, implies_true, -List.reduceReplicate, decide_true, decide_false, ap]; exact hkk) ?_; (repeat first | with_reducible refine nxt_n ?_ | with_reducible refine nxt_e ?_ | with_reducible refine nxt_r ?_ | with_reducible refine inB_n ?_ | with_reducible refine inB_r ?_ | with_reducible refine inB_x ?_ | with_reducible refine inB_y (by decide) ?_ | with_reducible refine orQ_r ?_ | with_reducible refine orQ_x ?_ | with_reducible refine orQ_n ?_))
          refine EX.wk (T0 := upd (upd (upd (upd TE 0 (L ps)) 1 (L xs)) 5 (ow h.next (secsU ps xs (r + 1)).length)) 6 (.int .i64 (r : Nat))) ?_ (Wk.app (bs0 := [owb 3 (secsU ps xs (r + 1))]) [2] hw (by decide) (.owb (by rw [hsu]; rfl) .nil) ?_)
          · refine EX.exit ?_
            (repeat first | with_reducible refine nxt_n ?_ | with_reducible refine nxt_e ?_ | with_reducible refine nxt_r ?_ | with_reducible refine inB_n ?_ | with_reducible refine inB_r ?_ | with_reducible refine inB_x ?_ | with_reducible refine inB_y (by decide) ?_ | with_reducible refine orQ_r ?_ | with_reducible refine orQ_x ?_ | with_reducible refine orQ_n ?_)
            exact ⟨rfl, rfl, rfl, rfl, rfl, rfl⟩
          · refine RVs.updc (RVs.upd (RVs.updc (RVs.updc RVs.nil L_cl rfl) L_cl rfl) ?_) Cl.int rfl
            show RV _ _ _ (ow (h.next + 2) ((secsU ps xs r).length + 1))
            exact RV.ow (rnm_0j rfl) (by simp only [List.length_cons, List.length_nil]; omega) (by rw [hsu]; simp)
        · (refine EX.skip ?_; (repeat first | with_reducible refine nxt_n ?_ | with_reducible refine nxt_e ?_ | with_reducible refine nxt_r ?_ | with_reducible refine inB_n ?_ | with_reducible refine inB_r ?_ | with_reducible refine inB_x ?_ | with_reducible refine inB_y (by decide) ?_ | with_reducible refine orQ_r ?_ | with_reducible refine orQ_x ?_ | with_reducible refine orQ_n ?_))
          ((repeat first | with_reducible refine EX.seq ?_ | with_reducible refine EX.blk ?_); refine EX.regx (by intro KK hkk; unfold f17_r9; simp only [SX, Nat.reduceEqDiff, ↓reduceIte, Nat.reduceSub, Nat.reduceAdd, Nat.reduceLT, Nat.reduceLeDiff, Nat.one_ne_zero, Nat.zero_ne_one, show decP [] = [] from rfl, I.quiet, List.not_mem_nil, false_implies, implies_true, -List.reduceReplicate, decide_true, decide_false, wrap_nat (show k < 4611686018427387904 by omega)]; exact hkk) ?_; (repeat first | with_reducible refine nxt_n ?_ | with_reducible refine nxt_e ?_ | with_reducible refine nxt_r ?_ | with_reducible refine inB_n ?_ | with_reducible refine inB_r ?_ | with_reducible refine inB_x ?_ | with_reducible refine inB_y (by decide) ?_ | with_reducible refine orQ_r ?_ | with_reducible refine orQ_x ?_ | with_reducible refine orQ_n ?_))
          refine ⟨k + 1, ⟨by omega, ?_⟩, by omega, Less.wk (by (repeat refine Less.upd ?_ (by rfl)); exact Less.nil)⟩
          rw [List.range_succ, List.any_append, hkt]
          simp [hd]
      · (refine EX.exit ?_; (repeat first | with_reducible refine nxt_n ?_ | with_reducible refine nxt_e ?_ | with_reducible refine nxt_r ?_ | with_reducible refine inB_n ?_ | with_reducible refine inB_r ?_ | with_reducible refine inB_x ?_ | with_reducible refine inB_y (by decide) ?_ | with_reducible refine orQ_r ?_ | with_reducible refine orQ_x ?_ | with_reducible refine orQ_n ?_))
        obtain rfl : k = ps.length := by omega
        have hh : ¬ heldB ps xs r = true := by rw [heldB, hkt]; decide
        have hsu : secsU ps xs (r + 1) = secsU ps xs r := by rw [secsU_succ, if_neg hh, List.append_nil]
        rw [hsu]
        exact ⟨rfl, rfl, rfl, rfl, rfl, rfl⟩
    · rintro T1 H1 ⟨t0, t1, t5, t6, rfl⟩
      (repeat first | with_reducible refine nxt_n ?_ | with_reducible refine nxt_e ?_ | with_reducible refine nxt_r ?_ | with_reducible refine inB_n ?_ | with_reducible refine inB_r ?_ | with_reducible refine inB_x ?_ | with_reducible refine inB_y (by decide) ?_ | with_reducible refine orQ_r ?_ | with_reducible refine orQ_x ?_ | with_reducible refine orQ_n ?_)
      ((repeat first | with_reducible refine EX.seq ?_ | with_reducible refine EX.blk ?_); refine EX.regx (by intro KK hkk; unfold f17_r10; simp only [SX, Nat.reduceEqDiff, ↓reduceIte, Nat.reduceSub, Nat.reduceAdd, Nat.reduceLT, Nat.reduceLeDiff, Nat.one_ne_zero, Nat.zero_ne_one, show decP [] = [] from rfl, I.quiet, List.not_mem_nil, false_implies, implies_true, -List.reduceReplicate, decide_true, decide_false, t6, wrap_nat (show r < 4611686018427387904 by omega)]; exact hkk) ?_; (repeat first | with_reducible refine nxt_n ?_ | with_reducible refine nxt_e ?_ | with_reducible refine nxt_r ?_ | with_reducible refine inB_n ?_ | with_reducible refine inB_r ?_ | with_reducible refine inB_x ?_ | with_reducible refine inB_y (by decide) ?_ | with_reducible refine orQ_r ?_ | with_reducible refine orQ_x ?_ | with_reducible refine orQ_n ?_))
      refine ⟨r + 1, by omega, by omega, Less.wk (Less.upd (Less.upd (Less.upd (Less.upd Less.nil ?_) ?_) ?_) ?_)⟩
      · exact t0
      · exact t1
      · exact t5
      · rfl
  · (refine EX.exit ?_; (repeat first | with_reducible refine nxt_n ?_ | with_reducible refine nxt_e ?_ | with_reducible refine nxt_r ?_ | with_reducible refine inB_n ?_ | with_reducible refine inB_r ?_ | with_reducible refine inB_x ?_ | with_reducible refine inB_y (by decide) ?_ | with_reducible refine orQ_r ?_ | with_reducible refine orQ_x ?_ | with_reducible refine orQ_n ?_))
    obtain rfl : r = 8 := by omega
    ((repeat first | with_reducible refine EX.seq ?_ | with_reducible refine EX.blk ?_); refine EX.regx (by intro KK hkk; unfold f17_r11; simp only [SX, Nat.reduceEqDiff, ↓reduceIte, Nat.reduceSub, Nat.reduceAdd, Nat.reduceLT, Nat.reduceLeDiff, Nat.one_ne_zero, Nat.zero_ne_one, show decP [] = [] from rfl, I.quiet, List.not_mem_nil, false_implies, implies_true, -List.reduceReplicate, decide_true, decide_false]; exact hkk) ?_; (repeat first | with_reducible refine nxt_n ?_ | with_reducible refine nxt_e ?_ | with_reducible refine nxt_r ?_ | with_reducible refine inB_n ?_ | with_reducible refine inB_r ?_ | with_reducible refine inB_x ?_ | with_reducible refine inB_y (by decide) ?_ | with_reducible refine orQ_r ?_ | with_reducible refine orQ_x ?_ | with_reducible refine orQ_n ?_))
    ((repeat first | with_reducible refine EX.seq ?_ | with_reducible refine EX.blk ?_); refine EX.ret ?_; (repeat first | with_reducible refine nxt_n ?_ | with_reducible refine nxt_e ?_ | with_reducible refine nxt_r ?_ | with_reducible refine inB_n ?_ | with_reducible refine inB_r ?_ | with_reducible refine inB_x ?_ | with_reducible refine inB_y (by decide) ?_ | with_reducible refine orQ_r ?_ | with_reducible refine orQ_x ?_ | with_reducible refine orQ_n ?_); refine ⟨_, rfl, ?_⟩; simp only [packV, upd, Nat.reduceEqDiff, reduceIte, if_true, if_false, Nat.one_ne_zero, Nat.zero_ne_one])
    exact ⟨trivial, trivial⟩
theorem f17_ok {ps : List (List Stg)} {xs : List Int} (hl : xs.length = ps.length) : AC Go.Proofs.Try.prog 17 [L ps, L xs] h (L (secsU ps xs 8)) h := by
  refine AC.bd 0 rfl fun bp => ?_
  exact AC.wf fun hw => (f17_own hw hl bp.1).wkR (Wk.retL (i := 0) (r := 0) (xs := secsU ps xs 8) hw rfl (by have := secsU_len ps xs 8; omega) rfl)
end
end Go.Proofs.Ythofdojknjhpgaa
