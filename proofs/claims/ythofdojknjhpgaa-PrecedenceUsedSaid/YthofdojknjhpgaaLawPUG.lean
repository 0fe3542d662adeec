/- Own texts, merged: a part of the proof that is told in the last text of this claim. -/
import Derived.Test.YthofdojknjhpgaaCMXo
import Derived.Test.YthofdojknjhpgaaLawPUF
set_option linter.unnecessarySimpa false
set_option linter.unusedSectionVars false
set_option linter.defProp false
set_option linter.unusedVariables false
set_option linter.unusedSimpArgs false
namespace Go.Proofs.Ythofdojknjhpgaa
open Go
section
variable {h : AH}
/-- 'From'. -/
theorem f51_ok {l : List Int} : AC Go.Proofs.Try.prog 51 [L l] h (.pointer (some ⟨h.next, 0, none⟩)) (h.new (.row 130 0 [L l, .int .i64 0])) := by
  have k : EC Go.Proofs.Try.prog 51 [L l] h fun r h' => r = .pointer (some ⟨h.next, 0, none⟩) ∧ h' = h.new (.row 130 0 [L l, .int .i64 0]) := by
    refine EC.intro f51_is ?_
    unfold f51_c
    (refine EX.rg (by intro KK hkk; unfold f51_r0; simp only [SX, Nat.reduceEqDiff, ↓reduceIte, Nat.reduceSub, Nat.reduceAdd, Nat.reduceLT, Nat.reduceLeDiff, I.quiet, false_implies, implies_true, -List.reduceReplicate]; exact hkk) ?_)
    (refine EX.rg (by intro KK hkk; unfold f51_r1; simp only [SX, Nat.reduceEqDiff, ↓reduceIte, Nat.reduceSub, Nat.reduceAdd, Nat.reduceLT, Nat.reduceLeDiff, I.quiet, false_implies, implies_true, -List.reduceReplicate]; exact hkk) ?_)
    ((with_reducible repeat first|apply EX.seq|apply EX.blk); refine EX.ret ?_; (with_reducible repeat first|apply nA|apply nB|apply nC|apply nD|apply nE|apply nF|apply nG (by decide)|apply nH|apply nI|apply nJ); refine ⟨_, rfl, ?_⟩; simp only [packV, upd, Nat.reduceEqDiff, reduceIte, if_true, if_false, Nat.one_ne_zero, Nat.zero_ne_one])
    exact ⟨trivial, trivial⟩
  obtain ⟨_, _, g, rfl, rfl⟩ := k
  exact g
/-- 'Next'. -/
theorem f52_ok {B : Nat} {l rem : List Int} {n : Int} (hB : h.get B = src l rem) (hs : rem <:+ l) (hl : l.length < 4611686018427387904) (hr : h.ro ≤ B) (hn : 0 < n) (hn2 : n < 4294967296) : AC Go.Proofs.Try.prog 52 [.pointer (some ⟨B, 0, none⟩), .int .i64 n] h (.int .i64 (nx rem n).1) (h.put B (src l (nx rem n).2)) := by
  have hsl := hs.length_le
  have hrem : rem = l.drop (l.length - rem.length) := List.suffix_iff_eq_drop.1 hs
  have hg : h.get B = some (.row 130 0 [L l, .int .i64 ((l.length - rem.length : Nat) : Int)]) := hB
  have k : EC Go.Proofs.Try.prog 52 [.pointer (some ⟨B, 0, none⟩), .int .i64 n] h fun r h' => r = .int .i64 (nx rem n).1 ∧ h' = h.put B (src l (nx rem n).2) := by
    refine EC.intro f52_is ?_
    unfold f52_c
    (refine EX.rg (by intro KK hkk; unfold f52_r0; simp only [SX, Nat.reduceEqDiff, ↓reduceIte, Nat.reduceSub, Nat.reduceAdd, Nat.reduceLT, Nat.reduceLeDiff, I.quiet, false_implies, implies_true, -List.reduceReplicate]; exact hkk) ?_)
    (refine EX.dg (by intro KK hkk; unfold f52_r1; simp only [SX, Nat.reduceEqDiff, ↓reduceIte, Nat.reduceSub, Nat.reduceAdd, Nat.reduceLT, Nat.reduceLeDiff, I.quiet, false_implies, implies_true, -List.reduceReplicate, hg]; exact hkk) ?_)
    cases rem with
    | nil =>
      refine EX.dec rfl (fun hd => ?_) (fun hd => absurd (by simp) hd)
      (refine EX.rg (by intro KK hkk; unfold f52_r2; simp only [SX, Nat.reduceEqDiff, ↓reduceIte, Nat.reduceSub, Nat.reduceAdd, Nat.reduceLT, Nat.reduceLeDiff, I.quiet, false_implies, implies_true, -List.reduceReplicate]; exact hkk) ?_)
      ((with_reducible repeat first|apply EX.seq|apply EX.blk); refine EX.ret ?_; (with_reducible repeat first|apply nA|apply nB|apply nC|apply nD|apply nE|apply nF|apply nG (by decide)|apply nH|apply nI|apply nJ); refine ⟨_, rfl, ?_⟩; simp only [packV, upd, Nat.reduceEqDiff, reduceIte, if_true, if_false, Nat.one_ne_zero, Nat.zero_ne_one])
      exact ⟨rfl, (put_self hB).symm⟩
    | cons x r =>
      have h1 : l.length - (x :: r).length < l.length := by simp at hsl ⊢; omega
      have h2 : l.length - r.length = l.length - (x :: r).length + 1 := by simp at hsl ⊢; omega
      refine EX.dec rfl (fun hd => by simp only [List.length_cons] at hd hsl; omega) (fun hd => ?_)
      clear hd
      (refine EX.skip ?_; (with_reducible repeat first|apply nA|apply nB|apply nC|apply nD|apply nE|apply nF|apply nG (by decide)|apply nH|apply nI|apply nJ))
      have wr := wrap_nat (k := l.length - (x :: r).length) (by omega)
      have hx : rd l (l.length - (x :: r).length) = x := by
        rw [rd_eq h1]
        have : (l.drop (l.length - (x :: r).length))[0]? = some x := by rw [← hrem]; rfl
        rw [List.getElem?_drop, Nat.add_zero, List.getElem?_eq_getElem h1] at this
        exact Option.some.inj this
      generalize hk : l.length - (x :: r).length = k at *
      (refine EX.rg (by intro KK hkk; unfold f52_r3; simp only [SX, Nat.reduceEqDiff, ↓reduceIte, Nat.reduceSub, Nat.reduceAdd, Nat.reduceLT, Nat.reduceLeDiff, I.quiet, false_implies, implies_true, -List.reduceReplicate, hg, wr, stAt_row hr]; exact hkk) ?_)
      (refine EX.dg (by intro KK hkk; unfold f52_r4; simp only [SX, Nat.reduceEqDiff, ↓reduceIte, Nat.reduceSub, Nat.reduceAdd, Nat.reduceLT, Nat.reduceLeDiff, I.quiet, false_implies, implies_true, -List.reduceReplicate, AH.get_put, wrap_sub1 (show k < 4611686018427387904 by omega), h1, ld1_ef h1 o1i, hx]; refine RD_callvS (f18_ok hn hn2) ?_; simp only [SX, Nat.reduceEqDiff, ↓reduceIte, Nat.reduceSub, Nat.reduceAdd, Nat.reduceLT, Nat.reduceLeDiff, I.quiet, false_implies, implies_true, -List.reduceReplicate, AH.get_put, wrap_sub1 (show k < 4611686018427387904 by omega), h1, ld1_ef h1 o1i, hx]; exact hkk) ?_)
      ((with_reducible repeat first|apply EX.seq|apply EX.blk); refine EX.ret ?_; (with_reducible repeat first|apply nA|apply nB|apply nC|apply nD|apply nE|apply nF|apply nG (by decide)|apply nH|apply nI|apply nJ); refine ⟨_, rfl, ?_⟩; simp only [packV, upd, Nat.reduceEqDiff, reduceIte, if_true, if_false, Nat.one_ne_zero, Nat.zero_ne_one])
      refine ⟨rfl, ?_⟩
      show _ = h.put B (src l r)
      rw [src, h2]
  obtain ⟨_, _, g, rfl, rfl⟩ := k
  exact g
end
end Go.Proofs.Ythofdojknjhpgaa
set_option linter.unusedVariables false
set_option linter.unusedSimpArgs false
namespace Go.Proofs.Ythofdojknjhpgaa
open Go
def SmallP (ps : List (List Stg)) : Prop := ps.length ≤ 1000 ∧ ∀ p ∈ ps, p.length ≤ 1000 ∧ ∀ g ∈ p, 0 ≤ g.sec ∧ g.sec < 8
theorem goodB_of {ps : List (List Stg)} {xs : List Int} (hl : xs.length = ps.length) (hg : ∀ (i : Nat) (x : Int) (p : List Stg), xs[i]? = some x → ps[i]? = some p → -1 ≤ x ∧ x ≤ p.length) : goodB ps xs = true := by
  rw [goodB, decide_eq_true hl, Bool.true_and, List.all_eq_true]
  intro i hi
  have hi' := List.mem_range.1 hi
  have h1 := List.getElem?_eq_getElem hi'
  have h2 := List.getElem?_eq_getElem (show i < ps.length by omega)
  have := hg i _ _ h1 h2
  rw [goodAt, h1, h2]
  simp only [decide_eq_true this.1, decide_eq_true this.2, Bool.and_self]
theorem goodB_len {ps : List (List Stg)} {xs : List Int} (h : goodB ps xs = true) : xs.length = ps.length := by
  simp only [goodB, Bool.and_eq_true, decide_eq_true_eq] at h; exact h.1
/-- The result of a call, told otherwise. -/
theorem AC.wkR {P : Program} {f : FuncId} {args : List Value} {h h0 h' : AH} {v v0 : Value} (k : AC P f args h v h') (hw : Wk h.next (upd TE 0 v0) h0 (upd TE 0 v) h') : AC P f args h v0 h0 := by
  intro base w0 φ cargs w hr hv
  refine (k base w0 φ cargs w hr hv).mono ?_
  rintro e w' ⟨cv, ψ, rfl, g1, g2, g3, g4⟩
  have hst : St base w0 ψ 0 (upd TE 0 v) h' { tmps := #[cv], defers := [] } w' := by
    refine ⟨g4, fun t => ?_, rfl, Nat.zero_le _⟩
    by_cases ht : t = 0
    · subst ht; exact g3
    · have : upd TE 0 v t = .tuple #[] := by simp [upd, TE, ht]
      rw [this]; exact .any _
  obtain ⟨χ, a1, a2, a3⟩ := hw base w0 ψ 0 _ w' g2 hst
  exact ⟨cv, χ, rfl, g1.trans a1 (Nat.le_refl _), a2, a3.tr 0, a3.hr⟩
section
variable {h : AH}
/-- 'At'. -/
theorem f16_ok {ps : List (List Stg)} {l : List Int} (hs : SmallP ps) (hl : l.length < 4611686018427387904) : ∃ xs, goodB ps xs = true ∧ AC Go.Proofs.Try.prog 16 [L ps, L l] h (L xs) h := by
  by_cases hw : Wf h
  case neg =>
    exact ⟨ps.map fun _ => -1, goodB_of (by simp) (by
      intro i x p hx hp
      simp only [List.getElem?_map, hp, Option.map_some, Option.some.injEq] at hx
      omega), AC.wf fun hw' => absurd hw' hw⟩
  suffices k : EC Go.Proofs.Try.prog 16 [L ps, L l] h fun r h' => ∃ xs, r = L xs ∧ h' = h ∧ goodB ps xs = true by
    obtain ⟨_, _, g, xs, rfl, rfl, hg⟩ := k
    exact ⟨xs, hg, g⟩
  refine EC.intro f16_is ?_
  unfold f16_c
  (refine EX.rg (by intro KK hkk; unfold f16_r0; simp only [SX, Nat.reduceEqDiff, ↓reduceIte, Nat.reduceSub, Nat.reduceAdd, Nat.reduceLT, Nat.reduceLeDiff, I.quiet, false_implies, implies_true, -List.reduceReplicate]; exact hkk) ?_)
  (refine EX.rg (by intro KK hkk; unfold f16_r1; simp only [SX, Nat.reduceEqDiff, ↓reduceIte, Nat.reduceSub, Nat.reduceAdd, Nat.reduceLT, Nat.reduceLeDiff, I.quiet, false_implies, implies_true, -List.reduceReplicate]; refine RO_callE (f51_ok) ?_; simp only [SX, Nat.reduceEqDiff, ↓reduceIte, Nat.reduceSub, Nat.reduceAdd, Nat.reduceLT, Nat.reduceLeDiff, I.quiet, false_implies, implies_true, -List.reduceReplicate]; exact hkk) ?_)
  (refine EX.rg (by intro KK hkk; unfold f16_r2; simp only [SX, Nat.reduceEqDiff, ↓reduceIte, Nat.reduceSub, Nat.reduceAdd, Nat.reduceLT, Nat.reduceLeDiff, I.quiet, false_implies, implies_true, -List.reduceReplicate]; exact hkk) ?_)
  (refine EX.rg (by intro KK hkk; unfold f16_r3; simp only [SX, Nat.reduceEqDiff, ↓reduceIte, Nat.reduceSub, Nat.reduceAdd, Nat.reduceLT, Nat.reduceLeDiff, I.quiet, false_implies, implies_true, -List.reduceReplicate, new_app hw]; exact hkk) ?_)
  (refine EX.rg (by intro KK hkk; unfold f16_r4; simp only [SX, Nat.reduceEqDiff, ↓reduceIte, Nat.reduceSub, Nat.reduceAdd, Nat.reduceLT, Nat.reduceLeDiff, I.quiet, false_implies, implies_true, -List.reduceReplicate]; exact hkk) ?_)
  (with_reducible repeat first|apply EX.seq|apply EX.blk)
  refine EX.loop (σ := Nat × List Int × List Bool × List Int) (fun s => upd (upd (upd (upd (upd (upd TE 5 (.pointer (some ⟨h.next, 0, none⟩))) 6 (ow (h.next + 2) s.2.2.2.length)) 7 (.pointer (some ⟨h.next + 1, 0, none⟩))) 13 (L ps)) 14 (.int .i64 ps.length)) 15 (.int .i64 (s.1 : Nat)))
    (fun s => h.app [src l s.2.1, some (.row 81 1 (F s.2.2.1)), owb 3 s.2.2.2])
    (fun s => s.1 ≤ ps.length ∧ s.2.1 <:+ l ∧ s.2.2.1.length = 8 ∧ s.2.2.2.length = s.1 ∧ ∀ (i : Nat) (x : Int) (p : List Stg), s.2.2.2[i]? = some x → ps[i]? = some p → -1 ≤ x ∧ x ≤ p.length)
    (fun s => ps.length - s.1) (0, l, List.replicate 8 false, []) ⟨Nat.zero_le _, List.suffix_refl _, rfl, rfl, by simp⟩ ?_ ?_
  · refine Wk.app (bs0 := [_, _, none]) [0, 1, 2] hw (by decide) (.some (by simp only [Nat.sub_self]; rfl) RB.src (.some rfl RB.F (.none .nil))) ?_
    refine RVs.updc (RVs.updc (RVs.updc (RVs.upd (RVs.updc (RVs.upd RVs.nil (RV.ptr (rnm_00 rfl) (by simp only [List.length_cons, List.length_nil]; omega))) Cl.slice0 rfl) (RV.ptr (rnm_ij rfl) (by simp only [List.length_cons, List.length_nil]; omega))) L_cl rfl) Cl.int rfl) Cl.int rfl
  rintro ⟨k, rem, bs, xs⟩ ⟨hk, hrem, hbs, hxl, hgood⟩
  simp only at hk hrem hbs hxl hgood
  (refine EX.rg (by intro KK hkk; unfold f16_r5; simp only [SX, Nat.reduceEqDiff, ↓reduceIte, Nat.reduceSub, Nat.reduceAdd, Nat.reduceLT, Nat.reduceLeDiff, I.quiet, false_implies, implies_true, -List.reduceReplicate, lt_nat]; exact hkk) ?_)
  (with_reducible repeat first|apply EX.seq|apply EX.blk)
  refine EX.dec rfl (fun hlt => ?_) (fun hlt => ?_)
  · (refine EX.skip ?_; (with_reducible repeat first|apply nA|apply nB|apply nC|apply nD|apply nE|apply nF|apply nG (by decide)|apply nH|apply nI|apply nJ))
    obtain ⟨hp1, hp2⟩ := hs.2 ps[k] (List.getElem_mem _)
    (refine EX.rg (by intro KK hkk; unfold f16_r6; simp only [SX, Nat.reduceEqDiff, ↓reduceIte, Nat.reduceSub, Nat.reduceAdd, Nat.reduceLT, Nat.reduceLeDiff, I.quiet, false_implies, implies_true, -List.reduceReplicate, hlt, ld1_ef hlt o1l, rd_eq hlt]; exact hkk) ?_)
    generalize hpk : ps[k] = p at *
    have wr2 : IntKind.wrap .i64 ((p.length : Int) + 2) = (p.length : Int) + 2 := wrap_id (by omega) (by omega)
    have y0 := nx_ge rem (n := (p.length : Int) + 2) (by omega)
    have y1 := nx_lt rem (n := (p.length : Int) + 2) (by omega)
    have hrem2 := nx_suf (n := (p.length : Int) + 2) hrem
    have hc2 := f52_ok (h := h.app [src l rem, some (.row 81 1 (F bs)), owb 3 xs]) (n := (p.length : Int) + 2) app_get0 hrem hl hw.ro0 (by omega) (by omega)
    revert hc2 hrem2 y0 y1
    generalize nx rem ((p.length : Int) + 2) = q
    intro y0 y1 hrem2 hc2
    have wr3 : IntKind.wrap .i64 (q.1 - 1) = q.1 - 1 := wrap_id (by omega) (by omega)
    (refine EX.rg (by intro KK hkk; unfold f16_r7; simp only [SX, Nat.reduceEqDiff, ↓reduceIte, Nat.reduceSub, Nat.reduceAdd, Nat.reduceLT, Nat.reduceLeDiff, I.quiet, false_implies, implies_true, -List.reduceReplicate, wr2, wr3]; refine RO_callE (hc2) ?_; simp only [SX, Nat.reduceEqDiff, ↓reduceIte, Nat.reduceSub, Nat.reduceAdd, Nat.reduceLT, Nat.reduceLeDiff, I.quiet, false_implies, implies_true, -List.reduceReplicate, wr2, wr3]; exact hkk) ?_)
    refine EX.seqM (F := fun T1 H3 => ∃ (y : Int) (rem3 : List Int), rem3 <:+ l ∧ -1 ≤ y ∧ y ≤ p.length ∧ T1 5 = .pointer (some ⟨h.next, 0, none⟩) ∧ T1 6 = ow (h.next + 2) xs.length ∧ T1 7 = .pointer (some ⟨h.next + 1, 0, none⟩) ∧ T1 9 = L p ∧ T1 10 = .int .i64 y ∧ T1 13 = L ps ∧ T1 14 = .int .i64 ps.length ∧ T1 15 = .int .i64 (k : Nat) ∧ H3 = h.app [src l rem3, some (.row 81 1 (F bs)), owb 3 xs]) ?_ ?_
    · cases c1 : decide ((0 : Int) ≤ q.1 - 1) with
      | false =>
        have c1' := of_decide_eq_false c1
        (refine EX.rg (by intro KK hkk; unfold f16_r8; simp only [SX, Nat.reduceEqDiff, ↓reduceIte, Nat.reduceSub, Nat.reduceAdd, Nat.reduceLT, Nat.reduceLeDiff, I.quiet, false_implies, implies_true, -List.reduceReplicate, c1]; exact hkk) ?_)
        refine EX.condF rfl ?_
        refine EX.skip ?_
        exact ⟨rfl, q.1 - 1, q.2, hrem2, by omega, by omega, rfl, rfl, rfl, rfl, rfl, rfl, rfl, rfl, rfl⟩
      | true =>
      have c1' := of_decide_eq_true c1
      cases c2 : decide (q.1 - 1 < (p.length : Int)) with
      | false =>
        have c2' := of_decide_eq_false c2
        (refine EX.rg (by intro KK hkk; unfold f16_r8; simp only [SX, Nat.reduceEqDiff, ↓reduceIte, Nat.reduceSub, Nat.reduceAdd, Nat.reduceLT, Nat.reduceLeDiff, I.quiet, false_implies, implies_true, -List.reduceReplicate, c1, c2]; exact hkk) ?_)
        refine EX.condF rfl ?_
        refine EX.skip ?_
        exact ⟨rfl, q.1 - 1, q.2, hrem2, by omega, by omega, rfl, rfl, rfl, rfl, rfl, rfl, rfl, rfl, rfl⟩
      | true =>
      have c2' := of_decide_eq_true c2
      have hj : (q.1 - 1).toNat < p.length := by omega
      obtain ⟨b0, b1⟩ := hp2 _ (List.getElem_mem hj)
      have hbj : (p[(q.1 - 1).toNat].sec).toNat < bs.length := by omega
      cases ht : rd bs p[(q.1 - 1).toNat].sec.toNat with
      | false =>
        (refine EX.rg (by intro KK hkk; unfold f16_r8; simp only [SX, Nat.reduceEqDiff, ↓reduceIte, Nat.reduceSub, Nat.reduceAdd, Nat.reduceLT, Nat.reduceLeDiff, I.quiet, false_implies, implies_true, -List.reduceReplicate, c1, c2, c1', hj, w4s, ld1_ef hj (o4s (show 0 < 4 by decide)), cells_stg, rd_eq hj, iaa1_mk b0 b1, F_getb hbj, ht]; exact hkk) ?_)
        refine EX.condF rfl ?_
        refine EX.skip ?_
        exact ⟨rfl, q.1 - 1, q.2, hrem2, by omega, by omega, rfl, rfl, rfl, rfl, rfl, rfl, rfl, rfl, rfl⟩
      | true =>
        have hc3 := f52_ok (h := h.app [src l q.2, some (.row 81 1 (F bs)), owb 3 xs]) (n := 8) app_get0 hrem2 hl hw.ro0 (by omega) (by omega)
        have hrem3 := nx_suf (n := 8) hrem2
        (refine EX.rg (by intro KK hkk; unfold f16_r8; simp only [SX, Nat.reduceEqDiff, ↓reduceIte, Nat.reduceSub, Nat.reduceAdd, Nat.reduceLT, Nat.reduceLeDiff, I.quiet, false_implies, implies_true, -List.reduceReplicate, c1, c2, c1', hj, w4s, ld1_ef hj (o4s (show 0 < 4 by decide)), cells_stg, rd_eq hj, iaa1_mk b0 b1, F_getb hbj, ht]; refine RO_callE (hc3) ?_; simp only [SX, Nat.reduceEqDiff, ↓reduceIte, Nat.reduceSub, Nat.reduceAdd, Nat.reduceLT, Nat.reduceLeDiff, I.quiet, false_implies, implies_true, -List.reduceReplicate, c1, c2, c1', hj, w4s, ld1_ef hj (o4s (show 0 < 4 by decide)), cells_stg, rd_eq hj, iaa1_mk b0 b1, F_getb hbj, ht]; exact hkk) ?_)
        refine EX.dec rfl (fun hd => ?_) (fun hd => ?_)
        · refine EX.regx (by intro KK hkk; unfold f16_r9; simp only [SX, Nat.reduceEqDiff, ↓reduceIte, Nat.reduceSub, Nat.reduceAdd, Nat.reduceLT, Nat.reduceLeDiff, I.quiet, false_implies, implies_true, -List.reduceReplicate]; exact hkk) ?_
          exact ⟨rfl, -1, _, hrem3, by omega, by omega, rfl, rfl, rfl, rfl, rfl, rfl, rfl, rfl, rfl⟩
        · refine EX.skip ?_
          exact ⟨rfl, q.1 - 1, _, hrem3, by omega, by omega, rfl, rfl, rfl, rfl, rfl, rfl, rfl, rfl, rfl⟩
    · rintro T1 H3 ⟨y, rem3, hrem3, yl, yh, t5, t6, t7, t9, t10, t13, t14, t15, rfl⟩
      refine EX.seqM (F := fun T2 H4 => ∃ bs2 : List Bool, bs2.length = 8 ∧ T2 5 = .pointer (some ⟨h.next, 0, none⟩) ∧ T2 6 = ow (h.next + 2) xs.length ∧ T2 7 = .pointer (some ⟨h.next + 1, 0, none⟩) ∧ T2 10 = .int .i64 y ∧ T2 13 = L ps ∧ T2 14 = .int .i64 ps.length ∧ T2 15 = .int .i64 (k : Nat) ∧ H4 = h.app [src l rem3, some (.row 81 1 (F bs2)), owb 3 xs]) ?_ ?_
      · cases c1 : decide ((0 : Int) ≤ y) with
        | false =>
          (refine EX.rg (by intro KK hkk; unfold f16_r10; simp only [SX, Nat.reduceEqDiff, ↓reduceIte, Nat.reduceSub, Nat.reduceAdd, Nat.reduceLT, Nat.reduceLeDiff, I.quiet, false_implies, implies_true, -List.reduceReplicate, t10, c1]; exact hkk) ?_)
          refine EX.condF rfl ?_
          refine EX.skip ?_
          exact ⟨rfl, bs, hbs, t5, t6, t7, t10, t13, t14, t15, rfl⟩
        | true =>
        have c1' := of_decide_eq_true c1
        cases c2 : decide (y < (p.length : Int)) with
        | false =>
          (refine EX.rg (by intro KK hkk; unfold f16_r10; simp only [SX, Nat.reduceEqDiff, ↓reduceIte, Nat.reduceSub, Nat.reduceAdd, Nat.reduceLT, Nat.reduceLeDiff, I.quiet, false_implies, implies_true, -List.reduceReplicate, t10, c1, t9, c2]; exact hkk) ?_)
          refine EX.condF rfl ?_
          refine EX.skip ?_
          exact ⟨rfl, bs, hbs, t5, t6, t7, t10, t13, t14, t15, rfl⟩
        | true =>
          have c2' := of_decide_eq_true c2
          have hj : y.toNat < p.length := by omega
          obtain ⟨b0, b1⟩ := hp2 _ (List.getElem_mem hj)
          (refine EX.rg (by intro KK hkk; unfold f16_r10; simp only [SX, Nat.reduceEqDiff, ↓reduceIte, Nat.reduceSub, Nat.reduceAdd, Nat.reduceLT, Nat.reduceLeDiff, I.quiet, false_implies, implies_true, -List.reduceReplicate, t10, c1, t9, c2]; exact hkk) ?_)
          refine EX.condT rfl ?_
          refine EX.regx (by intro KK hkk; unfold f16_r11; simp only [SX, Nat.reduceEqDiff, ↓reduceIte, Nat.reduceSub, Nat.reduceAdd, Nat.reduceLT, Nat.reduceLeDiff, I.quiet, false_implies, implies_true, -List.reduceReplicate, t10, t9, t7, c1', hj, w4s, ld1_ef hj (o4s (show 0 < 4 by decide)), cells_stg, rd_eq hj, iaa1_mk b0 b1, stAt_Fb hw.roi (show p[y.toNat].sec.toNat < bs.length by omega)]; exact hkk) ?_
          exact ⟨rfl, _, by simpa using hbs, t5, t6, t7, t10, t13, t14, t15, rfl⟩
      · rintro T2 H4 ⟨bs2, hbs2, u5, u6, u7, u10, u13, u14, u15, rfl⟩
        have ap := app1_push (h := h) (i := 2) (j := 3) (t := 3) (t1 := 3) (bytes := 8) (bs := [src l rem3, some (.row 81 1 (F bs2)), owb 3 xs, some (.row 3 1 [.int .i64 y])]) (xs := xs) (x := y) w1i rfl rfl hw.ro (by have := hs.1; omega) (by have := hs.1; omega)
        (refine EX.rg (by intro KK hkk; unfold f16_r12; simp only [SX, Nat.reduceEqDiff, ↓reduceIte, Nat.reduceSub, Nat.reduceAdd, Nat.reduceLT, Nat.reduceLeDiff, I.quiet, false_implies, implies_true, -List.reduceReplicate, u6, u10, ap]; exact hkk) ?_)
        (refine EX.rg (by intro KK hkk; unfold f16_r13; simp only [SX, Nat.reduceEqDiff, ↓reduceIte, Nat.reduceSub, Nat.reduceAdd, Nat.reduceLT, Nat.reduceLeDiff, I.quiet, false_implies, implies_true, -List.reduceReplicate, u15, wrap_nat (show k < 4611686018427387904 by have := hs.1; omega)]; exact hkk) ?_)
        refine ⟨(k + 1, rem3, bs2, xs ++ [y]), ⟨by show k + 1 ≤ _; omega, hrem3, hbs2, by simp [hxl], ?_⟩, by show _ - (k + 1) < _ - k; omega, Wk.app (bs0 := [src l rem3, some (.row 81 1 (F bs2)), owb 3 (xs ++ [y])]) [0, 1, 4] hw (by decide) (.some rfl RB.src (.some rfl RB.F (.owb rfl .nil))) ?_⟩
        · intro i x p' hi hpi
          by_cases hik : i < k
          · rw [List.getElem?_append_left (by omega)] at hi
            exact hgood i x p' hi hpi
          · have hil := (List.getElem?_eq_some_iff.1 hi).1
            simp at hil
            obtain rfl : i = k := by omega
            rw [List.getElem?_append_right (by omega), hxl] at hi
            simp at hi
            rw [List.getElem?_eq_getElem hlt, hpk] at hpi
            cases hpi
            subst hi
            exact ⟨yl, yh⟩
        · refine RVs.updc (RVs.updc (RVs.updc (RVs.upd (RVs.upd (RVs.upd RVs.nil ?_) ?_) ?_) L_cl u13) Cl.int u14) Cl.int rfl
          · show RV _ _ _ (T2 5)
            rw [u5]; exact RV.ptr (rnm_00 rfl) (by simp only [List.length_cons, List.length_nil]; omega)
          · show RV _ _ _ (ow (h.next + 4) (xs.length + 1))
            exact RV.ow (rnm_ij rfl) (by simp only [List.length_cons, List.length_nil]; omega) (by simp)
          · show RV _ _ _ (T2 7)
            rw [u7]; exact RV.ptr (rnm_ij rfl) (by simp only [List.length_cons, List.length_nil]; omega)
  · (refine EX.exit ?_; (with_reducible repeat first|apply nA|apply nB|apply nC|apply nD|apply nE|apply nF|apply nG (by decide)|apply nH|apply nI|apply nJ))
    obtain rfl : k = ps.length := by omega
    (refine EX.rg (by intro KK hkk; unfold f16_r14; simp only [SX, Nat.reduceEqDiff, ↓reduceIte, Nat.reduceSub, Nat.reduceAdd, Nat.reduceLT, Nat.reduceLeDiff, I.quiet, false_implies, implies_true, -List.reduceReplicate]; exact hkk) ?_)
    refine EX.wk ?_ (Wk.retL (i := 2) (r := 4) (xs := xs) hw rfl (by have := hs.1; omega) rfl)
    ((with_reducible repeat first|apply EX.seq|apply EX.blk); refine EX.ret ?_; (with_reducible repeat first|apply nA|apply nB|apply nC|apply nD|apply nE|apply nF|apply nG (by decide)|apply nH|apply nI|apply nJ); refine ⟨_, rfl, ?_⟩; simp only [packV, upd, Nat.reduceEqDiff, reduceIte, if_true, if_false, Nat.one_ne_zero, Nat.zero_ne_one])
    exact ⟨xs, rfl, trivial, goodB_of hxl hgood⟩
end
end Go.Proofs.Ythofdojknjhpgaa
set_option linter.unusedVariables false
set_option linter.unusedSimpArgs false
namespace Go.Proofs.Ythofdojknjhpgaa
open Go
def SI (g : Stg) : Prop := (0 ≤ g.sec ∧ g.sec < 5) ∧ (0 ≤ g.min ∧ g.min < 20) ∧ (0 ≤ g.not ∧ g.not ≤ 58) ∧ (g.pts = [] ∨ g.pts = [5] ∨ g.pts = [6])
def PI (p : List Stg) : Prop := (∀ g ∈ p, SI g) ∧ ∀ (k : Nat) (a b : Stg), p[k]? = some a → p[k + 1]? = some b → a.sec ≠ b.sec
theorem PI.snoc {p : List Stg} {g : Stg} (h : PI p) (hg : SI g) (hd : ∀ a, p[p.length - 1]? = some a → a.sec ≠ g.sec) : PI (p ++ [g]) := by
  refine ⟨fun x hx => ?_, fun k a b ha hb => ?_⟩
  · rcases List.mem_append.1 hx with hx | hx
    · exact h.1 x hx
    · simp at hx; subst hx; exact hg
  · by_cases hk : k + 1 < p.length
    · rw [List.getElem?_append_left (by omega)] at ha
      rw [List.getElem?_append_left hk] at hb
      exact h.2 k a b ha hb
    · have hb' := (List.getElem?_eq_some_iff.1 hb).1
      simp at hb'
      have hk2 : k + 1 = p.length := by omega
      rw [List.getElem?_append_left (by omega)] at ha
      rw [List.getElem?_append_right (by omega), hk2] at hb
      simp at hb
      subst hb
      exact hd a (by rw [← hk2]; simpa using ha)
theorem PI.nil : PI [] := ⟨by simp, by simp⟩
theorem SI.stageB {g : Stg} (h : SI g) : stageB g = true := by
  obtain ⟨h1, h2, h3, h4⟩ := h
  have e1 : resB g.sec = true := decide_eq_true (by omega)
  have e2 : clockB g.min = true := decide_eq_true (by omega)
  have e3 : clockB g.not = true := decide_eq_true (by omega)
  have e4 : resB 5 = true := rfl
  have e5 : resB 6 = true := rfl
  have n5 : ¬ 5 = g.sec := by omega
  have n6 : ¬ 6 = g.sec := by omega
  rcases h4 with h4 | h4 | h4 <;> simp [Go.Proofs.Ythofdojknjhpgaa.stageB, h4, e1, e2, e3, e4, e5, n5, n6]
theorem PI.pathB {p : List Stg} (h : PI p) (h1 : 1 ≤ p.length) (h2 : p.length ≤ 4) : pathB p = true := by
  have h3 : p.length ≤ 64 := by omega
  simp only [Go.Proofs.Ythofdojknjhpgaa.pathB, decide_eq_true h1, decide_eq_true h3, Bool.true_and, List.all_eq_true]
  intro k hk
  have hk' := List.mem_range.1 hk
  simp only [stOk, List.getElem?_eq_getElem hk', (h.1 _ (List.getElem_mem hk')).stageB, Bool.true_and]
  by_cases hk0 : k = 0
  · simp [hk0]
  · have hk1 : k - 1 < p.length := by omega
    have := h.2 (k - 1) p[k - 1] p[k] (List.getElem?_eq_getElem hk1) (by rw [show k - 1 + 1 = k by omega]; exact List.getElem?_eq_getElem hk')
    simp [List.getElem?_eq_getElem hk1, this]
/-- What the maker of paths promises. -/
def MadeP (ps : List (List Stg)) : Prop := 1 ≤ ps.length ∧ ps.length ≤ 3 ∧ ∀ p ∈ ps, 1 ≤ p.length ∧ p.length ≤ 4 ∧ PI p
theorem MadeP.valid {ps : List (List Stg)} (h : MadeP ps) : validB ps = true := by
  have h1 : ps.length ≤ 10 := by have := h.2.1; omega
  have h2 : ps.all pathB = true := List.all_eq_true.2 fun p hp => (h.2.2 p hp).2.2.pathB (h.2.2 p hp).1 (h.2.2 p hp).2.1
  have h3 : clashB (secsOf ps) (ptsOf ps) = false := by
    rw [Bool.eq_false_iff]
    intro hc
    simp only [clashB, List.any_eq_true, Bool.and_eq_true, decide_eq_true_eq] at hc
    obtain ⟨r, _, hs, hp⟩ := hc
    simp only [secsOf, List.mem_flatMap, List.mem_map] at hs
    simp only [ptsOf, List.mem_flatMap] at hp
    obtain ⟨p, hp1, g, hg, he⟩ := hs
    obtain ⟨q, hq1, f, hf, hr⟩ := hp
    have s1 := ((h.2.2 p hp1).2.2.1 g hg).1
    have s2 := ((h.2.2 q hq1).2.2.1 f hf).2.2.2
    rcases s2 with s2 | s2 | s2 <;> rw [s2] at hr <;> simp at hr <;> omega
  simp [validB, h1, h2, h3]
theorem MadeP.small {ps : List (List Stg)} (h : MadeP ps) : SmallP ps :=
  ⟨by have := h.2.1; omega, fun p hp => ⟨by have := (h.2.2 p hp).2.1; omega, fun g hg => by have := ((h.2.2 p hp).2.2.1 g hg).1; omega⟩⟩
theorem cellAt_sec {t : TypeId} {p : List Stg} {k : Nat} (hk : k < p.length) : cellAt (owb t p) (k * 4) = some (.int .i64 (rd p k).sec) := by
  have := cellAt_owb (t := t) (o := 0) hk (o4s (show 0 < 4 by decide))
  rw [w4s, Nat.add_zero] at this; rw [this]; rfl
section
variable {h : AH}
set_option maxHeartbeats 4000000 in
/-- 'Paths'. -/
theorem f15_ok {l : List Int} (hl : l.length < 4611686018427387904) : ∃ ps, MadeP ps ∧ AC Go.Proofs.Try.prog 15 [L l] h (L ps) h := by
  by_cases hw : Wf h
  case neg =>
    refine ⟨[[⟨0, [], 0, 0⟩]], ⟨by simp, by simp, ?_⟩, AC.wf fun hw' => absurd hw' hw⟩
    intro p hp
    simp at hp; subst hp
    exact ⟨by simp, by simp, by simp [SI], by simp⟩
  suffices k : EC Go.Proofs.Try.prog 15 [L l] h fun r h' => ∃ ps, r = L ps ∧ h' = h ∧ MadeP ps by
    obtain ⟨_, _, g, ps, rfl, rfl, hg⟩ := k
    exact ⟨ps, hg, g⟩
  refine EC.intro f15_is ?_
  unfold f15_c
  (refine EX.rg (by intro KK hkk; unfold f15_r0; simp only [SX, Nat.reduceEqDiff, ↓reduceIte, Nat.reduceSub, Nat.reduceAdd, Nat.reduceLT, Nat.reduceLeDiff, I.quiet, false_implies, implies_true, -List.reduceReplicate]; exact hkk) ?_)
  (refine EX.rg (by intro KK hkk; unfold f15_r1; simp only [SX, Nat.reduceEqDiff, ↓reduceIte, Nat.reduceSub, Nat.reduceAdd, Nat.reduceLT, Nat.reduceLeDiff, I.quiet, false_implies, implies_true, -List.reduceReplicate, new_app hw]; refine RO_callE (f51_ok) ?_; simp only [SX, Nat.reduceEqDiff, ↓reduceIte, Nat.reduceSub, Nat.reduceAdd, Nat.reduceLT, Nat.reduceLeDiff, I.quiet, false_implies, implies_true, -List.reduceReplicate, new_app hw]; exact hkk) ?_)
  (refine EX.rg (by intro KK hkk; unfold f15_r2; simp only [SX, Nat.reduceEqDiff, ↓reduceIte, Nat.reduceSub, Nat.reduceAdd, Nat.reduceLT, Nat.reduceLeDiff, I.quiet, false_implies, implies_true, -List.reduceReplicate]; exact hkk) ?_)
  have hs0 : (h.app [some (Blk.row 130 0 [L l, .int .i64 0])]).get h.next = src l l := by rw [app_get0, src, Nat.sub_self]; rfl
  have hc0 := f52_ok (h := h.app [some (.row 130 0 [L l, .int .i64 0])]) (n := 3) hs0 (List.suffix_refl _) hl hw.ro0 (by omega) (by omega)
  have a0 := nx_ge l (n := 3) (by omega)
  have a1 := nx_lt l (n := 3) (by omega)
  have hr0 := nx_suf (n := 3) (List.suffix_refl l)
  revert hc0 a0 a1 hr0
  generalize nx l 3 = q0
  intro hc0 a0 a1 hr0
  obtain ⟨t0, ht0⟩ : ∃ t0 : Nat, 1 + q0.1 = (t0 : Int) := ⟨(1 + q0.1).toNat, by omega⟩
  have w0 : IntKind.wrap .i64 (1 + q0.1) = (t0 : Int) := by rw [wrap_id (by omega) (by omega)]; exact ht0
  (refine EX.rg (by intro KK hkk; unfold f15_r3; simp only [SX, Nat.reduceEqDiff, ↓reduceIte, Nat.reduceSub, Nat.reduceAdd, Nat.reduceLT, Nat.reduceLeDiff, I.quiet, false_implies, implies_true, -List.reduceReplicate, w0]; refine RO_callE (hc0) ?_; simp only [SX, Nat.reduceEqDiff, ↓reduceIte, Nat.reduceSub, Nat.reduceAdd, Nat.reduceLT, Nat.reduceLeDiff, I.quiet, false_implies, implies_true, -List.reduceReplicate, w0]; exact hkk) ?_)
  (with_reducible repeat first|apply EX.seq|apply EX.blk)
  refine EX.loop (σ := Nat × List Int × List (List Stg)) (fun s => upd (upd (upd TE 3 (.pointer (some ⟨h.next, 0, none⟩))) 4 (ow (h.next + 1) s.2.2.length)) 5 (.int .i64 (s.1 : Nat)))
    (fun s => h.app [src l s.2.1, owb 36 s.2.2]) (fun s => s.2.1 <:+ l ∧ s.2.2.length + s.1 = t0 ∧ ∀ p ∈ s.2.2, 1 ≤ p.length ∧ p.length ≤ 4 ∧ PI p) (fun s => s.1) (t0, q0.2, []) ⟨hr0, by simp, by simp⟩ ?_ ?_
  · refine Wk.app (bs0 := [src l q0.2, none]) [0, 1] hw (by decide) (.some rfl RB.src (.none .nil)) ?_
    refine RVs.updc (RVs.updc (RVs.upd RVs.nil (RV.ptr (rnm_00 rfl) (by simp only [List.length_cons, List.length_nil]; omega))) Cl.slice0 rfl) Cl.int rfl
  rintro ⟨t, rem, out⟩ ⟨hrem, hot, hall⟩
  simp only at hrem hot hall
  (refine EX.rg (by intro KK hkk; unfold f15_r4; simp only [SX, Nat.reduceEqDiff, ↓reduceIte, Nat.reduceSub, Nat.reduceAdd, Nat.reduceLT, Nat.reduceLeDiff, I.quiet, false_implies, implies_true, -List.reduceReplicate]; exact hkk) ?_)
  refine EX.dec rfl (fun hd => ?_) (fun hd => ?_)
  · (refine EX.skip ?_; (with_reducible repeat first|apply nA|apply nB|apply nC|apply nD|apply nE|apply nF|apply nG (by decide)|apply nH|apply nI|apply nJ))
    (refine EX.rg (by intro KK hkk; unfold f15_r5; simp only [SX, Nat.reduceEqDiff, ↓reduceIte, Nat.reduceSub, Nat.reduceAdd, Nat.reduceLT, Nat.reduceLeDiff, I.quiet, false_implies, implies_true, -List.reduceReplicate]; exact hkk) ?_)
    have hc0 := f52_ok (h := h.app [src l rem, owb 36 out]) (n := 4) app_get0 hrem hl hw.ro0 (by omega) (by omega)
    have b0 := nx_ge rem (n := 4) (by omega)
    have b1 := nx_lt rem (n := 4) (by omega)
    have hr1 := nx_suf (n := 4) hrem
    revert hc0 b0 b1 hr1
    generalize nx rem 4 = q1
    intro hc0 b0 b1 hr1
    obtain ⟨n0, hn0⟩ : ∃ n0 : Nat, 1 + q1.1 = (n0 : Int) := ⟨(1 + q1.1).toNat, by omega⟩
    have w1 : IntKind.wrap .i64 (1 + q1.1) = (n0 : Int) := by rw [wrap_id (by omega) (by omega)]; exact hn0
    (refine EX.rg (by intro KK hkk; unfold f15_r6; simp only [SX, Nat.reduceEqDiff, ↓reduceIte, Nat.reduceSub, Nat.reduceAdd, Nat.reduceLT, Nat.reduceLeDiff, I.quiet, false_implies, implies_true, -List.reduceReplicate, w1]; refine RO_callE (hc0) ?_; simp only [SX, Nat.reduceEqDiff, ↓reduceIte, Nat.reduceSub, Nat.reduceAdd, Nat.reduceLT, Nat.reduceLeDiff, I.quiet, false_implies, implies_true, -List.reduceReplicate, w1]; exact hkk) ?_)
    refine EX.cut (F := fun T1 H1 => ∃ (rem2 : List Int) (p : List Stg), rem2 <:+ l ∧ 1 ≤ p.length ∧ p.length ≤ 4 ∧ PI p ∧ T1 3 = .pointer (some ⟨h.next, 0, none⟩) ∧ T1 4 = ow (h.next + 1) out.length ∧ T1 5 = .int .i64 (t : Nat) ∧ T1 6 = ow (h.next + 2) p.length ∧ H1 = h.app [src l rem2, owb 36 out, owb 65 p]) ?_ ?_
    · (with_reducible repeat first|apply EX.seq|apply EX.blk)
      refine EX.loop (σ := Nat × List Int × List Stg) (fun s => upd (upd (upd (upd (upd TE 3 (.pointer (some ⟨h.next, 0, none⟩))) 4 (ow (h.next + 1) out.length)) 5 (.int .i64 (t : Nat))) 6 (ow (h.next + 2) s.2.2.length)) 7 (.int .i64 (s.1 : Nat)))
        (fun s => h.app [src l s.2.1, owb 36 out, owb 65 s.2.2]) (fun s => s.2.1 <:+ l ∧ s.2.2.length + s.1 = n0 ∧ PI s.2.2) (fun s => s.1) (n0, q1.2, []) ⟨hr1, by simp, PI.nil⟩ ?_ ?_
      · refine Wk.app (bs0 := [src l q1.2, owb 36 out, none]) [0, 1, 2] hw (by decide) (.some rfl RB.src (.owb rfl (.none .nil))) ?_
        refine RVs.updc (RVs.updc (RVs.updc (RVs.upd (RVs.upd RVs.nil (RV.ptr (rnm_00 rfl) (by simp only [List.length_cons, List.length_nil]; omega))) ?_) Cl.int rfl) Cl.slice0 rfl) Cl.int rfl
        show RV _ _ _ (ow (h.next + 1) out.length)
        exact RV.ow (rnm_ij rfl) (by simp only [List.length_cons, List.length_nil]; omega) rfl
      rintro ⟨n, rm, p⟩ ⟨hrm, hpn, hpi⟩
      simp only at hrm hpn hpi
      (refine EX.rg (by intro KK hkk; unfold f15_r7; simp only [SX, Nat.reduceEqDiff, ↓reduceIte, Nat.reduceSub, Nat.reduceAdd, Nat.reduceLT, Nat.reduceLeDiff, I.quiet, false_implies, implies_true, -List.reduceReplicate]; exact hkk) ?_)
      (with_reducible repeat first|apply EX.seq|apply EX.blk)
      refine EX.dec rfl (fun hdn => ?_) (fun hdn => ?_)
      · (refine EX.skip ?_; (with_reducible repeat first|apply nA|apply nB|apply nC|apply nD|apply nE|apply nF|apply nG (by decide)|apply nH|apply nI|apply nJ))
        have hca := f52_ok (h := h.app [src l rm, owb 36 out, owb 65 p]) (n := 5) app_get0 hrm hl hw.ro0 (by omega) (by omega)
        have c0 := nx_ge rm (n := 5) (by omega)
        have c1 := nx_lt rm (n := 5) (by omega)
        have hra := nx_suf (n := 5) hrm
        revert hca c0 c1 hra
        generalize nx rm 5 = qa
        intro hca c0 c1 hra
        have hcb := f52_ok (h := h.app [src l qa.2, owb 36 out, owb 65 p]) (n := 20) app_get0 hra hl hw.ro0 (by omega) (by omega)
        have d0 := nx_ge qa.2 (n := 20) (by omega)
        have d1 := nx_lt qa.2 (n := 20) (by omega)
        have hrb := nx_suf (n := 20) hra
        revert hcb d0 d1 hrb
        generalize nx qa.2 20 = qb
        intro hcb d0 d1 hrb
        have hcc := f52_ok (h := h.app [src l qb.2, owb 36 out, owb 65 p]) (n := 3) app_get0 hrb hl hw.ro0 (by omega) (by omega)
        have e0 := nx_ge qb.2 (n := 3) (by omega)
        have e1 := nx_lt qb.2 (n := 3) (by omega)
        have hrc := nx_suf (n := 3) hrb
        revert hcc e0 e1 hrc
        generalize nx qb.2 3 = qc
        intro hcc e0 e1 hrc
        have hcd := f52_ok (h := h.app [src l qc.2, owb 36 out, owb 65 p]) (n := 30) app_get0 hrc hl hw.ro0 (by omega) (by omega)
        have g0 := nx_ge qc.2 (n := 30) (by omega)
        have g1 := nx_lt qc.2 (n := 30) (by omega)
        have hrd := nx_suf (n := 30) hrc
        revert hcd g0 g1 hrd
        generalize nx qc.2 30 = qd
        intro hcd g0 g1 hrd
        have m0 : 0 ≤ qc.1 * qd.1 := Int.mul_nonneg e0 g0
        have m1 : qc.1 * qd.1 ≤ 58 := by
          have := Int.mul_le_mul (show qc.1 ≤ 2 by omega) (show qd.1 ≤ 29 by omega) g0 (by omega)
          omega
        (refine EX.rg (by intro KK hkk; unfold f15_r8; simp only [SX, Nat.reduceEqDiff, ↓reduceIte, Nat.reduceSub, Nat.reduceAdd, Nat.reduceLT, Nat.reduceLeDiff, I.quiet, false_implies, implies_true, -List.reduceReplicate, wrap_id (show -9223372036854775808 ≤ qc.1 * qd.1 by omega) (by omega), hw.roi, stAt_all]; refine RO_callE (hca) ?_; simp only [SX, Nat.reduceEqDiff, ↓reduceIte, Nat.reduceSub, Nat.reduceAdd, Nat.reduceLT, Nat.reduceLeDiff, I.quiet, false_implies, implies_true, -List.reduceReplicate, wrap_id (show -9223372036854775808 ≤ qc.1 * qd.1 by omega) (by omega), hw.roi, stAt_all]; refine RO_callE (hcb) ?_; simp only [SX, Nat.reduceEqDiff, ↓reduceIte, Nat.reduceSub, Nat.reduceAdd, Nat.reduceLT, Nat.reduceLeDiff, I.quiet, false_implies, implies_true, -List.reduceReplicate, wrap_id (show -9223372036854775808 ≤ qc.1 * qd.1 by omega) (by omega), hw.roi, stAt_all]; refine RO_callE (hcc) ?_; simp only [SX, Nat.reduceEqDiff, ↓reduceIte, Nat.reduceSub, Nat.reduceAdd, Nat.reduceLT, Nat.reduceLeDiff, I.quiet, false_implies, implies_true, -List.reduceReplicate, wrap_id (show -9223372036854775808 ≤ qc.1 * qd.1 by omega) (by omega), hw.roi, stAt_all]; refine RO_callE (hcd) ?_; simp only [SX, Nat.reduceEqDiff, ↓reduceIte, Nat.reduceSub, Nat.reduceAdd, Nat.reduceLT, Nat.reduceLeDiff, I.quiet, false_implies, implies_true, -List.reduceReplicate, wrap_id (show -9223372036854775808 ≤ qc.1 * qd.1 by omega) (by omega), hw.roi, stAt_all]; exact hkk) ?_)
        generalize qc.1 * qd.1 = nn at m0 m1
        refine EX.seqM (F := fun T1 H1 => ∃ s : Int, 0 ≤ s ∧ s < 5 ∧ (∀ a, p[p.length - 1]? = some a → a.sec ≠ s) ∧ T1 3 = .pointer (some ⟨h.next, 0, none⟩) ∧ T1 4 = ow (h.next + 1) out.length ∧ T1 5 = .int .i64 (t : Nat) ∧ T1 6 = ow (h.next + 2) p.length ∧ T1 7 = .int .i64 (n : Nat) ∧ T1 8 = .pointer (some ⟨h.next + 3, 0, none⟩) ∧ H1 = h.app [src l qd.2, owb 36 out, owb 65 p, some (.row 65 0 [.int .i64 s, .slice none 0 0, .int .i64 qb.1, .int .i64 nn])]) ?_ ?_
        · by_cases hp0 : p.length = 0
          · have z : decide ((0 : Int) < (p.length : Int)) = false := decide_eq_false (by omega)
            (refine EX.dg (by intro KK hkk; unfold f15_r9; simp only [SX, Nat.reduceEqDiff, ↓reduceIte, Nat.reduceSub, Nat.reduceAdd, Nat.reduceLT, Nat.reduceLeDiff, I.quiet, false_implies, implies_true, -List.reduceReplicate, z]; exact hkk) ?_)
            refine EX.condF rfl ?_
            refine EX.skip ?_
            refine ⟨rfl, qa.1, c0, c1, ?_, rfl, rfl, rfl, rfl, rfl, rfl, rfl⟩
            intro a ha
            have := (List.getElem?_eq_some_iff.1 ha).1
            omega
          · have hk : p.length - 1 < p.length := by omega
            have z : decide ((0 : Int) < (p.length : Int)) = true := decide_eq_true (by omega)
            have wr : IntKind.wrap .i64 ((p.length : Int) - 1) = ((p.length - 1 : Nat) : Int) := by rw [wrap_id (by omega) (by omega)]; omega
            (refine EX.dg (by intro KK hkk; unfold f15_r9; simp only [SX, Nat.reduceEqDiff, ↓reduceIte, Nat.reduceSub, Nat.reduceAdd, Nat.reduceLT, Nat.reduceLeDiff, I.quiet, false_implies, implies_true, -List.reduceReplicate, z, wr, hk, cellAt_sec hk]; exact hkk) ?_)
            refine EX.dec rfl (fun hs => ?_) (fun hs => ?_)
            · have hmod : (qa.1 + 1).tmod 5 = (qa.1 + 1) % 5 := Int.tmod_eq_emod_of_nonneg (by omega)
              refine EX.regx (by intro KK hkk; unfold f15_r10; simp only [SX, Nat.reduceEqDiff, ↓reduceIte, Nat.reduceSub, Nat.reduceAdd, Nat.reduceLT, Nat.reduceLeDiff, I.quiet, false_implies, implies_true, -List.reduceReplicate, wrap_id (show -9223372036854775808 ≤ qa.1 + 1 by omega) (by omega), vbin_rem (show (5 : Int) ≠ 0 by decide), hmod, stAt_row hw.roi]; exact hkk) ?_
              refine ⟨rfl, (qa.1 + 1) % 5, by omega, by omega, ?_, rfl, rfl, rfl, rfl, rfl, rfl, rfl⟩
              intro a ha
              rw [rd_eq hk] at hs
              rw [List.getElem?_eq_getElem hk] at ha
              cases ha
              omega
            · refine EX.skip ?_
              refine ⟨rfl, qa.1, c0, c1, ?_, rfl, rfl, rfl, rfl, rfl, rfl, rfl⟩
              intro a ha
              rw [rd_eq hk] at hs
              rw [List.getElem?_eq_getElem hk] at ha
              cases ha
              exact hs
        · rintro T1 H1 ⟨s, s0, s1, hlast, t3, t4, t5, t6, t7, t8, rfl⟩
          refine EX.seqM (F := fun T2 H2 => ∃ (rm2 : List Int) (pts : List Int), rm2 <:+ l ∧ (pts = [] ∨ pts = [5] ∨ pts = [6]) ∧ T2 3 = .pointer (some ⟨h.next, 0, none⟩) ∧ T2 4 = ow (h.next + 1) out.length ∧ T2 5 = .int .i64 (t : Nat) ∧ T2 6 = ow (h.next + 2) p.length ∧ T2 7 = .int .i64 (n : Nat) ∧ T2 8 = .pointer (some ⟨h.next + 3, 0, none⟩) ∧ H2 = h.app [src l rm2, owb 36 out, owb 65 p, some (.row 65 0 [.int .i64 s, L pts, .int .i64 qb.1, .int .i64 nn])]) ?_ ?_
          · have hce := f52_ok (h := h.app [src l qd.2, owb 36 out, owb 65 p, some (.row 65 0 [.int .i64 s, .slice none 0 0, .int .i64 qb.1, .int .i64 nn])]) (n := 4) app_get0 hrd hl hw.ro0 (by omega) (by omega)
            have hre := nx_suf (n := 4) hrd
            revert hce hre
            generalize nx qd.2 4 = qe
            intro hce hre
            (refine EX.rg (by intro KK hkk; unfold f15_r11; simp only [SX, Nat.reduceEqDiff, ↓reduceIte, Nat.reduceSub, Nat.reduceAdd, Nat.reduceLT, Nat.reduceLeDiff, I.quiet, false_implies, implies_true, -List.reduceReplicate, t3]; refine RO_callE (hce) ?_; simp only [SX, Nat.reduceEqDiff, ↓reduceIte, Nat.reduceSub, Nat.reduceAdd, Nat.reduceLT, Nat.reduceLeDiff, I.quiet, false_implies, implies_true, -List.reduceReplicate, t3]; exact hkk) ?_)
            refine EX.dec rfl (fun hz => ?_) (fun hz => ?_)
            · have hcf := f52_ok (h := h.app [src l qe.2, owb 36 out, owb 65 p, some (.row 65 0 [.int .i64 s, .slice none 0 0, .int .i64 qb.1, .int .i64 nn])]) (n := 2) app_get0 hre hl hw.ro0 (by omega) (by omega)
              have hrf := nx_suf (n := 2) hre
              have f0 := nx_ge qe.2 (n := 2) (by omega)
              have f1 := nx_lt qe.2 (n := 2) (by omega)
              revert hcf hrf f0 f1
              generalize nx qe.2 2 = qf
              intro hcf hrf f0 f1
              have ap2 : app1 3 1 8 (.slice none 0 0) (.slice (some ⟨h.next + 4, 0, none⟩) 1 1) (h.app [src l qf.2, owb 36 out, owb 65 p, some (.row 65 0 [.int .i64 s, .slice none 0 0, .int .i64 qb.1, .int .i64 nn]), some (.row 3 1 [.int .i64 (5 + qf.1)])]) = some (.slice (some ⟨h.next + 5, 0, none⟩) 1 1, h.app [src l qf.2, owb 36 out, owb 65 p, some (.row 65 0 [.int .i64 s, .slice none 0 0, .int .i64 qb.1, .int .i64 nn]), some (.row 3 1 [.int .i64 (5 + qf.1)]), some (.row 3 1 [.int .i64 (5 + qf.1)])]) := by
                simp [app1, AH.src, AH.row?, app_get, lenV, one, app_next, app_new]
              refine EX.wkR ?_
              refine EX.drwx (by
                intro KK hkk; unfold f15_r12
                simp only [SX, Nat.reduceEqDiff, ↓reduceIte, Nat.reduceSub, Nat.reduceAdd, Nat.reduceLT, Nat.reduceLeDiff, I.quiet, false_implies, implies_true, -List.reduceReplicate, t8, t3, RD_ldfw]
                refine RD_callE hcf (by simp only [AH.next_put]; exact Nat.le_refl _) ?_ ?_
                · intro pp hpp
                  simp only [List.mem_singleton] at hpp
                  subst hpp
                  simp only [step_ins, run_ld, ev_t, upd_app, Nat.reduceEqDiff, ↓reduceIte, ld1_ptr, app_put0, List.length_cons, Nat.zero_lt_succ, List.set_cons_zero, app_get, List.getElem?_cons_succ, List.getElem?_cons_zero, Option.join_some, cellAt_row, opt1_some]
                · simp only [SX, Nat.reduceEqDiff, ↓reduceIte, Nat.reduceSub, Nat.reduceAdd, Nat.reduceLT, Nat.reduceLeDiff, I.quiet, false_implies, implies_true, -List.reduceReplicate, t8, decP_2, decP_1, List.mem_singleton, forall_eq, step_ins, run_ld, wrap_id (show -9223372036854775808 ≤ 5 + qf.1 by omega) (by omega), AH.next_new, AH.next_put, Nat.le_refl, Nat.le_add_right, Nat.zero_lt_succ, ap2, stAt_row hw.roi]
                  exact hkk) ?_
              refine ⟨upd (upd (upd (upd (upd (upd TE 3 (.pointer (some ⟨h.next, 0, none⟩))) 4 (ow (h.next + 1) out.length)) 5 (.int .i64 (t : Nat))) 6 (ow (h.next + 2) p.length)) 7 (.int .i64 (n : Nat))) 8 (.pointer (some ⟨h.next + 3, 0, none⟩)), h.app [src l qf.2, owb 36 out, owb 65 p, some (.row 65 0 [.int .i64 s, L [5 + qf.1], .int .i64 qb.1, .int .i64 nn])], ?_, ⟨rfl, qf.2, [5 + qf.1], hrf, ?_, rfl, rfl, rfl, rfl, rfl, rfl, rfl⟩⟩
              · refine Wk.trans (Wk.frzApp (j := 5) (t := 3) (e := 1) (cs := [.int .i64 (5 + qf.1)]) (T0 := upd (upd (upd (upd (upd (upd TE 3 (.pointer (some ⟨h.next, 0, none⟩))) 4 (ow (h.next + 1) out.length)) 5 (.int .i64 (t : Nat))) 6 (ow (h.next + 2) p.length)) 7 (.int .i64 (n : Nat))) 8 (.pointer (some ⟨h.next + 3, 0, none⟩))) (bs' := [src l qf.2, owb 36 out, owb 65 p, some (.row 65 0 [.int .i64 s, L [5 + qf.1], .int .i64 qb.1, .int .i64 nn]), some (.row 3 1 [.int .i64 (5 + qf.1)]), none]) hw rfl rfl ?_ (FVs.upd (FVs.upd (FVs.upd (FVs.upd (FVs.upd (FVs.upd FVs.nil t3) t4) t5) t6) t7) t8)) (Wk.app (bs0 := [src l qf.2, owb 36 out, owb 65 p, some (.row 65 0 [.int .i64 s, L [5 + qf.1], .int .i64 qb.1, .int .i64 nn])]) [0, 1, 2, 3] hw (by decide) (.some rfl RB.src (.owb rfl (.owb rfl (.some rfl (RB.cl ?_) .nil)))) ?_)
                · intro i b0 hi
                  rcases i with _ | _ | _ | _ | _ | _ | i
                  · exact ⟨by decide, b0, hi, RB.same fun _ => FV.same⟩
                  · exact ⟨by decide, b0, hi, RB.same fun _ => FV.same⟩
                  · exact ⟨by decide, b0, hi, RB.same fun _ => FV.same⟩
                  · simp only [List.getElem?_cons_succ, List.getElem?_cons_zero, Option.some.injEq] at hi
                    subst hi
                    refine ⟨by decide, _, rfl, rfl, rfl, fun i v0 hv => ?_⟩
                    rcases i with _ | _ | _ | _ | i
                    · simp at hv; subst hv; exact ⟨_, rfl, FV.same⟩
                    · simp at hv; subst hv
                      exact ⟨_, rfl, .inr (.inr (.inr ⟨0, 1, 1, by decide, Nat.le_refl _, rfl, rfl⟩))⟩
                    · simp at hv; subst hv; exact ⟨_, rfl, FV.same⟩
                    · simp at hv; subst hv; exact ⟨_, rfl, FV.same⟩
                    · simp at hv
                  · exact ⟨by decide, b0, hi, RB.same fun _ => FV.same⟩
                  · simp at hi
                  · simp at hi
                · intro v hv
                  simp only [List.mem_cons, List.not_mem_nil, or_false] at hv
                  rcases hv with rfl | rfl | rfl | rfl
                  · exact Cl.int
                  · exact L_cl
                  · exact Cl.int
                  · exact Cl.int
                · refine RVs.upd (RVs.updc (RVs.upd (RVs.updc (RVs.upd (RVs.upd RVs.nil ?_) ?_) Cl.int rfl) ?_) Cl.int rfl) ?_
                  · exact RV.ptr (rnm_00 rfl) (by simp only [List.length_cons, List.length_nil]; omega)
                  · show RV _ _ _ (ow (h.next + 1) out.length)
                    exact RV.ow (rnm_ij rfl) (by simp only [List.length_cons, List.length_nil]; omega) rfl
                  · show RV _ _ _ (ow (h.next + 2) p.length)
                    exact RV.ow (rnm_ij rfl) (by simp only [List.length_cons, List.length_nil]; omega) rfl
                  · exact RV.ptr (rnm_ij rfl) (by simp only [List.length_cons, List.length_nil]; omega)
              · have : qf.1 = 0 ∨ qf.1 = 1 := by omega
                rcases this with e | e <;> rw [e] <;> simp
            · refine EX.wk (T0 := upd (upd (upd (upd (upd (upd TE 3 (.pointer (some ⟨h.next, 0, none⟩))) 4 (ow (h.next + 1) out.length)) 5 (.int .i64 (t : Nat))) 6 (ow (h.next + 2) p.length)) 7 (.int .i64 (n : Nat))) 8 (.pointer (some ⟨h.next + 3, 0, none⟩))) ?_ (Wk.app (bs0 := [src l qe.2, owb 36 out, owb 65 p, some (.row 65 0 [.int .i64 s, L ([] : List Int), .int .i64 qb.1, .int .i64 nn])]) [0, 1, 2, 3] hw (by decide) (.some rfl RB.src (.owb rfl (.owb rfl (.some rfl (RB.list ⟨Cl.int.rv, RV.nilL, Cl.int.rv, Cl.int.rv, trivial⟩) .nil)))) ?_)
              · refine EX.skip ?_
                exact ⟨rfl, qe.2, [], hre, .inl rfl, rfl, rfl, rfl, rfl, rfl, rfl, rfl⟩
              · refine RVs.upd (RVs.updc (RVs.upd (RVs.updc (RVs.upd (RVs.upd RVs.nil ?_) ?_) Cl.int t5) ?_) Cl.int t7) ?_
                · show RV _ _ _ (T1 3)
                  rw [t3]; exact RV.ptr (rnm_00 rfl) (by simp only [List.length_cons, List.length_nil]; omega)
                · show RV _ _ _ (T1 4)
                  rw [t4]; exact RV.ow (rnm_ij rfl) (by simp only [List.length_cons, List.length_nil]; omega) rfl
                · show RV _ _ _ (T1 6)
                  rw [t6]; exact RV.ow (rnm_ij rfl) (by simp only [List.length_cons, List.length_nil]; omega) rfl
                · show RV _ _ _ (T1 8)
                  rw [t8]; exact RV.ptr (rnm_ij rfl) (by simp only [List.length_cons, List.length_nil]; omega)
          · rintro T2 H2 ⟨rm2, pts, hrm2, hpts, u3, u4, u5, u6, u7, u8, rfl⟩
            have hsi : SI ⟨s, pts, qb.1, nn⟩ := ⟨⟨s0, s1⟩, ⟨d0, d1⟩, ⟨m0, m1⟩, hpts⟩
            have ap := app1_push (h := h) (i := 2) (j := 4) (t := 65) (t1 := 65) (bytes := 48) (xs := p) (x := ⟨s, pts, qb.1, nn⟩) (bs := [src l rm2, owb 36 out, owb 65 p, some (.row 65 0 [.int .i64 s, L pts, .int .i64 qb.1, .int .i64 nn]), some (.row 65 4 [.int .i64 s, L pts, .int .i64 qb.1, .int .i64 nn])]) w4s rfl rfl hw.ro (by omega) (by omega)
            (refine EX.rg (by intro KK hkk; unfold f15_r13; simp only [SX, Nat.reduceEqDiff, ↓reduceIte, Nat.reduceSub, Nat.reduceAdd, Nat.reduceLT, Nat.reduceLeDiff, I.quiet, false_implies, implies_true, -List.reduceReplicate, u6, u8, ldsAt_row, Nat.le_refl, fill1_agg, ap]; exact hkk) ?_)
            have wr : IntKind.wrap .i64 ((n : Int) - 1) = ((n - 1 : Nat) : Int) := by rw [wrap_id (by omega) (by omega)]; omega
            (refine EX.rg (by intro KK hkk; unfold f15_r14; simp only [SX, Nat.reduceEqDiff, ↓reduceIte, Nat.reduceSub, Nat.reduceAdd, Nat.reduceLT, Nat.reduceLeDiff, I.quiet, false_implies, implies_true, -List.reduceReplicate, u7, wr]; exact hkk) ?_)
            refine ⟨(n - 1, rm2, p ++ [⟨s, pts, qb.1, nn⟩]), ⟨hrm2, by simp; omega, hpi.snoc hsi hlast⟩, by show n - 1 < n; omega, Wk.app (bs0 := [src l rm2, owb 36 out, owb 65 (p ++ [⟨s, pts, qb.1, nn⟩])]) [0, 1, 5] hw (by decide) (.some rfl RB.src (.owb rfl (.owb rfl .nil))) ?_⟩
            refine RVs.updc (RVs.upd (RVs.updc (RVs.upd (RVs.upd RVs.nil ?_) ?_) Cl.int u5) ?_) Cl.int rfl
            · show RV _ _ _ (T2 3)
              rw [u3]; exact RV.ptr (rnm_00 rfl) (by simp only [List.length_cons, List.length_nil]; omega)
            · show RV _ _ _ (T2 4)
              rw [u4]; exact RV.ow (rnm_ij rfl) (by simp only [List.length_cons, List.length_nil]; omega) rfl
            · show RV _ _ _ (ow (h.next + 5) (p.length + 1))
              exact RV.ow (rnm_ij rfl) (by simp only [List.length_cons, List.length_nil]; omega) (by simp)
      · (refine EX.exit ?_; (with_reducible repeat first|apply nA|apply nB|apply nC|apply nD|apply nE|apply nF|apply nG (by decide)|apply nH|apply nI|apply nJ))
        obtain rfl : n = 0 := by omega
        exact ⟨rfl, rm, p, hrm, by omega, by omega, hpi, rfl, rfl, rfl, rfl, rfl⟩
    · rintro T1 H1 ⟨rem2, p, hrem2, hp1, hp2, hpi, t3, t4, t5, t6, rfl⟩
      (with_reducible repeat first|apply nA|apply nB|apply nC|apply nD|apply nE|apply nF|apply nG (by decide)|apply nH|apply nI|apply nJ)
      refine EX.wk (T0 := upd (upd (upd (upd TE 3 (.pointer (some ⟨h.next, 0, none⟩))) 4 (ow (h.next + 1) out.length)) 5 (.int .i64 (t : Nat))) 6 (L p)) ?_ (Wk.fzL (i := 2) hw rfl (by omega) ?_)
      · have ap := app1_push (h := h) (i := 1) (j := 3) (t := 36) (t1 := 36) (bytes := 24) (xs := out) (x := p) (bs := [src l rem2, owb 36 out, none, some (.row 36 1 [L p])]) w1l rfl rfl hw.ro (by omega) (by omega)
        (refine EX.rg (by intro KK hkk; unfold f15_r15; simp only [SX, Nat.reduceEqDiff, ↓reduceIte, Nat.reduceSub, Nat.reduceAdd, Nat.reduceLT, Nat.reduceLeDiff, I.quiet, false_implies, implies_true, -List.reduceReplicate, ap]; exact hkk) ?_)
        have wr : IntKind.wrap .i64 ((t : Int) - 1) = ((t - 1 : Nat) : Int) := by rw [wrap_id (by omega) (by omega)]; omega
        (refine EX.rg (by intro KK hkk; unfold f15_r16; simp only [SX, Nat.reduceEqDiff, ↓reduceIte, Nat.reduceSub, Nat.reduceAdd, Nat.reduceLT, Nat.reduceLeDiff, I.quiet, false_implies, implies_true, -List.reduceReplicate, wr]; exact hkk) ?_)
        refine ⟨(t - 1, rem2, out ++ [p]), ⟨hrem2, by simp; omega, ?_⟩, by show t - 1 < t; omega, Wk.app (bs0 := [src l rem2, owb 36 (out ++ [p])]) [0, 4] hw (by decide) (.some rfl RB.src (.owb rfl .nil)) ?_⟩
        · intro x hx
          rcases List.mem_append.1 hx with hx | hx
          · exact hall x hx
          · simp at hx; subst hx; exact ⟨hp1, hp2, hpi⟩
        · refine RVs.updc (RVs.upd (RVs.upd RVs.nil (RV.ptr (rnm_00 rfl) (by simp only [List.length_cons, List.length_nil]; omega))) ?_) Cl.int rfl
          show RV _ _ _ (ow (h.next + 4) (out.length + 1))
          exact RV.ow (rnm_ij rfl) (by simp only [List.length_cons, List.length_nil]; omega) (by simp)
      · intro j
        by_cases j3 : j = 3
        · subst j3; exact .inr (.inl t3.symm)
        by_cases j4 : j = 4
        · subst j4; exact .inr (.inl t4.symm)
        by_cases j5 : j = 5
        · subst j5; exact .inr (.inl t5.symm)
        by_cases j6 : j = 6
        · subst j6; exact .inr (.inr ⟨t6, rfl⟩)
        exact .inl (by simp [upd, TE, j3, j4, j5, j6])
  · (refine EX.exit ?_; (with_reducible repeat first|apply nA|apply nB|apply nC|apply nD|apply nE|apply nF|apply nG (by decide)|apply nH|apply nI|apply nJ))
    obtain rfl : t = 0 := by omega
    (refine EX.rg (by intro KK hkk; unfold f15_r17; simp only [SX, Nat.reduceEqDiff, ↓reduceIte, Nat.reduceSub, Nat.reduceAdd, Nat.reduceLT, Nat.reduceLeDiff, I.quiet, false_implies, implies_true, -List.reduceReplicate]; exact hkk) ?_)
    refine EX.wk ?_ (Wk.retL (i := 1) (r := 2) (xs := out) hw rfl (by omega) rfl)
    ((with_reducible repeat first|apply EX.seq|apply EX.blk); refine EX.ret ?_; (with_reducible repeat first|apply nA|apply nB|apply nC|apply nD|apply nE|apply nF|apply nG (by decide)|apply nH|apply nI|apply nJ); refine ⟨_, rfl, ?_⟩; simp only [packV, upd, Nat.reduceEqDiff, reduceIte, if_true, if_false, Nat.one_ne_zero, Nat.zero_ne_one])
    exact ⟨out, rfl, trivial, by omega, by omega, hall⟩
end
end Go.Proofs.Ythofdojknjhpgaa
