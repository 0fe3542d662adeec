/- Own texts, merged: a part of the proof that is told in the last text of this claim. -/
import Derived.Test.YthofdojknjhpgaaLawPVX
import Derived.Test.YthofdojknjhpgaaLawPVZR
set_option linter.unnecessarySimpa false
set_option linter.unusedSectionVars false
set_option linter.defProp false
set_option linter.unusedVariables false
set_option linter.unusedSimpArgs false
namespace Go.Proofs.Ythofdojknjhpgaa
open Go
section
variable {h : AH}
theorem many_cells {p0 : List Stg} {i : Nat} (hi : i < 11) : (List.replicate i (L p0) ++ List.replicate (11 - i) (Value.slice none 0 0)).set i (L p0) = List.replicate (i + 1) (L p0) ++ List.replicate (11 - (i + 1)) (Value.slice none 0 0) := by
  obtain ⟨m, hm⟩ : ∃ m, 11 - i = m + 1 := ⟨10 - i, by omega⟩
  rw [hm, show 11 - (i + 1) = m by omega, List.set_append_right _ _ (by simp)]
  simp only [List.length_replicate, Nat.sub_self, List.replicate_succ, List.set_cons_zero]
  rw [← List.replicate_succ, List.replicate_succ', List.append_assoc]
  rfl
theorem F_rep {p0 : List Stg} : ∀ n, F (List.replicate n p0) = List.replicate n (L p0)
  | 0 => rfl
  | n + 1 => by rw [List.replicate_succ, F_cons, F_rep n, List.replicate_succ]; rfl
theorem many_bad {p0 : List Stg} : validB (List.replicate 11 p0) = false := by
  unfold validB
  rw [decide_eq_false (by simp)]
  simp
/-- 'PrecedenceValid'. -/
theorem f5_ok {raw : List (List Stg)} {p : List Int} {how at' v : Int} (hp : p.length < 4611686018427387904) : AC Go.Proofs.Try.prog 5 [L raw, L p, .int .i64 how, .int .i64 at', .int .i64 v] h (.bool true) h := by
  refine AC.wf fun hw => AC.of_app hw Cl.bool ?_
  refine EC.intro f5_is ?_
  unfold f5_c
  obtain ⟨ps, hm, c15⟩ := f15_ok (h := h) hp
  obtain ⟨qs, c24⟩ := f24_ok (h := h) (how := how) (at' := at') (v := v) hm
  have hval := hm.valid
  have hpl := hm.1
  have hps0 : 0 < ps.length := hpl
  have hi0 : ∀ H : AH, ias1 1 (L ps) (.int .i64 0) H = some (ef ps 0 0, H) := fun H => ias1_L (xs := ps) (e := 1) (k := .i64) (j := 0) rfl (by decide) hps0
  have hz : zerosN [Value.slice none 0 0] 11 = List.replicate 11 (Value.slice none 0 0) := zeros_slices 11
  have hmk : mks1 36 1 24 [.slice none 0 0] (.int .i64 11) (.int .i64 11) h = some (.slice (some ⟨h.next, 0, none⟩) 11 11, h.new (.row 36 1 (List.replicate 11 (.slice none 0 0)))) := by
    have := mks1_nat (h := h) (t := 36) (e := 1) (bytes := 24) (m := 11) (z := [.slice none 0 0]) (k := .i64) (k' := .i64) (by decide) (by decide)
    rw [hz] at this; exact this
  ((with_reducible repeat first | refine EX.seq ?_ | refine EX.blk ?_); refine EX.regx (by intro KK hkk; unfold f5_r0; simp only [SX, Nat.reduceEqDiff, ↓reduceIte, Nat.reduceSub, Nat.reduceAdd, Nat.reduceLT, Nat.reduceLeDiff, I.quiet, false_implies, implies_true, -List.reduceReplicate]; exact hkk) ?_; (with_reducible repeat first | refine nA ?_ | refine nB ?_ | refine nC ?_ | refine nD ?_ | refine nE ?_ | refine nF ?_ | refine nG (by decide) ?_ | refine nH ?_ | refine nI ?_ | refine nJ ?_))
  ((with_reducible repeat first | refine EX.seq ?_ | refine EX.blk ?_); refine EX.regx (by intro KK hkk; unfold f5_r1; simp only [SX, Nat.reduceEqDiff, ↓reduceIte, Nat.reduceSub, Nat.reduceAdd, Nat.reduceLT, Nat.reduceLeDiff, I.quiet, false_implies, implies_true, -List.reduceReplicate]; refine RO_callvS (c15) ?_; simp only [SX, Nat.reduceEqDiff, ↓reduceIte, Nat.reduceSub, Nat.reduceAdd, Nat.reduceLT, Nat.reduceLeDiff, I.quiet, false_implies, implies_true, -List.reduceReplicate]; exact hkk) ?_; (with_reducible repeat first | refine nA ?_ | refine nB ?_ | refine nC ?_ | refine nD ?_ | refine nE ?_ | refine nF ?_ | refine nG (by decide) ?_ | refine nH ?_ | refine nI ?_ | refine nJ ?_))
  ((with_reducible repeat first | refine EX.seq ?_ | refine EX.blk ?_); refine EX.regx (by intro KK hkk; unfold f5_r2; simp only [SX, Nat.reduceEqDiff, ↓reduceIte, Nat.reduceSub, Nat.reduceAdd, Nat.reduceLT, Nat.reduceLeDiff, I.quiet, false_implies, implies_true, -List.reduceReplicate]; refine RO_callvS (c24) ?_; simp only [SX, Nat.reduceEqDiff, ↓reduceIte, Nat.reduceSub, Nat.reduceAdd, Nat.reduceLT, Nat.reduceLeDiff, I.quiet, false_implies, implies_true, -List.reduceReplicate]; exact hkk) ?_; (with_reducible repeat first | refine nA ?_ | refine nB ?_ | refine nC ?_ | refine nD ?_ | refine nE ?_ | refine nF ?_ | refine nG (by decide) ?_ | refine nH ?_ | refine nI ?_ | refine nJ ?_))
  ((with_reducible repeat first | refine EX.seq ?_ | refine EX.blk ?_); refine EX.regx (by intro KK hkk; unfold f5_r3; simp only [SX, Nat.reduceEqDiff, ↓reduceIte, Nat.reduceSub, Nat.reduceAdd, Nat.reduceLT, Nat.reduceLeDiff, I.quiet, false_implies, implies_true, -List.reduceReplicate, run_mks, hmk, new_app hw]; exact hkk) ?_; (with_reducible repeat first | refine nA ?_ | refine nB ?_ | refine nC ?_ | refine nD ?_ | refine nE ?_ | refine nF ?_ | refine nG (by decide) ?_ | refine nH ?_ | refine nI ?_ | refine nJ ?_))
  ((with_reducible repeat first | refine EX.seq ?_ | refine EX.blk ?_); refine EX.regx (by intro KK hkk; unfold f5_r4; simp only [SX, Nat.reduceEqDiff, ↓reduceIte, Nat.reduceSub, Nat.reduceAdd, Nat.reduceLT, Nat.reduceLeDiff, I.quiet, false_implies, implies_true, -List.reduceReplicate]; exact hkk) ?_; (with_reducible repeat first | refine nA ?_ | refine nB ?_ | refine nC ?_ | refine nD ?_ | refine nE ?_ | refine nF ?_ | refine nG (by decide) ?_ | refine nH ?_ | refine nI ?_ | refine nJ ?_))
  refine EX.nxtR (F := fun T1 H1 => T1 0 = L raw ∧ T1 11 = L ps ∧ T1 12 = L qs ∧ T1 13 = .slice (some ⟨h.next, 0, none⟩) 11 11 ∧ H1 = h.app [some (.row 36 1 (F (List.replicate 11 (rd ps 0))))]) ?_ ?_
  · (with_reducible repeat first | refine EX.seq ?_ | refine EX.blk ?_)
    refine EX.loop (σ := Nat) (fun i => upd (upd (upd (upd (upd (upd TE 0 (L raw)) 11 (L ps)) 12 (L qs)) 13 (.slice (some ⟨h.next, 0, none⟩) 11 11)) 24 (.int .i64 (11 : Nat))) 25 (.int .i64 (i : Nat))) (fun i => h.app [some (.row 36 1 (List.replicate i (L (rd ps 0)) ++ List.replicate (11 - i) (.slice none 0 0)))]) (fun i => i ≤ 11) (fun i => 11 - i) 0 (Nat.zero_le _) (Less.wk (by (repeat refine Less.upd ?_ (by rfl)); exact Less.nil)) ?_
    intro i hi
    ((with_reducible repeat first | refine EX.seq ?_ | refine EX.blk ?_); refine EX.regx (by intro KK hkk; unfold f5_r5; simp only [SX, Nat.reduceEqDiff, ↓reduceIte, Nat.reduceSub, Nat.reduceAdd, Nat.reduceLT, Nat.reduceLeDiff, I.quiet, false_implies, implies_true, -List.reduceReplicate, lt_nat]; exact hkk) ?_; (with_reducible repeat first | refine nA ?_ | refine nB ?_ | refine nC ?_ | refine nD ?_ | refine nE ?_ | refine nF ?_ | refine nG (by decide) ?_ | refine nH ?_ | refine nI ?_ | refine nJ ?_))
    (with_reducible repeat first | refine EX.seq ?_ | refine EX.blk ?_)
    refine EX.dec rfl (fun hlt => ?_) (fun hlt => ?_)
    · (refine EX.skip ?_; (with_reducible repeat first | refine nA ?_ | refine nB ?_ | refine nC ?_ | refine nD ?_ | refine nE ?_ | refine nF ?_ | refine nG (by decide) ?_ | refine nH ?_ | refine nI ?_ | refine nJ ?_))
      have hcl : i < (List.replicate i (L (rd ps 0)) ++ List.replicate (11 - i) (Value.slice none 0 0)).length := by simp; omega
      ((with_reducible repeat first | refine EX.seq ?_ | refine EX.blk ?_); refine EX.regx (by intro KK hkk; unfold f5_r6; simp only [SX, Nat.reduceEqDiff, ↓reduceIte, Nat.reduceSub, Nat.reduceAdd, Nat.reduceLT, Nat.reduceLeDiff, I.quiet, false_implies, implies_true, -List.reduceReplicate]; exact hkk) ?_; (with_reducible repeat first | refine nA ?_ | refine nB ?_ | refine nC ?_ | refine nD ?_ | refine nE ?_ | refine nF ?_ | refine nG (by decide) ?_ | refine nH ?_ | refine nI ?_ | refine nJ ?_))
      ((with_reducible repeat first | refine EX.seq ?_ | refine EX.blk ?_); refine EX.regx (by intro KK hkk; unfold f5_r7; simp only [SX, Nat.reduceEqDiff, ↓reduceIte, Nat.reduceSub, Nat.reduceAdd, Nat.reduceLT, Nat.reduceLeDiff, I.quiet, false_implies, implies_true, -List.reduceReplicate, hi0, ld1_ef hps0 o1l, ias1_own hlt, hw.ro0, stAt_row, hcl, many_cells hlt, Nat.lt_succ_self]; exact hkk) ?_; (with_reducible repeat first | refine nA ?_ | refine nB ?_ | refine nC ?_ | refine nD ?_ | refine nE ?_ | refine nF ?_ | refine nG (by decide) ?_ | refine nH ?_ | refine nI ?_ | refine nJ ?_))
      ((with_reducible repeat first | refine EX.seq ?_ | refine EX.blk ?_); refine EX.regx (by intro KK hkk; unfold f5_r8; simp only [SX, Nat.reduceEqDiff, ↓reduceIte, Nat.reduceSub, Nat.reduceAdd, Nat.reduceLT, Nat.reduceLeDiff, I.quiet, false_implies, implies_true, -List.reduceReplicate, wrap_nat (show i < 4611686018427387904 by omega)]; exact hkk) ?_; (with_reducible repeat first | refine nA ?_ | refine nB ?_ | refine nC ?_ | refine nD ?_ | refine nE ?_ | refine nF ?_ | refine nG (by decide) ?_ | refine nH ?_ | refine nI ?_ | refine nJ ?_))
      exact ⟨i + 1, hlt, by omega, Less.wk (by (repeat refine Less.upd ?_ (by rfl)); exact Less.nil)⟩
    · (refine EX.exit ?_; (with_reducible repeat first | refine nA ?_ | refine nB ?_ | refine nC ?_ | refine nD ?_ | refine nE ?_ | refine nF ?_ | refine nG (by decide) ?_ | refine nH ?_ | refine nI ?_ | refine nJ ?_))
      obtain rfl : i = 11 := by omega
      refine ⟨rfl, rfl, rfl, rfl, ?_⟩
      rw [F_rep]; rfl
  · rintro T1 H1 ⟨t0, t11, t12, t13, rfl⟩
    refine EX.wk (T0 := upd (upd (upd (upd TE 0 (L raw)) 11 (L ps)) 12 (L qs)) 13 (L (List.replicate 11 (rd ps 0)))) (h0 := h.app [none]) ?_ (Wk.frzApp (j := 0) hw rfl rfl (fun i b0 hi => ?_) (FVs.updF (FVs.upd (FVs.upd (FVs.upd FVs.nil t0) t11) t12) ?_))
    · have c26m := fun H : AH => f26_ok (h := H) (ps := List.replicate 11 (rd ps 0))
      rw [many_bad] at c26m
      have c26 := fun H : AH => f26_ok (h := H) (ps := ps)
      rw [hval] at c26
      have c26q := fun H : AH => f26_ok (h := H) (ps := qs)
      have c27q := fun H : AH => f27_ok (h := H) (ps := qs)
      have c26r := fun H : AH => f26_ok (h := H) (ps := raw)
      have c27r := fun H : AH => f27_ok (h := H) (ps := raw)
      generalize validB qs = b1 at *
      generalize validB raw = b2 at *
      have hbb1 : (b1 == b1) = true := by cases b1 <;> rfl
      have hbb2 : (b2 == b2) = true := by cases b2 <;> rfl
      (with_reducible repeat first | refine nA ?_ | refine nB ?_ | refine nC ?_ | refine nD ?_ | refine nE ?_ | refine nF ?_ | refine nG (by decide) ?_ | refine nH ?_ | refine nI ?_ | refine nJ ?_)
      (with_reducible repeat first | refine EX.seq ?_ | refine EX.blk ?_)
      refine EX.regx (by
        intro KK hkk; unfold f5_r9
        refine RO_callvS (f25_ok) ?_
        simp only [SX, Nat.reduceEqDiff, ↓reduceIte, Nat.reduceSub, Nat.reduceAdd, Nat.reduceLT, Nat.reduceLeDiff, I.quiet, false_implies, implies_true, -List.reduceReplicate]
        refine RO_callvS (c26 _) ?_
        simp only [SX, Nat.reduceEqDiff, ↓reduceIte, Nat.reduceSub, Nat.reduceAdd, Nat.reduceLT, Nat.reduceLeDiff, I.quiet, false_implies, implies_true, -List.reduceReplicate]
        refine RO_callvS (c26q _) ?_
        simp only [SX, Nat.reduceEqDiff, ↓reduceIte, Nat.reduceSub, Nat.reduceAdd, Nat.reduceLT, Nat.reduceLeDiff, I.quiet, false_implies, implies_true, -List.reduceReplicate]
        refine RO_callvS (c27q _) ?_
        simp only [SX, Nat.reduceEqDiff, ↓reduceIte, Nat.reduceSub, Nat.reduceAdd, Nat.reduceLT, Nat.reduceLeDiff, I.quiet, false_implies, implies_true, -List.reduceReplicate, hbb1]
        refine RO_callvS (c26r _) ?_
        simp only [SX, Nat.reduceEqDiff, ↓reduceIte, Nat.reduceSub, Nat.reduceAdd, Nat.reduceLT, Nat.reduceLeDiff, I.quiet, false_implies, implies_true, -List.reduceReplicate]
        refine RO_callvS (c27r _) ?_
        simp only [SX, Nat.reduceEqDiff, ↓reduceIte, Nat.reduceSub, Nat.reduceAdd, Nat.reduceLT, Nat.reduceLeDiff, I.quiet, false_implies, implies_true, -List.reduceReplicate, hbb2]
        refine RO_callvS (c26m _) ?_
        simp only [SX, Nat.reduceEqDiff, ↓reduceIte, Nat.reduceSub, Nat.reduceAdd, Nat.reduceLT, Nat.reduceLeDiff, I.quiet, false_implies, implies_true, -List.reduceReplicate]
        exact hkk) ?_
      (with_reducible repeat first | refine nA ?_ | refine nB ?_ | refine nC ?_ | refine nD ?_ | refine nE ?_ | refine nF ?_ | refine nG (by decide) ?_ | refine nH ?_ | refine nI ?_ | refine nJ ?_)
      ((with_reducible repeat first | refine EX.seq ?_ | refine EX.blk ?_); refine EX.ret ?_; (with_reducible repeat first | refine nA ?_ | refine nB ?_ | refine nC ?_ | refine nD ?_ | refine nE ?_ | refine nF ?_ | refine nG (by decide) ?_ | refine nH ?_ | refine nI ?_ | refine nJ ?_); refine ⟨_, rfl, ?_⟩; simp only [packV, upd, Nat.reduceEqDiff, reduceIte, if_true, if_false, Nat.one_ne_zero, Nat.zero_ne_one])
      exact ⟨trivial, _, rfl⟩
    · match i with
      | 0 => cases hi
      | i + 1 => simp at hi
    · rw [t13]
      refine .inr (.inr (.inr ⟨0, 11, 11, by decide, by rw [F_rep]; simp, rfl, ?_⟩))
      rw [F_rep]; rfl
end
end Go.Proofs.Ythofdojknjhpgaa
set_option linter.unusedVariables false
set_option linter.unusedSimpArgs false
namespace Go.Proofs.Ythofdojknjhpgaa
open Go Go.ChangeShapes Go.WideShapes Go.ChangeAt
def QStg (g : Stg) : Prop := I64 g.sec ∧ QL 8 I64 g.pts ∧ I64 g.min ∧ I64 g.not
theorem opn_int : Opn (α := Int) Go.Proofs.Try.prog 3 I64 := Opn.int Try.underlying3 (by kernel_rfl)
theorem opn_ints : Opn (α := List Int) Go.Proofs.Try.prog 22 (QL 8 I64) := opn_int.list Try.underlying22 (by kernel_rfl) (by kernel_rfl) (by decide)
theorem vrl_piece {φ : Phi} {n o : Nat} {v : Value} {cs : List Value} (h : VRL φ n [v] ((cs.drop o).take 1)) : ∃ c, cs[o]? = some c ∧ VR φ n v c := by
  obtain ⟨hl, hv⟩ := h
  cases hc : cs[o]? with
  | none =>
    rw [List.getElem?_eq_none_iff] at hc
    simp at hl; omega
  | some c =>
    refine ⟨c, rfl, hv 0 v c rfl ?_⟩
    rw [List.getElem?_take, if_pos (by decide), List.getElem?_drop, Nat.add_zero]; exact hc
theorem list4 {α : Type _} {xs : List α} (h : xs.length = 4) : ∃ a b c d, xs = [a, b, c, d] := by
  match xs, h with
  | [a, b, c, d], _ => exact ⟨a, b, c, d, rfl⟩
theorem opn_stg : Opn (α := Stg) Go.Proofs.Try.prog 65 QStg where
  w := by kernel_rfl
  op H enc W sp held fuel cs x h hsz := by
    obtain ⟨xs, n, rfl, rfl, hl, hxl, hf⟩ := DataW.trod_struct Try.underlying65 h
    have c3 : Go.Proofs.Try.prog.cellsOf 3 = 1 := by kernel_rfl
    have c22 : Go.Proofs.Try.prog.cellsOf 22 = 1 := by kernel_rfl
    have c65 : Go.Proofs.Try.prog.cellsOf 65 = 4 := by kernel_rfl
    obtain ⟨y0, y1, y2, y3, rfl⟩ := list4 hxl
    clear hxl
    have hw : ∀ (i : Nat) (f : TypeId) (y : DataW H × List MemPlace), [(3 : TypeId), 22, 3, 3][i]? = some f → [y0, y1, y2, y3][i]? = some y → ∀ m ∈ y.1.weights Go.Proofs.Try.prog f, m ≤ reachBytes := fun i f y h1 h2 m hm => by
      refine hsz m ?_
      simp only [DataW.weights, Try.underlying65]
      refine DataW.weights_mem_each (j := i) (t := f) (d := y.1) (by simpa using h1) ?_ m hm
      rw [List.getElem?_map, h2]; rfl
    have t0 : DataW.trod enc Go.Proofs.Try.prog W 0 sp held n 3 ((cs.drop 0).take (Go.Proofs.Try.prog.cellsOf 3)) = some y0 := hf 0 _ rfl
    rw [c3] at t0
    have t1 : DataW.trod enc Go.Proofs.Try.prog W 0 sp held n 22 ((cs.drop 1).take (Go.Proofs.Try.prog.cellsOf 22)) = some y1 := hf 1 _ rfl
    rw [c22] at t1
    have t2 : DataW.trod enc Go.Proofs.Try.prog W 0 sp held n 3 ((cs.drop 2).take (Go.Proofs.Try.prog.cellsOf 3)) = some y2 := hf 2 _ rfl
    rw [c3] at t2
    have t3 : DataW.trod enc Go.Proofs.Try.prog W 0 sp held n 3 ((cs.drop 3).take (Go.Proofs.Try.prog.cellsOf 3)) = some y3 := hf 3 _ rfl
    rw [c3] at t3
    obtain ⟨a0, q0, v0⟩ := opn_int.op H enc W sp held n _ y0 t0 (hw 0 3 y0 rfl rfl)
    obtain ⟨a1, q1, v1⟩ := opn_ints.op H enc W sp held n _ y1 t1 (hw 1 22 y1 rfl rfl)
    obtain ⟨a2, q2, v2⟩ := opn_int.op H enc W sp held n _ y2 t2 (hw 2 3 y2 rfl rfl)
    obtain ⟨a3, q3, v3⟩ := opn_int.op H enc W sp held n _ y3 t3 (hw 3 3 y3 rfl rfl)
    refine ⟨⟨a0, a1, a2, a3⟩, ⟨q0, q1, q2, q3⟩, fun k => ⟨by rw [hl, c65]; rfl, fun i a b h1 h2 => ?_⟩⟩
    obtain ⟨b0, g0, r0⟩ := vrl_piece (v0 k)
    obtain ⟨b1, g1, r1⟩ := vrl_piece (v1 k)
    obtain ⟨b2, g2, r2⟩ := vrl_piece (v2 k)
    obtain ⟨b3, g3, r3⟩ := vrl_piece (v3 k)
    match i with
    | 0 => rw [g0] at h2; cases h2; cases h1; exact r0
    | 1 => rw [g1] at h2; cases h2; cases h1; exact r1
    | 2 => rw [g2] at h2; cases h2; cases h1; exact r2
    | 3 => rw [g3] at h2; cases h2; cases h1; exact r3
    | i + 4 => simp [cells_stg] at h1
theorem opn_path : Opn (α := List Stg) Go.Proofs.Try.prog 36 (QL 48 QStg) := opn_stg.list Try.underlying36 (by kernel_rfl) (by kernel_rfl) (by decide)
theorem opn_paths : Opn (α := List (List Stg)) Go.Proofs.Try.prog 23 (QL 24 (QL 48 QStg)) := opn_path.list Try.underlying23 (by kernel_rfl) (by kernel_rfl) (by decide)
theorem PrecedenceValid_ac (raw : List (List Stg)) (hraw : QL 24 (QL 48 QStg) raw) (p : List Int) (hp : p.length < 4611686018427387904) (how : Int) (_ : I64 how) (at' : Int) (_ : I64 at') (v : Int) (_ : I64 v) : AC Go.Proofs.Try.prog 5 [L raw, L p, .int .i64 how, .int .i64 at', .int .i64 v] hE (.bool true) hE := f5_ok hp
end Go.Proofs.Ythofdojknjhpgaa
