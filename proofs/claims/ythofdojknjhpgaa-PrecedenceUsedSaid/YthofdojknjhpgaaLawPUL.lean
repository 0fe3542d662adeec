/- Own texts, merged: a part of the proof that is told in the last text of this claim. -/
import Derived.Test.YthofdojknjhpgaaLawPUC
import Derived.Test.YthofdojknjhpgaaLawPUK
set_option linter.unnecessarySimpa false
set_option linter.unusedSectionVars false
set_option linter.defProp false
set_option linter.unusedVariables false
set_option linter.unusedSimpArgs false
namespace Go.Proofs.Ythofdojknjhpgaa
open Go
def sgn (x y : Int) : Int := if x < y then -1 else if y < x then 1 else 0
/-- The order of references. -/
def rcmp (a b : Int × Int) : Int := if sgn a.1 b.1 ≠ 0 then sgn a.1 b.1 else sgn a.2 b.2
def rvA (x : Int × Int) : Value := .agg #[.int .i64 x.1, .int .i64 x.2]
section
variable {h : AH}
/-- 'cmp.Compare'. -/
theorem f89_ok {x y : Int} : AC Go.Proofs.Try.prog 89 [.int .i64 x, .int .i64 y] h (.int .i64 (sgn x y)) h := by
  refine AC.of_ec (EC.intro f89_is ?_)
  unfold f89_c
  (refine EX.rg (by intro KK hkk; unfold f89_r0; simp only [SX, Nat.reduceEqDiff, ↓reduceIte, Nat.reduceSub, Nat.reduceAdd, Nat.reduceLT, Nat.reduceLeDiff, I.quiet, false_implies, implies_true, -List.reduceReplicate]; exact hkk) ?_)
  (refine EX.rg (by intro KK hkk; unfold f89_r1; simp only [SX, Nat.reduceEqDiff, ↓reduceIte, Nat.reduceSub, Nat.reduceAdd, Nat.reduceLT, Nat.reduceLeDiff, I.quiet, false_implies, implies_true, -List.reduceReplicate]; refine RO_callvS (f110_ok) ?_; simp only [SX, Nat.reduceEqDiff, ↓reduceIte, Nat.reduceSub, Nat.reduceAdd, Nat.reduceLT, Nat.reduceLeDiff, I.quiet, false_implies, implies_true, -List.reduceReplicate]; exact hkk) ?_)
  (refine EX.rg (by intro KK hkk; unfold f89_r2; simp only [SX, Nat.reduceEqDiff, ↓reduceIte, Nat.reduceSub, Nat.reduceAdd, Nat.reduceLT, Nat.reduceLeDiff, I.quiet, false_implies, implies_true, -List.reduceReplicate]; refine RO_callvS (f110_ok) ?_; simp only [SX, Nat.reduceEqDiff, ↓reduceIte, Nat.reduceSub, Nat.reduceAdd, Nat.reduceLT, Nat.reduceLeDiff, I.quiet, false_implies, implies_true, -List.reduceReplicate]; exact hkk) ?_)
  (refine EX.rg (by intro KK hkk; unfold f89_r3; simp only [SX, Nat.reduceEqDiff, ↓reduceIte, Nat.reduceSub, Nat.reduceAdd, Nat.reduceLT, Nat.reduceLeDiff, I.quiet, false_implies, implies_true, -List.reduceReplicate]; exact hkk) ?_)
  refine EX.condF rfl ?_
  (refine EX.skip ?_; (with_reducible repeat first|apply nA|apply nB|apply nC|apply nD|apply nE|apply nF|apply nG (by decide)|apply nH|apply nI|apply nJ))
  (refine EX.rg (by intro KK hkk; unfold f89_r7; simp only [SX, Nat.reduceEqDiff, ↓reduceIte, Nat.reduceSub, Nat.reduceAdd, Nat.reduceLT, Nat.reduceLeDiff, I.quiet, false_implies, implies_true, -List.reduceReplicate]; exact hkk) ?_)
  refine EX.condF rfl ?_
  (refine EX.skip ?_; (with_reducible repeat first|apply nA|apply nB|apply nC|apply nD|apply nE|apply nF|apply nG (by decide)|apply nH|apply nI|apply nJ))
  (refine EX.rg (by intro KK hkk; unfold f89_r9; simp only [SX, Nat.reduceEqDiff, ↓reduceIte, Nat.reduceSub, Nat.reduceAdd, Nat.reduceLT, Nat.reduceLeDiff, I.quiet, false_implies, implies_true, -List.reduceReplicate]; exact hkk) ?_)
  refine EX.dec rfl (fun h1 => ?_) (fun h1 => ?_)
  · (refine EX.rg (by intro KK hkk; unfold f89_r10; simp only [SX, Nat.reduceEqDiff, ↓reduceIte, Nat.reduceSub, Nat.reduceAdd, Nat.reduceLT, Nat.reduceLeDiff, I.quiet, false_implies, implies_true, -List.reduceReplicate]; exact hkk) ?_)
    ((with_reducible repeat first|apply EX.seq|apply EX.blk); refine EX.ret ?_; (with_reducible repeat first|apply nA|apply nB|apply nC|apply nD|apply nE|apply nF|apply nG (by decide)|apply nH|apply nI|apply nJ); refine ⟨_, rfl, ?_⟩; simp only [packV, upd, Nat.reduceEqDiff, reduceIte, if_true, if_false, Nat.one_ne_zero, Nat.zero_ne_one])
    rw [sgn, if_pos h1]; exact ⟨rfl, trivial⟩
  · (refine EX.skip ?_; (with_reducible repeat first|apply nA|apply nB|apply nC|apply nD|apply nE|apply nF|apply nG (by decide)|apply nH|apply nI|apply nJ))
    (refine EX.rg (by intro KK hkk; unfold f89_r11; simp only [SX, Nat.reduceEqDiff, ↓reduceIte, Nat.reduceSub, Nat.reduceAdd, Nat.reduceLT, Nat.reduceLeDiff, I.quiet, false_implies, implies_true, -List.reduceReplicate]; exact hkk) ?_)
    refine EX.dec rfl (fun h2 => ?_) (fun h2 => ?_)
    · (refine EX.rg (by intro KK hkk; unfold f89_r12; simp only [SX, Nat.reduceEqDiff, ↓reduceIte, Nat.reduceSub, Nat.reduceAdd, Nat.reduceLT, Nat.reduceLeDiff, I.quiet, false_implies, implies_true, -List.reduceReplicate]; exact hkk) ?_)
      ((with_reducible repeat first|apply EX.seq|apply EX.blk); refine EX.ret ?_; (with_reducible repeat first|apply nA|apply nB|apply nC|apply nD|apply nE|apply nF|apply nG (by decide)|apply nH|apply nI|apply nJ); refine ⟨_, rfl, ?_⟩; simp only [packV, upd, Nat.reduceEqDiff, reduceIte, if_true, if_false, Nat.one_ne_zero, Nat.zero_ne_one])
      rw [sgn, if_neg h1, if_pos h2]; exact ⟨rfl, trivial⟩
    · (refine EX.skip ?_; (with_reducible repeat first|apply nA|apply nB|apply nC|apply nD|apply nE|apply nF|apply nG (by decide)|apply nH|apply nI|apply nJ))
      (refine EX.rg (by intro KK hkk; unfold f89_r13; simp only [SX, Nat.reduceEqDiff, ↓reduceIte, Nat.reduceSub, Nat.reduceAdd, Nat.reduceLT, Nat.reduceLeDiff, I.quiet, false_implies, implies_true, -List.reduceReplicate]; exact hkk) ?_)
      ((with_reducible repeat first|apply EX.seq|apply EX.blk); refine EX.ret ?_; (with_reducible repeat first|apply nA|apply nB|apply nC|apply nD|apply nE|apply nF|apply nG (by decide)|apply nH|apply nI|apply nJ); refine ⟨_, rfl, ?_⟩; simp only [packV, upd, Nat.reduceEqDiff, reduceIte, if_true, if_false, Nat.one_ne_zero, Nat.zero_ne_one])
      rw [sgn, if_neg h1, if_neg h2]; exact ⟨rfl, trivial⟩
/-- 'cmp.Or' of two. -/
theorem f100_ok {B : Nat} {x y : Int} (hB : h.get B = some (.row 3 1 [.int .i64 x, .int .i64 y])) : AC Go.Proofs.Try.prog 100 [.slice (some ⟨B, 0, none⟩) 2 2] h (.int .i64 (if x ≠ 0 then x else y)) h := by
  refine AC.of_ec (EC.intro f100_is ?_)
  unfold f100_c
  (refine EX.rg (by intro KK hkk; unfold f100_r0; simp only [SX, Nat.reduceEqDiff, ↓reduceIte, Nat.reduceSub, Nat.reduceAdd, Nat.reduceLT, Nat.reduceLeDiff, I.quiet, false_implies, implies_true, -List.reduceReplicate]; exact hkk) ?_)
  (refine EX.rg (by intro KK hkk; unfold f100_r1; simp only [SX, Nat.reduceEqDiff, ↓reduceIte, Nat.reduceSub, Nat.reduceAdd, Nat.reduceLT, Nat.reduceLeDiff, I.quiet, false_implies, implies_true, -List.reduceReplicate]; exact hkk) ?_)
  (refine EX.rg (by intro KK hkk; unfold f100_r2; simp only [SX, Nat.reduceEqDiff, ↓reduceIte, Nat.reduceSub, Nat.reduceAdd, Nat.reduceLT, Nat.reduceLeDiff, I.quiet, false_implies, implies_true, -List.reduceReplicate]; exact hkk) ?_)
  (with_reducible repeat first|apply EX.seq|apply EX.blk)
  refine EX.loop (σ := Nat) (fun i => upd (upd (upd (upd TE 3 (.int .i64 0)) 6 (.slice (some ⟨B, 0, none⟩) 2 2)) 7 (.int .i64 2)) 8 (.int .i64 (i : Nat))) (fun _ => h) (fun i => i ≤ 2 ∧ (1 ≤ i → x = 0) ∧ (2 ≤ i → y = 0)) (fun i => 2 - i) 0 ⟨by decide, by simp, by simp⟩ (Less.wk (by (repeat refine Less.upd ?_ (by rfl)); exact Less.nil)) ?_
  rintro i ⟨hi, hx, hy⟩
  have rdv : ∀ (z : Int) (k : Nat), k < 2 → (if k = 0 then x else y) = z → True := fun _ _ _ _ => trivial
  match i, hi with
  | 0, _ =>
    (refine EX.rg (by intro KK hkk; unfold f100_r3; simp only [SX, Nat.reduceEqDiff, ↓reduceIte, Nat.reduceSub, Nat.reduceAdd, Nat.reduceLT, Nat.reduceLeDiff, I.quiet, false_implies, implies_true, -List.reduceReplicate, show decide ((((0 : Nat) : Int)) < 2) = true from rfl]; exact hkk) ?_)
    (with_reducible repeat first|apply EX.seq|apply EX.blk)
    refine EX.condT rfl ?_
    (refine EX.skip ?_; (with_reducible repeat first|apply nA|apply nB|apply nC|apply nD|apply nE|apply nF|apply nG (by decide)|apply nH|apply nI|apply nJ))
    have s1 := ias1_sl (h := h) (B := B) (n := 2) (m := 2) (k := .i64) (j := ((0 : Nat) : Int)) (by decide) (by decide)
    simp only [Int.toNat_natCast] at s1
    (refine EX.rg (by intro KK hkk; unfold f100_r4; simp only [SX, Nat.reduceEqDiff, ↓reduceIte, Nat.reduceSub, Nat.reduceAdd, Nat.reduceLT, Nat.reduceLeDiff, I.quiet, false_implies, implies_true, -List.reduceReplicate, s1, hB]; exact hkk) ?_)
    (refine EX.rg (by intro KK hkk; unfold f100_r5; simp only [SX, Nat.reduceEqDiff, ↓reduceIte, Nat.reduceSub, Nat.reduceAdd, Nat.reduceLT, Nat.reduceLeDiff, I.quiet, false_implies, implies_true, -List.reduceReplicate]; exact hkk) ?_)
    refine EX.dec rfl (fun hd => ?_) (fun hd => ?_)
    · (refine EX.rg (by intro KK hkk; unfold f100_r6; simp only [SX, Nat.reduceEqDiff, ↓reduceIte, Nat.reduceSub, Nat.reduceAdd, Nat.reduceLT, Nat.reduceLeDiff, I.quiet, false_implies, implies_true, -List.reduceReplicate]; exact hkk) ?_)
      ((with_reducible repeat first|apply EX.seq|apply EX.blk); refine EX.ret ?_; (with_reducible repeat first|apply nA|apply nB|apply nC|apply nD|apply nE|apply nF|apply nG (by decide)|apply nH|apply nI|apply nJ); refine ⟨_, rfl, ?_⟩; simp only [packV, upd, Nat.reduceEqDiff, reduceIte, if_true, if_false, Nat.one_ne_zero, Nat.zero_ne_one])
      rw [if_pos hd]; exact ⟨rfl, trivial⟩
    · (refine EX.skip ?_; (with_reducible repeat first|apply nA|apply nB|apply nC|apply nD|apply nE|apply nF|apply nG (by decide)|apply nH|apply nI|apply nJ))
      (refine EX.rg (by intro KK hkk; unfold f100_r7; simp only [SX, Nat.reduceEqDiff, ↓reduceIte, Nat.reduceSub, Nat.reduceAdd, Nat.reduceLT, Nat.reduceLeDiff, I.quiet, false_implies, implies_true, -List.reduceReplicate, show IntKind.wrap .i64 (((0 : Nat) : Int) + 1) = ((1 : Nat) : Int) from rfl]; exact hkk) ?_)
      exact ⟨1, ⟨by decide, fun _ => Decidable.byContradiction hd, fun h => by omega⟩, by decide, Less.wk (by (repeat refine Less.upd ?_ (by rfl)); exact Less.nil)⟩
  | 1, _ =>
    (refine EX.rg (by intro KK hkk; unfold f100_r3; simp only [SX, Nat.reduceEqDiff, ↓reduceIte, Nat.reduceSub, Nat.reduceAdd, Nat.reduceLT, Nat.reduceLeDiff, I.quiet, false_implies, implies_true, -List.reduceReplicate, show decide ((((1 : Nat) : Int)) < 2) = true from rfl]; exact hkk) ?_)
    (with_reducible repeat first|apply EX.seq|apply EX.blk)
    refine EX.condT rfl ?_
    (refine EX.skip ?_; (with_reducible repeat first|apply nA|apply nB|apply nC|apply nD|apply nE|apply nF|apply nG (by decide)|apply nH|apply nI|apply nJ))
    have s1 := ias1_sl (h := h) (B := B) (n := 2) (m := 2) (k := .i64) (j := ((1 : Nat) : Int)) (by decide) (by decide)
    simp only [Int.toNat_natCast] at s1
    (refine EX.rg (by intro KK hkk; unfold f100_r4; simp only [SX, Nat.reduceEqDiff, ↓reduceIte, Nat.reduceSub, Nat.reduceAdd, Nat.reduceLT, Nat.reduceLeDiff, I.quiet, false_implies, implies_true, -List.reduceReplicate, s1, hB]; exact hkk) ?_)
    (refine EX.rg (by intro KK hkk; unfold f100_r5; simp only [SX, Nat.reduceEqDiff, ↓reduceIte, Nat.reduceSub, Nat.reduceAdd, Nat.reduceLT, Nat.reduceLeDiff, I.quiet, false_implies, implies_true, -List.reduceReplicate]; exact hkk) ?_)
    have hx0 := hx (Nat.le_refl _)
    refine EX.dec rfl (fun hd => ?_) (fun hd => ?_)
    · (refine EX.rg (by intro KK hkk; unfold f100_r6; simp only [SX, Nat.reduceEqDiff, ↓reduceIte, Nat.reduceSub, Nat.reduceAdd, Nat.reduceLT, Nat.reduceLeDiff, I.quiet, false_implies, implies_true, -List.reduceReplicate]; exact hkk) ?_)
      ((with_reducible repeat first|apply EX.seq|apply EX.blk); refine EX.ret ?_; (with_reducible repeat first|apply nA|apply nB|apply nC|apply nD|apply nE|apply nF|apply nG (by decide)|apply nH|apply nI|apply nJ); refine ⟨_, rfl, ?_⟩; simp only [packV, upd, Nat.reduceEqDiff, reduceIte, if_true, if_false, Nat.one_ne_zero, Nat.zero_ne_one])
      rw [if_neg (by simp [hx0])]; exact ⟨rfl, trivial⟩
    · (refine EX.skip ?_; (with_reducible repeat first|apply nA|apply nB|apply nC|apply nD|apply nE|apply nF|apply nG (by decide)|apply nH|apply nI|apply nJ))
      (refine EX.rg (by intro KK hkk; unfold f100_r7; simp only [SX, Nat.reduceEqDiff, ↓reduceIte, Nat.reduceSub, Nat.reduceAdd, Nat.reduceLT, Nat.reduceLeDiff, I.quiet, false_implies, implies_true, -List.reduceReplicate, show IntKind.wrap .i64 (((1 : Nat) : Int) + 1) = ((2 : Nat) : Int) from rfl]; exact hkk) ?_)
      exact ⟨2, ⟨by decide, fun _ => hx0, fun _ => Decidable.byContradiction hd⟩, by decide, Less.wk (by (repeat refine Less.upd ?_ (by rfl)); exact Less.nil)⟩
  | 2, _ =>
    (refine EX.rg (by intro KK hkk; unfold f100_r3; simp only [SX, Nat.reduceEqDiff, ↓reduceIte, Nat.reduceSub, Nat.reduceAdd, Nat.reduceLT, Nat.reduceLeDiff, I.quiet, false_implies, implies_true, -List.reduceReplicate, show decide ((((2 : Nat) : Int)) < 2) = false from rfl]; exact hkk) ?_)
    (with_reducible repeat first|apply EX.seq|apply EX.blk)
    refine EX.condF rfl ?_
    (refine EX.exit ?_; (with_reducible repeat first|apply nA|apply nB|apply nC|apply nD|apply nE|apply nF|apply nG (by decide)|apply nH|apply nI|apply nJ))
    (refine EX.rg (by intro KK hkk; unfold f100_r8; simp only [SX, Nat.reduceEqDiff, ↓reduceIte, Nat.reduceSub, Nat.reduceAdd, Nat.reduceLT, Nat.reduceLeDiff, I.quiet, false_implies, implies_true, -List.reduceReplicate]; exact hkk) ?_)
    ((with_reducible repeat first|apply EX.seq|apply EX.blk); refine EX.ret ?_; (with_reducible repeat first|apply nA|apply nB|apply nC|apply nD|apply nE|apply nF|apply nG (by decide)|apply nH|apply nI|apply nJ); refine ⟨_, rfl, ?_⟩; simp only [packV, upd, Nat.reduceEqDiff, reduceIte, if_true, if_false, Nat.one_ne_zero, Nat.zero_ne_one])
    rw [hx (by decide), hy (by decide)]; exact ⟨rfl, trivial⟩
end
end Go.Proofs.Ythofdojknjhpgaa
set_option linter.unusedVariables false
set_option linter.unusedSimpArgs false
namespace Go.Proofs.Ythofdojknjhpgaa
open Go
/-- A read of a drawn region that may come ahead of the last effect. -/
theorem RD_bk1 {P : Program} {T : Tm} {h g : AH} {K : Tm → AH → Prop} {ds : List DOp} {x : Opd} {hs : List AH} {pd : List Pend} {n : Nat} : RD P (⟨⟨some n, none, .ins (.ld none x)⟩, 1, 0⟩ :: ds) (g :: hs) pd T h K = thenI ((I.ld none x).run T h) fun v h1 => (I.ld none x).run T g = some (v, g) ∧ RD P ds (g :: hs) pd (upd T n v) h1 K := by
  apply propext
  have hq' : (DOp.o ⟨⟨some n, none, .ins (.ld none x)⟩, 1, 0⟩).quiet = true := rfl
  simp only [RD]
  rw [if_pos hq']
  simp only [Step, ActS]
  cases hi : (I.ld none x).run T h with
  | none => simp [thenI]
  | some r =>
    obtain ⟨v, h1⟩ := r
    obtain rfl := quiet_same (show (I.ld none x).quiet = true from rfl) hi
    simp only [thenI, Option.some.injEq, Prod.mk.injEq, and_true, List.take_succ_cons, List.take_zero, List.mem_singleton, forall_eq, if_true]
    constructor
    · rintro ⟨v', rfl, k1, k2⟩; exact ⟨k1, by simpa [updO] using k2⟩
    · rintro ⟨k1, k2⟩; exact ⟨v, rfl, k1, by simpa [updO] using k2⟩
section
variable {h : AH}
/-- 'before'. -/
theorem f64_ok {a b : Int × Int} : AC Go.Proofs.Try.prog 64 [rvA a, rvA b] h (.int .i64 (rcmp a b)) h := by
  refine AC.wf fun hw => AC.of_app hw Cl.int ?_
  refine EC.intro f64_is ?_
  unfold f64_c rvA
  (refine EX.rg (by intro KK hkk; unfold f64_r0; simp only [SX, Nat.reduceEqDiff, ↓reduceIte, Nat.reduceSub, Nat.reduceAdd, Nat.reduceLT, Nat.reduceLeDiff, I.quiet, false_implies, implies_true, -List.reduceReplicate, new_app hw]; exact hkk) ?_)
  have c100 := f100_ok (h := h.app [some (.row 48 0 [.int .i64 a.1, .int .i64 a.2]), some (.row 48 0 [.int .i64 b.1, .int .i64 b.2]), some (.row 3 1 [.int .i64 (sgn a.1 b.1), .int .i64 (sgn a.2 b.2)])]) (B := h.next + 2) (x := sgn a.1 b.1) (y := sgn a.2 b.2) (by rw [app_get]; rfl)
  refine EX.dg (by intro KK hkk; unfold f64_r1; simp only [SX, Nat.reduceEqDiff, ↓reduceIte, Nat.reduceSub, Nat.reduceAdd, Nat.reduceLT, Nat.reduceLeDiff, I.quiet, false_implies, implies_true, -List.reduceReplicate]; refine RD_callvS (f89_ok) ?_; simp only [SX, Nat.reduceEqDiff, ↓reduceIte, Nat.reduceSub, Nat.reduceAdd, Nat.reduceLT, Nat.reduceLeDiff, I.quiet, false_implies, implies_true, -List.reduceReplicate, RD_bk1, true_and]; refine RD_callvS (f89_ok) ?_; simp only [SX, Nat.reduceEqDiff, ↓reduceIte, Nat.reduceSub, Nat.reduceAdd, Nat.reduceLT, Nat.reduceLeDiff, I.quiet, false_implies, implies_true, -List.reduceReplicate, Nat.le_add_right, true_and]; refine RD_callvS (c100) ?_; simp only [SX, Nat.reduceEqDiff, ↓reduceIte, Nat.reduceSub, Nat.reduceAdd, Nat.reduceLT, Nat.reduceLeDiff, I.quiet, false_implies, implies_true, -List.reduceReplicate]; exact hkk) ?_
  ((with_reducible repeat first|apply EX.seq|apply EX.blk); refine EX.ret ?_; (with_reducible repeat first|apply nA|apply nB|apply nC|apply nD|apply nE|apply nF|apply nG (by decide)|apply nH|apply nI|apply nJ); refine ⟨_, rfl, ?_⟩; simp only [packV, upd, Nat.reduceEqDiff, reduceIte, if_true, if_false, Nat.one_ne_zero, Nat.zero_ne_one])
  exact ⟨rfl, _, rfl⟩
end
end Go.Proofs.Ythofdojknjhpgaa
set_option linter.unusedVariables false
set_option linter.unusedSimpArgs false
namespace Go.Proofs.Ythofdojknjhpgaa
open Go
def rlt (a b : Int × Int) : Prop := a.1 < b.1 ∨ a.1 = b.1 ∧ a.2 < b.2
def rle (a b : Int × Int) : Prop := ¬ rlt b a
theorem rcmp_lt {a b : Int × Int} : rcmp a b < 0 ↔ rlt a b := by
  unfold rcmp sgn rlt
  split <;> (repeat' split) <;> omega
theorem rle_of_lt {a b : Int × Int} (h : rlt a b) : rle a b := by unfold rle rlt at *; omega
theorem rle_trans {a b c : Int × Int} (h : rle a b) (k : rle b c) : rle a c := by unfold rle rlt at *; omega
theorem rle_antisymm {a b : Int × Int} (h : rle a b) (k : rle b a) : a = b := by
  unfold rle rlt at *
  obtain ⟨a1, a2⟩ := a; obtain ⟨b1, b2⟩ := b
  simp only at h k
  simp only [Prod.mk.injEq]; omega
theorem rd_set {xs : List (Int × Int)} {i p : Nat} {x : Int × Int} (hi : i < xs.length) : rd (xs.set i x) p = if p = i then x else rd xs p := by
  simp only [rd, List.getD_eq_getElem?_getD, List.getElem?_set]
  by_cases e : p = i
  · subst e; simp [hi]
  · rw [if_neg (fun h => e h.symm), if_neg e]
section
variable {h : AH} {B : Nat} {xs : List (Int × Int)}
theorem wref : Enc.w (Int × Int) = 2 := rfl
theorem cells_ref (x : Int × Int) : Enc.cells x = [.int .i64 x.1, .int .i64 x.2] := rfl
theorem ldsAt_ref {t : TypeId} {e j : Nat} (hj : j < xs.length) : ldsAt 2 (some (.row t e (F xs))) (j * 2) h = some (rvA (rd xs j), h) := by
  have hl : (F xs).length = xs.length * 2 := F_len
  rw [ldsAt_row (by omega)]
  have : ((F xs).drop (j * 2)).take 2 = [.int .i64 (rd xs j).1, .int .i64 (rd xs j).2] := by
    rw [show j * 2 = j * Enc.w (Int × Int) from rfl, F_drop, List.drop_eq_getElem_cons hj, F_cons, rd_eq hj, cells_ref]; rfl
  rw [this]; rfl
theorem stAt_ref {t : TypeId} {e j : Nat} {x : Int × Int} (hr : h.ro ≤ B) (hj : j < xs.length) : stAt 2 (some (.row t e (F xs))) B (j * 2) (rvA x) h = some (.tuple #[], h.put B (some (.row t e (F (xs.set j x))))) := by
  have hl : (F xs).length = xs.length * 2 := F_len
  have hc : cellsOf (rvA x) = Enc.cells x := rfl
  have h1 : (Enc.cells x).length = 2 := rfl
  have h2 : (Enc.cells x).all one = true := rfl
  have h3 : j * 2 + 2 ≤ (F xs).length := by omega
  simp only [stAt, hc, h1, h2, hr, h3, and_self, if_true]
  have := F_set (x := x) hj
  rw [wref] at this
  rw [this]
theorem ias1_sl2 {n m : Nat} {k : IntKind} {j : Int} (h0 : 0 ≤ j) (h1 : j.toNat < n) : ias1 2 (.slice (some ⟨B, 0, none⟩) n m) (.int k j) h = some (.pointer (some ⟨B, j.toNat * 2, none⟩), h) := by
  simp [ias1, h0, show j < n by omega]
theorem put_put {b b' : Option Blk} : (h.put B b).put B b' = h.put B b' := by
  refine ah_ext (fun C => ?_) rfl rfl
  simp only [AH.get_put]; split <;> rfl
theorem put_next {b : Option Blk} : (h.put B b).next = h.next := rfl
/-- A call of a function value. -/
theorem RD_calldvS {P : Program} {T : Tm} {K : Tm → AH → Prop} {ds : List DOp} {x : Opd} {args : List Opd} {v : Value} {f : FuncId} {hs : List AH} {n : Nat} (hx : x.ev T = .func (.func f) #[] #[]) (hf : okF P f = true) (hc : AC P f (args.map (·.ev T)) h v h) (k : RD P ds (h :: hs) [] (upd T n v) h K) : RD P (⟨⟨some n, none, .calld x args⟩, 0, 0⟩ :: ds) hs [] T h K := by
  have hq' : ¬ (DOp.o ⟨⟨some n, none, .calld x args⟩, 0, 0⟩).quiet = true := by show ¬ false = true; decide
  simp only [RD]
  rw [if_neg hq']
  refine ⟨v, h, ⟨f, #[], #[], hx, hf, ?_⟩, Nat.le_refl _, by simp, k⟩
  simpa using hc
theorem RD_gD {P : Program} {T : Tm} {K : Tm → AH → Prop} {ds : List DOp} {x : Opd} {args : List Opd} {n t : Nat} {b : Bool} {hs : List AH} {pd : List Pend} : RD P (⟨⟨some n, some (t, b), .calld x args⟩, 0, 0⟩ :: ds) hs pd T h K = guard1 (T t) b (RD P (⟨⟨some n, none, .calld x args⟩, 0, 0⟩ :: ds) hs pd T h K) ((∀ p ∈ pd, Step P p.2.1 p.2.2.1 h p.2.2.2 h) ∧ RD P ds (h :: hs) (decP pd) (upd T n (.chan none)) h K) := RD_gN rfl
theorem okF64 : okF Try.prog 64 = true := by decide +kernel
/-- The elements up to i are sorted but for the one at j, which is no greater than those behind it. -/
def InsI (zs : List (Int × Int)) (i j : Nat) : Prop := (∀ p q, p < q → q ≤ i → p ≠ j → q ≠ j → rle (rd zs p) (rd zs q)) ∧ ∀ q, j < q → q ≤ i → rle (rd zs j) (rd zs q)
theorem InsI.step {zs : List (Int × Int)} {i j : Nat} (hI : InsI zs i (j + 1)) (hj : j + 1 ≤ i) (hi : i < zs.length) (hlt : rlt (rd zs (j + 1)) (rd zs j)) : InsI ((zs.set (j + 1) (rd zs j)).set j (rd zs (j + 1))) i j := by
  have hr : ∀ p, rd ((zs.set (j + 1) (rd zs j)).set j (rd zs (j + 1))) p = if p = j then rd zs (j + 1) else if p = j + 1 then rd zs j else rd zs p := by
    intro p
    rw [rd_set (by simp; omega), rd_set (by omega)]
  obtain ⟨h1, h2⟩ := hI
  constructor
  · intro p q hpq hq hp' hq'
    rw [hr, hr, if_neg hp', if_neg hq']
    by_cases e1 : p = j + 1
    · rw [if_pos e1, if_neg (by omega)]
      exact h1 j q (by omega) hq (by omega) (by omega)
    · rw [if_neg e1]
      by_cases e2 : q = j + 1
      · rw [if_pos e2]; exact h1 p j (by omega) (by omega) (by omega) (by omega)
      · rw [if_neg e2]; exact h1 p q hpq hq e1 e2
  · intro q hjq hq
    rw [hr, hr, if_pos rfl, if_neg (by omega)]
    by_cases e2 : q = j + 1
    · rw [if_pos e2]; exact rle_of_lt hlt
    · rw [if_neg e2]; exact h2 q (by omega) hq
theorem InsI.fin {zs : List (Int × Int)} {i j : Nat} (hI : InsI zs i j) (hj : j = 0 ∨ ∃ k, j = k + 1 ∧ rle (rd zs k) (rd zs j)) : ∀ p q, p < q → q ≤ i → rle (rd zs p) (rd zs q) := by
  obtain ⟨h1, h2⟩ := hI
  intro p q hpq hq
  by_cases e1 : p = j
  · subst e1; exact h2 q hpq hq
  · by_cases e2 : q = j
    · subst e2
      rcases hj with rfl | ⟨k, rfl, hk⟩
      · omega
      · by_cases e3 : p = k
        · subst e3; exact hk
        · exact rle_trans (h1 p k (by omega) (by omega) e1 (by omega)) hk
    · exact h1 p q hpq hq e1 e2
theorem swap_perm {zs : List (Int × Int)} {i j : Nat} (hi : i < zs.length) (hj : j < zs.length) : ((zs.set i (rd zs j)).set j (rd zs i)).Perm zs := by
  rw [rd_eq hi, rd_eq hj]; exact List.set_set_perm hi hj
def SortedR (zs : List (Int × Int)) : Prop := ∀ p q, p < q → q < zs.length → rle (rd zs p) (rd zs q)
/-- 'insertionSortCmpFunc' of references by 'before'. -/
theorem f117_ok {n : Nat} (hB : h.get B = some (.row 48 2 (F xs))) (hr : h.ro ≤ B) (hn : xs.length = n) (hl : n < 4611686018427387904) : EC Go.Proofs.Try.prog 117 [.slice (some ⟨B, 0, none⟩) n n, .int .i64 0, .int .i64 (n : Nat), .func (.func 64) #[] #[]] h fun r h' => r = .tuple #[] ∧ ∃ zs, h' = h.put B (some (.row 48 2 (F zs))) ∧ zs.Perm xs ∧ SortedR zs := by
  refine EC.intro f117_is ?_
  unfold f117_c
  (refine EX.rg (by intro KK hkk; unfold f117_r0; simp only [SX, Nat.reduceEqDiff, ↓reduceIte, Nat.reduceSub, Nat.reduceAdd, Nat.reduceLT, Nat.reduceLeDiff, I.quiet, false_implies, implies_true, -List.reduceReplicate, show IntKind.wrap .i64 (0 + 1) = ((1 : Nat) : Int) from rfl]; exact hkk) ?_)
  (with_reducible repeat first|apply EX.seq|apply EX.blk)
  refine EX.loop (σ := Nat × List (Int × Int)) (fun s => upd (upd (upd (upd (upd TE 0 (.slice (some ⟨B, 0, none⟩) n n)) 1 (.int .i64 0)) 2 (.int .i64 (n : Nat))) 3 (.func (.func 64) #[] #[])) 8 (.int .i64 (s.1 : Nat))) (fun s => h.put B (some (.row 48 2 (F s.2))))
    (fun s => s.1 ≤ n + 1 ∧ s.2.Perm xs ∧ ∀ p q, p < q → q < s.1 → q < n → rle (rd s.2 p) (rd s.2 q)) (fun s => n + 1 - s.1) (1, xs) ⟨by show 1 ≤ n + 1; omega, List.Perm.refl _, fun p q h1 h2 => by simp only at h2; omega⟩ (by rw [put_self hB]; exact Less.wk (by (repeat refine Less.upd ?_ (by rfl)); exact Less.nil)) ?_
  rintro ⟨i, zs⟩ ⟨hi, hperm, hsort⟩
  simp only at hi hperm hsort
  have hzl : zs.length = n := by rw [hperm.length_eq, hn]
  (refine EX.rg (by intro KK hkk; unfold f117_r1; simp only [SX, Nat.reduceEqDiff, ↓reduceIte, Nat.reduceSub, Nat.reduceAdd, Nat.reduceLT, Nat.reduceLeDiff, I.quiet, false_implies, implies_true, -List.reduceReplicate, lt_nat]; exact hkk) ?_)
  (with_reducible repeat first|apply EX.seq|apply EX.blk)
  refine EX.dec rfl (fun hd => ?_) (fun hd => ?_)
  · (refine EX.skip ?_; (with_reducible repeat first|apply nA|apply nB|apply nC|apply nD|apply nE|apply nF|apply nG (by decide)|apply nH|apply nI|apply nJ))
    (refine EX.rg (by intro KK hkk; unfold f117_r2; simp only [SX, Nat.reduceEqDiff, ↓reduceIte, Nat.reduceSub, Nat.reduceAdd, Nat.reduceLT, Nat.reduceLeDiff, I.quiet, false_implies, implies_true, -List.reduceReplicate]; exact hkk) ?_)
    refine EX.cutR (F := fun T1 H1 => ∃ zs2, T1 0 = .slice (some ⟨B, 0, none⟩) n n ∧ T1 1 = .int .i64 0 ∧ T1 2 = .int .i64 (n : Nat) ∧ T1 3 = .func (.func 64) #[] #[] ∧ T1 8 = .int .i64 (i : Nat) ∧ H1 = h.put B (some (.row 48 2 (F zs2))) ∧ zs2.Perm xs ∧ ∀ p q, p < q → q ≤ i → rle (rd zs2 p) (rd zs2 q)) ?_ ?_
    · (with_reducible repeat first|apply EX.seq|apply EX.blk)
      refine EX.loop (σ := Nat × List (Int × Int)) (fun s => upd (upd (upd (upd (upd (upd TE 0 (.slice (some ⟨B, 0, none⟩) n n)) 1 (.int .i64 0)) 2 (.int .i64 (n : Nat))) 3 (.func (.func 64) #[] #[])) 8 (.int .i64 (i : Nat))) 9 (.int .i64 (s.1 : Nat))) (fun s => h.put B (some (.row 48 2 (F s.2))))
        (fun s => s.1 ≤ i ∧ s.2.Perm xs ∧ InsI s.2 i s.1) (fun s => s.1) (i, zs) ⟨Nat.le_refl _, hperm, ?_⟩ (Less.wk (by (repeat refine Less.upd ?_ (by rfl)); exact Less.nil)) ?_
      · exact ⟨fun p q h1 h2 h3 h4 => hsort p q h1 (by omega) (by omega), fun q h1 h2 => by omega⟩
      rintro ⟨j, ys⟩ ⟨hj, hyp, hI⟩
      simp only at hj hyp hI
      have hyl : ys.length = n := by rw [hyp.length_eq, hn]
      have hgt : ∀ b : Option Blk, (h.put B b).ro ≤ B := fun b => hr
      cases j with
      | zero =>
        (refine EX.dg (by intro KK hkk; unfold f117_r3; simp only [SX, Nat.reduceEqDiff, ↓reduceIte, Nat.reduceSub, Nat.reduceAdd, Nat.reduceLT, Nat.reduceLeDiff, I.quiet, false_implies, implies_true, -List.reduceReplicate, show decide ((((0 : Nat) : Int)) > 0) = false from rfl, guard1_tf, RD_gD]; exact hkk) ?_)
        (with_reducible repeat first|apply EX.seq|apply EX.blk)
        refine EX.condF rfl ?_
        (refine EX.exit ?_; (with_reducible repeat first|apply nA|apply nB|apply nC|apply nD|apply nE|apply nF|apply nG (by decide)|apply nH|apply nI|apply nJ))
        exact ⟨ys, rfl, rfl, rfl, rfl, rfl, rfl, hyp, hI.fin (.inl rfl)⟩
      | succ k =>
        have hk1 : k + 1 < n := by omega
        have hk0 : k < n := by omega
        have s1 : ∀ H : AH, ias1 2 (.slice (some ⟨B, 0, none⟩) n n) (.int .i64 ((k + 1 : Nat) : Int)) H = some (.pointer (some ⟨B, (k + 1) * 2, none⟩), H) := fun H => by
          have := ias1_sl2 (h := H) (B := B) (n := n) (m := n) (k := .i64) (j := ((k + 1 : Nat) : Int)) (by omega) (by omega)
          simpa only [Int.toNat_natCast] using this
        have s0 : ∀ H : AH, ias1 2 (.slice (some ⟨B, 0, none⟩) n n) (.int .i64 ((k : Nat) : Int)) H = some (.pointer (some ⟨B, k * 2, none⟩), H) := fun H => by
          have := ias1_sl2 (h := H) (B := B) (n := n) (m := n) (k := .i64) (j := ((k : Nat) : Int)) (by omega) (by omega)
          simpa only [Int.toNat_natCast] using this
        have ws := wrap_sub1 (show k < 4611686018427387904 by omega)
        have l1 : ∀ H : AH, ldsAt 2 (some (.row 48 2 (F ys))) ((k + 1) * 2) H = some (rvA (rd ys (k + 1)), H) := fun H => ldsAt_ref (by omega)
        have l0 : ∀ H : AH, ldsAt 2 (some (.row 48 2 (F ys))) (k * 2) H = some (rvA (rd ys k), H) := fun H => ldsAt_ref (by omega)
        refine EX.dg (by intro KK hkk; unfold f117_r3; simp only [SX, Nat.reduceEqDiff, ↓reduceIte, Nat.reduceSub, Nat.reduceAdd, Nat.reduceLT, Nat.reduceLeDiff, I.quiet, false_implies, implies_true, -List.reduceReplicate, show decide ((((k + 1 : Nat) : Int)) > 0) = true from decide_eq_true (by omega), s1, s0, ws, AH.get_put, eq_self, l1, l0, RD_gD]; refine RD_calldvS (f := 64) (v := .int .i64 (rcmp (rd ys (k + 1)) (rd ys k))) ?_ okF64 ?_ ?_; (exact rfl); (exact f64_ok); simp only [SX, Nat.reduceEqDiff, ↓reduceIte, Nat.reduceSub, Nat.reduceAdd, Nat.reduceLT, Nat.reduceLeDiff, I.quiet, false_implies, implies_true, -List.reduceReplicate]; exact hkk) ?_
        (with_reducible repeat first|apply EX.seq|apply EX.blk)
        refine EX.dec rfl (fun hc => ?_) (fun hc => ?_)
        · (refine EX.skip ?_; (with_reducible repeat first|apply nA|apply nB|apply nC|apply nD|apply nE|apply nF|apply nG (by decide)|apply nH|apply nI|apply nJ))
          have hy1 : k + 1 < ys.length := by omega
          have hy0 : k < (ys.set (k + 1) (rd ys k)).length := by simp; omega
          have st1 : stAt 2 (some (.row 48 2 (F ys))) B ((k + 1) * 2) (rvA (rd ys k)) (h.put B (some (.row 48 2 (F ys)))) = some (.tuple #[], h.put B (some (.row 48 2 (F (ys.set (k + 1) (rd ys k)))))) := by rw [stAt_ref (hgt _) hy1, put_put]
          have st2 : stAt 2 (some (.row 48 2 (F (ys.set (k + 1) (rd ys k))))) B (k * 2) (rvA (rd ys (k + 1))) (h.put B (some (.row 48 2 (F (ys.set (k + 1) (rd ys k)))))) = some (.tuple #[], h.put B (some (.row 48 2 (F ((ys.set (k + 1) (rd ys k)).set k (rd ys (k + 1))))))) := by rw [stAt_ref (hgt _) hy0, put_put]
          (refine EX.dg (by intro KK hkk; unfold f117_r4; simp only [SX, Nat.reduceEqDiff, ↓reduceIte, Nat.reduceSub, Nat.reduceAdd, Nat.reduceLT, Nat.reduceLeDiff, I.quiet, false_implies, implies_true, -List.reduceReplicate, s1, s0, ws, AH.get_put, eq_self, l1, l0, st1, st2, put_next, Nat.le_refl, true_and]; exact hkk) ?_)
          (refine EX.rg (by intro KK hkk; unfold f117_r5; simp only [SX, Nat.reduceEqDiff, ↓reduceIte, Nat.reduceSub, Nat.reduceAdd, Nat.reduceLT, Nat.reduceLeDiff, I.quiet, false_implies, implies_true, -List.reduceReplicate, ws]; exact hkk) ?_)
          refine ⟨(k, (ys.set (k + 1) (rd ys k)).set k (rd ys (k + 1))), ⟨by show k ≤ i; omega, (swap_perm hy1 (by omega)).trans hyp, hI.step hj (by omega) (rcmp_lt.1 hc)⟩, Nat.lt_succ_self k, Less.wk (by (repeat refine Less.upd ?_ (by rfl)); exact Less.nil)⟩
        · (refine EX.exit ?_; (with_reducible repeat first|apply nA|apply nB|apply nC|apply nD|apply nE|apply nF|apply nG (by decide)|apply nH|apply nI|apply nJ))
          exact ⟨ys, rfl, rfl, rfl, rfl, rfl, rfl, hyp, hI.fin (.inr ⟨k, rfl, fun e => hc (rcmp_lt.2 e)⟩)⟩
    · rintro T1 H1 ⟨zs2, t0, t1, t2, t3, t8, rfl, hp2, hs2⟩
      (with_reducible repeat first|apply nA|apply nB|apply nC|apply nD|apply nE|apply nF|apply nG (by decide)|apply nH|apply nI|apply nJ)
      (refine EX.rg (by intro KK hkk; unfold f117_r6; simp only [SX, Nat.reduceEqDiff, ↓reduceIte, Nat.reduceSub, Nat.reduceAdd, Nat.reduceLT, Nat.reduceLeDiff, I.quiet, false_implies, implies_true, -List.reduceReplicate, t8, wrap_nat (show i < 4611686018427387904 by omega)]; exact hkk) ?_)
      refine ⟨(i + 1, zs2), ⟨by show i + 1 ≤ n + 1; omega, hp2, fun p q h1 h2 h3 => hs2 p q h1 (by have : q < i + 1 := h2; omega)⟩, by show n + 1 - (i + 1) < n + 1 - i; omega, Less.wk ?_⟩
      refine Less.upd (Less.upd (Less.upd (Less.upd (Less.upd Less.nil ?_) ?_) ?_) ?_) ?_ <;> simp [upd, t0, t1, t2, t3]
  · (refine EX.exit ?_; (with_reducible repeat first|apply nA|apply nB|apply nC|apply nD|apply nE|apply nF|apply nG (by decide)|apply nH|apply nI|apply nJ))
    refine ⟨_, rfl, rfl, zs, rfl, hperm, fun p q h1 h2 => hsort p q h1 (by omega) (by omega)⟩
end
end Go.Proofs.Ythofdojknjhpgaa
