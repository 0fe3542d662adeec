/- Contracts: sources of choices. -/
import Derived.Test.YthofdojknjhpgaaQ5
import Derived.Test.YthofdojknjhpgaaMXo
set_option linter.unusedVariables false
set_option linter.unusedSimpArgs false
namespace Go.Proofs.Ythofdojknjhpgaa
open Go
section
variable {h : AH}
/-- 'From'. -/
theorem f51_ok {l : List Int} : AC Go.Proofs.Try.prog 51 [L l] h (.pointer (some ⟨h.next, 0, none⟩)) (h.new (.row 130 0 [L l, .int .i64 0])) := by
  have k : EC Go.Proofs.Try.prog 51 [L l] h fun r h' => r = .pointer (some ⟨h.next, 0, none⟩) ∧ h' = h.new (.row 130 0 [L l, .int .i64 0]) := by
    refine EC.intro f51_is ?_
    unfold f51_c
    ((repeat first | with_reducible refine EX.seq ?_ | with_reducible refine EX.blk ?_); refine EX.regx (by intro KK hkk; unfold f51_r0; simp only [SX, Nat.reduceEqDiff, ↓reduceIte, Nat.reduceSub, Nat.reduceAdd, Nat.reduceLT, Nat.reduceLeDiff, Nat.one_ne_zero, Nat.zero_ne_one, show decP [] = [] from rfl, I.quiet, List.not_mem_nil, false_implies, implies_true, -List.reduceReplicate, decide_true, decide_false]; exact hkk) ?_; (repeat first | with_reducible refine nxt_n ?_ | with_reducible refine nxt_e ?_ | with_reducible refine nxt_r ?_ | with_reducible refine inB_n ?_ | with_reducible refine inB_r ?_ | with_reducible refine inB_x ?_ | with_reducible refine inB_y (by decide) ?_ | with_reducible refine orQ_r ?_ | with_reducible refine orQ_x ?_ | with_reducible refine orQ_n ?_))
    ((repeat first | with_reducible refine EX.seq ?_ | with_reducible refine EX.blk ?_); refine EX.regx (by intro KK hkk; unfold f51_r1; simp only [SX, Nat.reduceEqDiff, ↓reduceIte, Nat.reduceSub, Nat.reduceAdd, Nat.reduceLT, Nat.reduceLeDiff, Nat.one_ne_zero, Nat.zero_ne_one, show decP [] = [] from rfl, I.quiet, List.not_mem_nil, false_implies, implies_true, -List.reduceReplicate, decide_true, decide_false]; exact hkk) ?_; (repeat first | with_reducible refine nxt_n ?_ | with_reducible refine nxt_e ?_ | with_reducible refine nxt_r ?_ | with_reducible refine inB_n ?_ | with_reducible refine inB_r ?_ | with_reducible refine inB_x ?_ | with_reducible refine inB_y (by decide) ?_ | with_reducible refine orQ_r ?_ | with_reducible refine orQ_x ?_ | with_reducible refine orQ_n ?_))
    ((repeat first | with_reducible refine EX.seq ?_ | with_reducible refine EX.blk ?_); refine EX.ret ?_; (repeat first | with_reducible refine nxt_n ?_ | with_reducible refine nxt_e ?_ | with_reducible refine nxt_r ?_ | with_reducible refine inB_n ?_ | with_reducible refine inB_r ?_ | with_reducible refine inB_x ?_ | with_reducible refine inB_y (by decide) ?_ | with_reducible refine orQ_r ?_ | with_reducible refine orQ_x ?_ | with_reducible refine orQ_n ?_); refine ⟨_, rfl, ?_⟩; simp only [packV, upd, Nat.reduceEqDiff, reduceIte, if_true, if_false, Nat.one_ne_zero, Nat.zero_ne_one])
    exact ⟨trivial, trivial⟩
  obtain ⟨_, _, g, rfl, rfl⟩ := k
  exact g
/-- 'Next'. -/
theorem f52_ok {B : Nat} {l rem : List Int} {n : Int} (hB : h.get B = src l rem) (hs : rem <:+ l) (hl : l.length < 4611686018427387904) (hr : h.ro ≤ B) (hn : 0 < n) (hn2 : n < 4294967296) : AC Go.Proofs.Try.prog 52 [.pointer (some ⟨B, 0, none⟩), .int .i64 n] h (.int .i64 (nx rem n).1) (h.put B (src l (nx rem n).2)) := by
  have hsl := hs.length_le
  have hrem : rem = l.drop (l.length - rem.length) := List.suffix_iff_eq_drop.1 hs
  have hg : h.get B = some (.row 130 0 [L l, .int .i64 ((l.length - rem.length : Nat) : Int)]) := hB
  have k : EC Go.Proofs.Try.prog 52 [.pointer (some ⟨B, 0, none⟩), .int .i64 n] h fun r h' => r = .int .i64 (nx rem n).1 ∧ h' = h.put B (src l (nx rem n).2) := by
    refine EC.intro f52_is ?_
    unfold f52_c
    ((repeat first | with_reducible refine EX.seq ?_ | with_reducible refine EX.blk ?_); refine EX.regx (by intro KK hkk; unfold f52_r0; simp only [SX, Nat.reduceEqDiff, ↓reduceIte, Nat.reduceSub, Nat.reduceAdd, Nat.reduceLT, Nat.reduceLeDiff, Nat.one_ne_zero, Nat.zero_ne_one, show decP [] = [] from rfl, I.quiet, List.not_mem_nil, false_implies, implies_true, -List.reduceReplicate, decide_true, decide_false]; exact hkk) ?_; (repeat first | with_reducible refine nxt_n ?_ | with_reducible refine nxt_e ?_ | with_reducible refine nxt_r ?_ | with_reducible refine inB_n ?_ | with_reducible refine inB_r ?_ | with_reducible refine inB_x ?_ | with_reducible refine inB_y (by decide) ?_ | with_reducible refine orQ_r ?_ | with_reducible refine orQ_x ?_ | with_reducible refine orQ_n ?_))
    ((repeat first | with_reducible refine EX.seq ?_ | with_reducible refine EX.blk ?_); refine EX.drwx (by intro KK hkk; unfold f52_r1; simp only [SX, Nat.reduceEqDiff, ↓reduceIte, Nat.reduceSub, Nat.reduceAdd, Nat.reduceLT, Nat.reduceLeDiff, Nat.one_ne_zero, Nat.zero_ne_one, show decP [] = [] from rfl, I.quiet, List.not_mem_nil, false_implies, implies_true, -List.reduceReplicate, decide_true, decide_false, hg]; exact hkk) ?_; (repeat first | with_reducible refine nxt_n ?_ | with_reducible refine nxt_e ?_ | with_reducible refine nxt_r ?_ | with_reducible refine inB_n ?_ | with_reducible refine inB_r ?_ | with_reducible refine inB_x ?_ | with_reducible refine inB_y (by decide) ?_ | with_reducible refine orQ_r ?_ | with_reducible refine orQ_x ?_ | with_reducible refine orQ_n ?_))
    cases rem with
    | nil =>
      refine EX.dec rfl (fun hd => ?_) (fun hd => absurd (by simp) hd)
      ((repeat first | with_reducible refine EX.seq ?_ | with_reducible refine EX.blk ?_); refine EX.regx (by intro KK hkk; unfold f52_r2; simp only [SX, Nat.reduceEqDiff, ↓reduceIte, Nat.reduceSub, Nat.reduceAdd, Nat.reduceLT, Nat.reduceLeDiff, Nat.one_ne_zero, Nat.zero_ne_one, show decP [] = [] from rfl, I.quiet, List.not_mem_nil, false_implies, implies_true, -List.reduceReplicate, decide_true, decide_false]; exact hkk) ?_; (repeat first | with_reducible refine nxt_n ?_ | with_reducible refine nxt_e ?_ | with_reducible refine nxt_r ?_ | with_reducible refine inB_n ?_ | with_reducible refine inB_r ?_ | with_reducible refine inB_x ?_ | with_reducible refine inB_y (by decide) ?_ | with_reducible refine orQ_r ?_ | with_reducible refine orQ_x ?_ | with_reducible refine orQ_n ?_))
      ((repeat first | with_reducible refine EX.seq ?_ | with_reducible refine EX.blk ?_); refine EX.ret ?_; (repeat first | with_reducible refine nxt_n ?_ | with_reducible refine nxt_e ?_ | with_reducible refine nxt_r ?_ | with_reducible refine inB_n ?_ | with_reducible refine inB_r ?_ | with_reducible refine inB_x ?_ | with_reducible refine inB_y (by decide) ?_ | with_reducible refine orQ_r ?_ | with_reducible refine orQ_x ?_ | with_reducible refine orQ_n ?_); refine ⟨_, rfl, ?_⟩; simp only [packV, upd, Nat.reduceEqDiff, reduceIte, if_true, if_false, Nat.one_ne_zero, Nat.zero_ne_one])
      exact ⟨rfl, (put_self hB).symm⟩
    | cons x r =>
      have h1 : l.length - (x :: r).length < l.length := by simp at hsl ⊢; omega
      have h2 : l.length - r.length = l.length - (x :: r).length + 1 := by simp at hsl ⊢; omega
      refine EX.dec rfl (fun hd => by simp only [List.length_cons] at hd hsl; omega) (fun hd => ?_)
      clear hd
      (refine EX.skip ?_; (repeat first | with_reducible refine nxt_n ?_ | with_reducible refine nxt_e ?_ | with_reducible refine nxt_r ?_ | with_reducible refine inB_n ?_ | with_reducible refine inB_r ?_ | with_reducible refine inB_x ?_ | with_reducible refine inB_y (by decide) ?_ | with_reducible refine orQ_r ?_ | with_reducible refine orQ_x ?_ | with_reducible refine orQ_n ?_))
      have wr := wrap_nat (k := l.length - (x :: r).length) (by omega)
      have hx : rd l (l.length - (x :: r).length) = x := by
        rw [rd_eq h1]
        have : (l.drop (l.length - (x :: r).length))[0]? = some x := by rw [← hrem]; rfl
        rw [List.getElem?_drop, Nat.add_zero, List.getElem?_eq_getElem h1] at this
        exact Option.some.inj this
      generalize hk : l.length - (x :: r).length = k at *
      ((repeat first | with_reducible refine EX.seq ?_ | with_reducible refine EX.blk ?_); refine EX.regx (by intro KK hkk; unfold f52_r3; simp only [SX, Nat.reduceEqDiff, ↓reduceIte, Nat.reduceSub, Nat.reduceAdd, Nat.reduceLT, Nat.reduceLeDiff, Nat.one_ne_zero, Nat.zero_ne_one, show decP [] = [] from rfl, I.quiet, List.not_mem_nil, false_implies, implies_true, -List.reduceReplicate, decide_true, decide_false, hg, wr, stAt_row hr]; exact hkk) ?_; (repeat first | with_reducible refine nxt_n ?_ | with_reducible refine nxt_e ?_ | with_reducible refine nxt_r ?_ | with_reducible refine inB_n ?_ | with_reducible refine inB_r ?_ | with_reducible refine inB_x ?_ | with_reducible refine inB_y (by decide) ?_ | with_reducible refine orQ_r ?_ | with_reducible refine orQ_x ?_ | with_reducible refine orQ_n ?_))
      ((repeat first | with_reducible refine EX.seq ?_ | with_reducible refine EX.blk ?_); refine EX.drwx (by intro KK hkk; unfold f52_r4; simp only [SX, Nat.reduceEqDiff, ↓reduceIte, Nat.reduceSub, Nat.reduceAdd, Nat.reduceLT, Nat.reduceLeDiff, Nat.one_ne_zero, Nat.zero_ne_one, show decP [] = [] from rfl, I.quiet, List.not_mem_nil, false_implies, implies_true, -List.reduceReplicate, decide_true, decide_false, AH.get_put, wrap_sub1 (show k < 4611686018427387904 by omega), h1, ld1_ef h1 o1i, hx]; refine RD_callvS (f18_ok hn hn2) ?_; simp only [SX, Nat.reduceEqDiff, ↓reduceIte, Nat.reduceSub, Nat.reduceAdd, Nat.reduceLT, Nat.reduceLeDiff, Nat.one_ne_zero, Nat.zero_ne_one, show decP [] = [] from rfl, I.quiet, List.not_mem_nil, false_implies, implies_true, -List.reduceReplicate, decide_true, decide_false, AH.get_put, wrap_sub1 (show k < 4611686018427387904 by omega), h1, ld1_ef h1 o1i, hx]; exact hkk) ?_; (repeat first | with_reducible refine nxt_n ?_ | with_reducible refine nxt_e ?_ | with_reducible refine nxt_r ?_ | with_reducible refine inB_n ?_ | with_reducible refine inB_r ?_ | with_reducible refine inB_x ?_ | with_reducible refine inB_y (by decide) ?_ | with_reducible refine orQ_r ?_ | with_reducible refine orQ_x ?_ | with_reducible refine orQ_n ?_))
      ((repeat first | with_reducible refine EX.seq ?_ | with_reducible refine EX.blk ?_); refine EX.ret ?_; (repeat first | with_reducible refine nxt_n ?_ | with_reducible refine nxt_e ?_ | with_reducible refine nxt_r ?_ | with_reducible refine inB_n ?_ | with_reducible refine inB_r ?_ | with_reducible refine inB_x ?_ | with_reducible refine inB_y (by decide) ?_ | with_reducible refine orQ_r ?_ | with_reducible refine orQ_x ?_ | with_reducible refine orQ_n ?_); refine ⟨_, rfl, ?_⟩; simp only [packV, upd, Nat.reduceEqDiff, reduceIte, if_true, if_false, Nat.one_ne_zero, Nat.zero_ne_one])
      refine ⟨rfl, ?_⟩
      show _ = h.put B (src l r)
      rw [src, h2]
  obtain ⟨_, _, g, rfl, rfl⟩ := k
  exact g
end
end Go.Proofs.Ythofdojknjhpgaa
