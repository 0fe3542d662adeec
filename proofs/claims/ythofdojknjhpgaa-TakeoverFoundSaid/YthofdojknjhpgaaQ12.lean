/- Contracts: the reference's search. -/
import Derived.Test.YthofdojknjhpgaaQ11
set_option linter.unusedVariables false
set_option linter.unusedSimpArgs false
namespace Go.Proofs.Ythofdojknjhpgaa
open Go
/-- The state of the reference's search. -/
def RInv (n : Nat) (bs : List (Option Blk)) (s : Nat) (ps : List (List Stg)) (ex occ : List Int) (bud : Int) (xs : List Int) (st : Nat × Nat × Int × List Int) : Prop :=
  ∃ v vb, bs[s]? = some (some (.row 91 0 [L ps, L ex, L occ, .int .i64 bud, .int .i64 (st.1 : Nat), v, .int .i64 (st.2.1 : Nat), .int .i64 st.2.2.1, vb])) ∧ AtV n bs v xs ∧ BestV n bs v vb st.2.2.2
section
variable {h : AH} {bs : List (Option Blk)} {ps : List (List Stg)} {ex occ xs : List Int} {s : Nat} {bud : Int}
theorem set_keep {T : TypeId} {e : Nat} {cs : List Value} {x : Option Blk} (hS : bs[s]? = some (some (.row T e cs))) (hT : T ≠ 3) {i : Nat} {b : List Value} (hi : bs[i]? = some (some (.row 3 1 b))) : (bs.set s x)[i]? = some (some (.row 3 1 b)) := by
  have : s ≠ i := by rintro rfl; rw [hS] at hi; simp at hi; exact hT hi.1
  rw [List.getElem?_set, if_neg this]; exact hi
theorem cntTo_le {ps : List (List Stg)} {xs : List Int} : ∀ i, cntTo ps xs i ≤ i
  | 0 => Nat.le_refl _
  | i + 1 => by have := cntTo_le (ps := ps) (xs := xs) i; rw [cntTo]; split <;> omega
/-- 'assigned'. -/
theorem f92_ok {st : Nat × Nat × Int × List Int} (hw : Wf h) (hs : SmallP ps) (hex : goodB ps ex = true) (ho : occ.length < 4611686018427387904) (hp : PosP ps xs) (hn : xs ≠ []) (hf : st.2.1 < 4611686018427387904) (hi : RInv h.next bs s ps ex occ bud xs st) :
    EC Go.Proofs.Try.prog 92 [.pointer (some ⟨h.next + s, 0, none⟩)] (h.app bs) fun r h' => r = .tuple #[] ∧ ∃ bs', h' = h.app bs' ∧ RInv h.next bs' s ps ex occ bud xs (st.1, leafR ps ex occ xs st.2) := by
  obtain ⟨used, found, sum, best⟩ := st
  obtain ⟨v, vb, hS, hv, hb⟩ := hi
  simp only at hS hb hf
  have hxl := hp.1
  have hs1 := hs.1
  have hsl := getElem?_lt hS
  refine EC.intro f92_is ?_
  unfold f92_c
  ((repeat first | with_reducible refine EX.seq ?_ | with_reducible refine EX.blk ?_); refine EX.regx (by intro KK hkk; unfold f92_r0; simp only [SX, Nat.reduceEqDiff, ↓reduceIte, Nat.reduceSub, Nat.reduceAdd, Nat.reduceLT, Nat.reduceLeDiff, Nat.one_ne_zero, Nat.zero_ne_one, show decP [] = [] from rfl, I.quiet, List.not_mem_nil, false_implies, implies_true, -List.reduceReplicate, decide_true, decide_false]; exact hkk) ?_; (repeat first | with_reducible refine nxt_n ?_ | with_reducible refine nxt_e ?_ | with_reducible refine nxt_r ?_ | with_reducible refine inB_n ?_ | with_reducible refine inB_r ?_ | with_reducible refine inB_x ?_ | with_reducible refine inB_y (by decide) ?_ | with_reducible refine orQ_r ?_ | with_reducible refine orQ_x ?_ | with_reducible refine orQ_n ?_))
  ((repeat first | with_reducible refine EX.seq ?_ | with_reducible refine EX.blk ?_); refine EX.regx (by intro KK hkk; unfold f92_r1; simp only [SX, Nat.reduceEqDiff, ↓reduceIte, Nat.reduceSub, Nat.reduceAdd, Nat.reduceLT, Nat.reduceLeDiff, Nat.one_ne_zero, Nat.zero_ne_one, show decP [] = [] from rfl, I.quiet, List.not_mem_nil, false_implies, implies_true, -List.reduceReplicate, decide_true, decide_false, hS, hv.lens]; exact hkk) ?_; (repeat first | with_reducible refine nxt_n ?_ | with_reducible refine nxt_e ?_ | with_reducible refine nxt_r ?_ | with_reducible refine inB_n ?_ | with_reducible refine inB_r ?_ | with_reducible refine inB_x ?_ | with_reducible refine inB_y (by decide) ?_ | with_reducible refine orQ_r ?_ | with_reducible refine orQ_x ?_ | with_reducible refine orQ_n ?_))
  refine EX.nxtR (F := fun T1 H1 => T1 0 = .pointer (some ⟨h.next + s, 0, none⟩) ∧ T1 2 = .int .i64 (cntTo ps xs xs.length : Nat) ∧ T1 3 = .int .i64 (tot ex xs) ∧ H1 = h.app bs) ?_ ?_
  · (repeat first | with_reducible refine EX.seq ?_ | with_reducible refine EX.blk ?_)
    refine EX.loop (σ := Nat) (fun i => upd (upd (upd (upd (upd TE 0 (.pointer (some ⟨h.next + s, 0, none⟩))) 2 (.int .i64 (cntTo ps xs i : Nat))) 3 (.int .i64 (totTo xs ex i))) 9 (.int .i64 xs.length)) 10 (.int .i64 (i : Nat))) (fun _ => h.app bs)
      (fun i => i ≤ xs.length) (fun i => xs.length - i) 0 (Nat.zero_le _) (by simp only [cntTo, totTo]; exact Less.wk (by (repeat refine Less.upd ?_ (by rfl)); exact Less.nil)) ?_
    intro i hi
    ((repeat first | with_reducible refine EX.seq ?_ | with_reducible refine EX.blk ?_); refine EX.regx (by intro KK hkk; unfold f92_r2; simp only [SX, Nat.reduceEqDiff, ↓reduceIte, Nat.reduceSub, Nat.reduceAdd, Nat.reduceLT, Nat.reduceLeDiff, Nat.one_ne_zero, Nat.zero_ne_one, show decP [] = [] from rfl, I.quiet, List.not_mem_nil, false_implies, implies_true, -List.reduceReplicate, decide_true, decide_false, lt_nat]; exact hkk) ?_; (repeat first | with_reducible refine nxt_n ?_ | with_reducible refine nxt_e ?_ | with_reducible refine nxt_r ?_ | with_reducible refine inB_n ?_ | with_reducible refine inB_r ?_ | with_reducible refine inB_x ?_ | with_reducible refine inB_y (by decide) ?_ | with_reducible refine orQ_r ?_ | with_reducible refine orQ_x ?_ | with_reducible refine orQ_n ?_))
    (repeat first | with_reducible refine EX.seq ?_ | with_reducible refine EX.blk ?_)
    refine EX.dec rfl (fun hlt => ?_) (fun hlt => ?_)
    · (refine EX.skip ?_; (repeat first | with_reducible refine nxt_n ?_ | with_reducible refine nxt_e ?_ | with_reducible refine nxt_r ?_ | with_reducible refine inB_n ?_ | with_reducible refine inB_r ?_ | with_reducible refine inB_x ?_ | with_reducible refine inB_y (by decide) ?_ | with_reducible refine orQ_r ?_ | with_reducible refine orQ_x ?_ | with_reducible refine orQ_n ?_))
      ((repeat first | with_reducible refine EX.seq ?_ | with_reducible refine EX.blk ?_); refine EX.regx (by intro KK hkk; unfold f92_r3; simp only [SX, Nat.reduceEqDiff, ↓reduceIte, Nat.reduceSub, Nat.reduceAdd, Nat.reduceLT, Nat.reduceLeDiff, Nat.one_ne_zero, Nat.zero_ne_one, show decP [] = [] from rfl, I.quiet, List.not_mem_nil, false_implies, implies_true, -List.reduceReplicate, decide_true, decide_false]; exact hkk) ?_; (repeat first | with_reducible refine nxt_n ?_ | with_reducible refine nxt_e ?_ | with_reducible refine nxt_r ?_ | with_reducible refine inB_n ?_ | with_reducible refine inB_r ?_ | with_reducible refine inB_x ?_ | with_reducible refine inB_y (by decide) ?_ | with_reducible refine orQ_r ?_ | with_reducible refine orQ_x ?_ | with_reducible refine orQ_n ?_))
      obtain ⟨i0, zs, hve, hbi, hz⟩ := hv.ne hlt
      have c53 := f53_own (h := h.app bs) (ps := ps) (zs := zs) (B := h.next + i0) (m := xs.length) (m' := xs.length) (t := i) (by rw [app_get, hbi]; rfl) hlt (Nat.lt_of_lt_of_le hlt hz.length_le) (by omega)
      rw [pre_sec hz hlt, ← hve] at c53
      have hcl := cntTo_le (ps := ps) (xs := xs) i
      refine EX.seqM (F := fun T1 H1 => T1 0 = .pointer (some ⟨h.next + s, 0, none⟩) ∧ T1 2 = .int .i64 (cntTo ps xs (i + 1) : Nat) ∧ T1 3 = .int .i64 (totTo xs ex i) ∧ T1 4 = .int .i64 (i : Nat) ∧ T1 9 = .int .i64 xs.length ∧ T1 10 = .int .i64 (i : Nat) ∧ H1 = h.app bs) ?_ ?_
      · ((repeat first | with_reducible refine EX.seq ?_ | with_reducible refine EX.blk ?_); refine EX.drwx (by intro KK hkk; unfold f92_r4; simp only [SX, Nat.reduceEqDiff, ↓reduceIte, Nat.reduceSub, Nat.reduceAdd, Nat.reduceLT, Nat.reduceLeDiff, Nat.one_ne_zero, Nat.zero_ne_one, show decP [] = [] from rfl, I.quiet, List.not_mem_nil, false_implies, implies_true, -List.reduceReplicate, decide_true, decide_false, hS]; refine RD_callvS (c53) ?_; simp only [SX, Nat.reduceEqDiff, ↓reduceIte, Nat.reduceSub, Nat.reduceAdd, Nat.reduceLT, Nat.reduceLeDiff, Nat.one_ne_zero, Nat.zero_ne_one, show decP [] = [] from rfl, I.quiet, List.not_mem_nil, false_implies, implies_true, -List.reduceReplicate, decide_true, decide_false, hS]; exact hkk) ?_; (repeat first | with_reducible refine nxt_n ?_ | with_reducible refine nxt_e ?_ | with_reducible refine nxt_r ?_ | with_reducible refine inB_n ?_ | with_reducible refine inB_r ?_ | with_reducible refine inB_x ?_ | with_reducible refine inB_y (by decide) ?_ | with_reducible refine orQ_r ?_ | with_reducible refine orQ_x ?_ | with_reducible refine orQ_n ?_))
        refine EX.dec rfl (fun hd => ?_) (fun hd => ?_)
        · refine EX.regx (by intro KK hkk; unfold f92_r5; simp only [SX, Nat.reduceEqDiff, ↓reduceIte, Nat.reduceSub, Nat.reduceAdd, Nat.reduceLT, Nat.reduceLeDiff, Nat.one_ne_zero, Nat.zero_ne_one, show decP [] = [] from rfl, I.quiet, List.not_mem_nil, false_implies, implies_true, -List.reduceReplicate, decide_true, decide_false, wrap_nat (show cntTo ps xs i < 4611686018427387904 by omega)]; exact hkk) ?_
          have e : cntTo ps xs (i + 1) = cntTo ps xs i + 1 := by rw [cntTo, if_pos hd]
          rw [e]
          exact ⟨rfl, rfl, rfl, rfl, rfl, rfl, rfl, rfl⟩
        · refine EX.skip ?_
          have e : cntTo ps xs (i + 1) = cntTo ps xs i := by rw [cntTo, if_neg hd]; rfl
          rw [e]
          exact ⟨rfl, rfl, rfl, rfl, rfl, rfl, rfl, rfl⟩
      · rintro T1 H1 ⟨t0, t2, t3, t4, t9, t10, rfl⟩
        have hip : i < ps.length := by omega
        obtain ⟨g1, g2, g3⟩ := goodB_get hex hip
        obtain ⟨q1, q2⟩ := hp.2 i xs[i] ps[i] (List.getElem?_eq_getElem hlt) (List.getElem?_eq_getElem hip)
        have hl1 : ps[i].length ≤ 1000 := (hs.2 _ (List.getElem_mem hip)).1
        obtain ⟨k1, k2⟩ := totTo_bd hs hp hex i hi
        have k3 := dist_le q1 q2 g2 g3
        have k4 := dist_nonneg xs[i] ex[i]
        have hsl1 := ias1_sl (h := h.app bs) (B := h.next + i0) (n := xs.length) (m := xs.length) (k := .i64) (j := (i : Nat)) (by omega) (by omega)
        simp only [Int.toNat_natCast] at hsl1
        rw [← hve] at hsl1
        have hzl : i < zs.length := Nat.lt_of_lt_of_le hlt hz.length_le
        have hrz := pre_rd hz hlt
        have w1 : IntKind.wrap .i64 (xs[i] - ex[i]) = xs[i] - ex[i] := wrap_id (by omega) (by omega)
        have w2 : IntKind.wrap .i64 (ex[i] - xs[i]) = ex[i] - xs[i] := wrap_id (by omega) (by omega)
        have w3 : IntKind.wrap .i64 (totTo xs ex i + mm2 true (xs[i] - ex[i]) (ex[i] - xs[i])) = totTo xs ex (i + 1) := by
          rw [totTo, rd_eq hlt, rd_eq g1]
          exact wrap_id (by show _ ≤ _ + dist _ _; omega) (by show _ + dist _ _ < _; omega)
        ((repeat first | with_reducible refine EX.seq ?_ | with_reducible refine EX.blk ?_); refine EX.drwx (by intro KK hkk; unfold f92_r6; simp only [SX, Nat.reduceEqDiff, ↓reduceIte, Nat.reduceSub, Nat.reduceAdd, Nat.reduceLT, Nat.reduceLeDiff, Nat.one_ne_zero, Nat.zero_ne_one, show decP [] = [] from rfl, I.quiet, List.not_mem_nil, false_implies, implies_true, -List.reduceReplicate, decide_true, decide_false, t0, t2, t3, t4, hS, hsl1, hbi, F_geti hzl, hrz, g1, ld1_ef g1 o1i, rd_eq g1, w1, w2, w3]; exact hkk) ?_; (repeat first | with_reducible refine nxt_n ?_ | with_reducible refine nxt_e ?_ | with_reducible refine nxt_r ?_ | with_reducible refine inB_n ?_ | with_reducible refine inB_r ?_ | with_reducible refine inB_x ?_ | with_reducible refine inB_y (by decide) ?_ | with_reducible refine orQ_r ?_ | with_reducible refine orQ_x ?_ | with_reducible refine orQ_n ?_))
        ((repeat first | with_reducible refine EX.seq ?_ | with_reducible refine EX.blk ?_); refine EX.regx (by intro KK hkk; unfold f92_r7; simp only [SX, Nat.reduceEqDiff, ↓reduceIte, Nat.reduceSub, Nat.reduceAdd, Nat.reduceLT, Nat.reduceLeDiff, Nat.one_ne_zero, Nat.zero_ne_one, show decP [] = [] from rfl, I.quiet, List.not_mem_nil, false_implies, implies_true, -List.reduceReplicate, decide_true, decide_false, t10, wrap_nat (show i < 4611686018427387904 by omega)]; exact hkk) ?_; (repeat first | with_reducible refine nxt_n ?_ | with_reducible refine nxt_e ?_ | with_reducible refine nxt_r ?_ | with_reducible refine inB_n ?_ | with_reducible refine inB_r ?_ | with_reducible refine inB_x ?_ | with_reducible refine inB_y (by decide) ?_ | with_reducible refine orQ_r ?_ | with_reducible refine orQ_x ?_ | with_reducible refine orQ_n ?_))
        refine ⟨i + 1, by omega, by omega, Less.wk ?_⟩
        refine Less.upd (Less.upd (Less.upd (Less.upd (Less.upd Less.nil ?_) ?_) ?_) ?_) ?_ <;> simp [upd, t0, t2, t9]
    · (refine EX.exit ?_; (repeat first | with_reducible refine nxt_n ?_ | with_reducible refine nxt_e ?_ | with_reducible refine nxt_r ?_ | with_reducible refine inB_n ?_ | with_reducible refine inB_r ?_ | with_reducible refine inB_x ?_ | with_reducible refine inB_y (by decide) ?_ | with_reducible refine orQ_r ?_ | with_reducible refine orQ_x ?_ | with_reducible refine orQ_n ?_))
      have : i = xs.length := by omega
      subst this
      exact ⟨rfl, rfl, rfl, rfl⟩
  rintro T1 H1 ⟨t0, t2, t3, rfl⟩
  have inv0 : RInv h.next bs s ps ex occ bud xs (used, found, sum, best) := ⟨v, vb, hS, hv, hb⟩
  ((repeat first | with_reducible refine EX.seq ?_ | with_reducible refine EX.blk ?_); refine EX.regx (by intro KK hkk; unfold f92_r8; simp only [SX, Nat.reduceEqDiff, ↓reduceIte, Nat.reduceSub, Nat.reduceAdd, Nat.reduceLT, Nat.reduceLeDiff, Nat.one_ne_zero, Nat.zero_ne_one, show decP [] = [] from rfl, I.quiet, List.not_mem_nil, false_implies, implies_true, -List.reduceReplicate, decide_true, decide_false, t0, t2, hS]; exact hkk) ?_; (repeat first | with_reducible refine nxt_n ?_ | with_reducible refine nxt_e ?_ | with_reducible refine nxt_r ?_ | with_reducible refine inB_n ?_ | with_reducible refine inB_r ?_ | with_reducible refine inB_x ?_ | with_reducible refine inB_y (by decide) ?_ | with_reducible refine orQ_r ?_ | with_reducible refine orQ_x ?_ | with_reducible refine orQ_n ?_))
  refine EX.dec rfl (fun hd => ?_) (fun hd => ?_)
  · ((repeat first | with_reducible refine EX.seq ?_ | with_reducible refine EX.blk ?_); refine EX.ret ?_; (repeat first | with_reducible refine nxt_n ?_ | with_reducible refine nxt_e ?_ | with_reducible refine nxt_r ?_ | with_reducible refine inB_n ?_ | with_reducible refine inB_r ?_ | with_reducible refine inB_x ?_ | with_reducible refine inB_y (by decide) ?_ | with_reducible refine orQ_r ?_ | with_reducible refine orQ_x ?_ | with_reducible refine orQ_n ?_); refine ⟨_, rfl, ?_⟩; simp only [packV, upd, Nat.reduceEqDiff, reduceIte, if_true, if_false, Nat.one_ne_zero, Nat.zero_ne_one])
    refine ⟨trivial, bs, rfl, ?_⟩
    rw [leafR, if_pos (fun e => hd (by rw [e]))]; exact inv0
  · (refine EX.skip ?_; (repeat first | with_reducible refine nxt_n ?_ | with_reducible refine nxt_e ?_ | with_reducible refine nxt_r ?_ | with_reducible refine inB_n ?_ | with_reducible refine inB_r ?_ | with_reducible refine inB_x ?_ | with_reducible refine inB_y (by decide) ?_ | with_reducible refine orQ_r ?_ | with_reducible refine orQ_x ?_ | with_reducible refine orQ_n ?_))
    have hcnt : ¬ (cntTo ps xs xs.length ≠ occ.length) := fun e => hd (by omega)
    refine EX.cut (F := fun T2 H2 => ∃ bs', H2 = h.app bs' ∧ RInv h.next bs' s ps ex occ bud xs (used, leafR ps ex occ xs (found, sum, best))) ?_ ?_
    · refine EX.blk ?_
      have hx1000 : xs.length ≤ 1000 := by omega
      refine EX.seqM (F := fun T2 H2 => T2 0 = .pointer (some ⟨h.next + s, 0, none⟩) ∧ T2 3 = .int .i64 (tot ex xs) ∧ T2 67 = .bool (decide ((found : Int) = 0) || decide (tot ex xs < sum)) ∧ H2 = h.app bs) ?_ ?_
      · cases c1 : decide ((found : Int) = 0) with
        | true =>
          refine EX.regx (by intro KK hkk; unfold f92_r9; simp only [SX, Nat.reduceEqDiff, ↓reduceIte, Nat.reduceSub, Nat.reduceAdd, Nat.reduceLT, Nat.reduceLeDiff, Nat.one_ne_zero, Nat.zero_ne_one, show decP [] = [] from rfl, I.quiet, List.not_mem_nil, false_implies, implies_true, -List.reduceReplicate, decide_true, decide_false, t0, t3, hS, c1]; exact hkk) ?_
          exact ⟨rfl, t0, t3, rfl, rfl⟩
        | false =>
          refine EX.regx (by intro KK hkk; unfold f92_r9; simp only [SX, Nat.reduceEqDiff, ↓reduceIte, Nat.reduceSub, Nat.reduceAdd, Nat.reduceLT, Nat.reduceLeDiff, Nat.one_ne_zero, Nat.zero_ne_one, show decP [] = [] from rfl, I.quiet, List.not_mem_nil, false_implies, implies_true, -List.reduceReplicate, decide_true, decide_false, t0, t3, hS, c1]; exact hkk) ?_
          exact ⟨rfl, t0, t3, rfl, rfl⟩
      rintro T2 H2 ⟨u0, u3, u67, rfl⟩
      cases c1 : (decide ((found : Int) = 0) || decide (tot ex xs < sum)) with
      | true =>
        rw [c1] at u67
        refine EX.condT u67 ?_
        have hlf : leafR ps ex occ xs (found, sum, best) = (1, tot ex xs, xs) := by
          simp only [Bool.or_eq_true, decide_eq_true_eq] at c1
          rw [leafR, if_neg hcnt, if_pos (show found = 0 ∨ tot ex xs < sum from c1.imp (fun c => by omega) id)]
        refine EX.seqM (F := fun T3 H3 => T3 0 = .pointer (some ⟨h.next + s, 0, none⟩) ∧ H3 = h.app (bs.set s (some (.row 91 0 [L ps, L ex, L occ, .int .i64 bud, .int .i64 used, v, .int .i64 1, .int .i64 (tot ex xs), vb])))) ?_ ?_
        · refine EX.regx (by intro KK hkk; unfold f92_r10; simp only [SX, Nat.reduceEqDiff, ↓reduceIte, Nat.reduceSub, Nat.reduceAdd, Nat.reduceLT, Nat.reduceLeDiff, Nat.one_ne_zero, Nat.zero_ne_one, show decP [] = [] from rfl, I.quiet, List.not_mem_nil, false_implies, implies_true, -List.reduceReplicate, decide_true, decide_false, u0, u3, hS, stAt_row hw.roi, hsl, List.getElem?_set_self, List.length_set, List.set_set]; exact hkk) ?_
          exact ⟨rfl, u0, rfl⟩
        · rintro T3 H3 ⟨w0, rfl⟩
          have hv1 : AtV h.next (bs.set s (some (.row 91 0 [L ps, L ex, L occ, .int .i64 bud, .int .i64 used, v, .int .i64 1, .int .i64 (tot ex xs), vb]))) v xs := hv.keep fun i b => set_keep hS (by decide)
          obtain ⟨cp1, cp2⟩ := hv1.copy hn hx1000
          have hone : one (.slice (some ⟨h.next + bs.length, 0, none⟩) xs.length xs.length) = true := rfl
          refine EX.regx (by intro KK hkk; unfold f92_r11; simp only [SX, Nat.reduceEqDiff, ↓reduceIte, Nat.reduceSub, Nat.reduceAdd, Nat.reduceLT, Nat.reduceLeDiff, Nat.one_ne_zero, Nat.zero_ne_one, show decP [] = [] from rfl, I.quiet, List.not_mem_nil, false_implies, implies_true, -List.reduceReplicate, decide_true, decide_false, w0, hsl, List.getElem?_set_self, List.length_set, List.set_set, cp1, List.length_append, Nat.lt_add_right, List.getElem?_append_left, stAt_row hw.roi]; exact hkk) ?_
          (repeat first | with_reducible refine nxt_n ?_ | with_reducible refine nxt_e ?_ | with_reducible refine nxt_r ?_ | with_reducible refine inB_n ?_ | with_reducible refine inB_r ?_ | with_reducible refine inB_x ?_ | with_reducible refine inB_y (by decide) ?_ | with_reducible refine orQ_r ?_ | with_reducible refine orQ_x ?_ | with_reducible refine orQ_n ?_)
          refine ⟨rfl, _, rfl, ?_⟩
          rw [hlf]
          refine ⟨v, _, List.getElem?_set_self (by simp; omega), ?_, ?_⟩
          · refine hv1.keep fun i b hi => ?_
            have := getElem?_lt hi
            simp only [List.length_set] at this
            rw [List.getElem?_set, if_neg, List.getElem?_append_left (by simpa using this)]
            · exact hi
            · rintro rfl; rw [List.getElem?_set_self hsl] at hi; simp at hi
          · refine .inr ⟨bs.length, rfl, hn, ?_, by simpa using cp2⟩
            rw [List.getElem?_set, if_neg (by omega), List.getElem?_append_right (by simp)]; simp
      | false =>
        rw [c1] at u67
        refine EX.condF u67 ?_
        simp only [Bool.or_eq_false_iff, decide_eq_false_iff_not] at c1
        (repeat first | with_reducible refine EX.seq ?_ | with_reducible refine EX.blk ?_)
        refine EX.regx (by intro KK hkk; unfold f92_r12; simp only [SX, Nat.reduceEqDiff, ↓reduceIte, Nat.reduceSub, Nat.reduceAdd, Nat.reduceLT, Nat.reduceLeDiff, Nat.one_ne_zero, Nat.zero_ne_one, show decP [] = [] from rfl, I.quiet, List.not_mem_nil, false_implies, implies_true, -List.reduceReplicate, decide_true, decide_false, u0, u3, hS]; exact hkk) ?_
        (repeat first | with_reducible refine nxt_n ?_ | with_reducible refine nxt_e ?_ | with_reducible refine nxt_r ?_ | with_reducible refine inB_n ?_ | with_reducible refine inB_r ?_ | with_reducible refine inB_x ?_ | with_reducible refine inB_y (by decide) ?_ | with_reducible refine orQ_r ?_ | with_reducible refine orQ_x ?_ | with_reducible refine orQ_n ?_)
        refine EX.dec rfl (fun hd => ?_) (fun hd => ?_)
        · refine EX.regx (by intro KK hkk; unfold f92_r13; simp only [SX, Nat.reduceEqDiff, ↓reduceIte, Nat.reduceSub, Nat.reduceAdd, Nat.reduceLT, Nat.reduceLeDiff, Nat.one_ne_zero, Nat.zero_ne_one, show decP [] = [] from rfl, I.quiet, List.not_mem_nil, false_implies, implies_true, -List.reduceReplicate, decide_true, decide_false, u0, u3, hS, stAt_row hw.roi, hsl, wrap_nat (show found < 4611686018427387904 from hf)]; exact hkk) ?_
          (repeat first | with_reducible refine nxt_n ?_ | with_reducible refine nxt_e ?_ | with_reducible refine nxt_r ?_ | with_reducible refine inB_n ?_ | with_reducible refine inB_r ?_ | with_reducible refine inB_x ?_ | with_reducible refine inB_y (by decide) ?_ | with_reducible refine orQ_r ?_ | with_reducible refine orQ_x ?_ | with_reducible refine orQ_n ?_)
          refine ⟨rfl, _, rfl, ?_⟩
          rw [leafR, if_neg hcnt, if_neg (by rintro (k | k); exact c1.1 (by simp only at k; omega); exact c1.2 k), if_pos hd]
          exact ⟨v, vb, List.getElem?_set_self hsl, hv.keep fun i b => set_keep hS (by decide), hb.keep fun i b hi hv => ⟨set_keep hS (by decide) hi, hv⟩⟩
        · (refine EX.skip ?_; (repeat first | with_reducible refine nxt_n ?_ | with_reducible refine nxt_e ?_ | with_reducible refine nxt_r ?_ | with_reducible refine inB_n ?_ | with_reducible refine inB_r ?_ | with_reducible refine inB_x ?_ | with_reducible refine inB_y (by decide) ?_ | with_reducible refine orQ_r ?_ | with_reducible refine orQ_x ?_ | with_reducible refine orQ_n ?_))
          refine ⟨rfl, _, rfl, ?_⟩
          rw [leafR, if_neg hcnt, if_neg (by rintro (k | k); exact c1.1 (by simp only at k; omega); exact c1.2 k), if_neg hd]
          exact inv0
    · rintro T2 H2 ⟨bs', rfl, hi'⟩
      exact ⟨_, rfl, rfl, bs', rfl, hi'⟩
end
end Go.Proofs.Ythofdojknjhpgaa
