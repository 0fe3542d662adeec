/- Contracts: Identify, of the program and of the reference. -/
import Derived.Test.YthofdojknjhpgaaQ14
import Derived.Test.YthofdojknjhpgaaQ5
set_option linter.unusedVariables false
set_option linter.unusedSimpArgs false
namespace Go.Proofs.Ythofdojknjhpgaa
open Go
/-! ### Two searches side by side -/
theorem walk_sim {S1 S2 : Type} {R : S1 → S2 → Prop} {ok : Int → Bool} {bud : Int} {rec1 : Int → Nat × S1 → Bool × Nat × S1} {rec2 : Int → Nat × S2 → Bool × Nat × S2}
    (hr : ∀ p u a b, R a b → (rec1 p (u, a)).1 = (rec2 p (u, b)).1 ∧ (rec1 p (u, a)).2.1 = (rec2 p (u, b)).2.1 ∧ R (rec1 p (u, a)).2.2 (rec2 p (u, b)).2.2) : ∀ (m k u : Nat) (a : S1) (b : S2), R a b →
      (walk ok bud rec1 m k (u, a)).1 = (walk ok bud rec2 m k (u, b)).1 ∧ (walk ok bud rec1 m k (u, a)).2.1 = (walk ok bud rec2 m k (u, b)).2.1 ∧ R (walk ok bud rec1 m k (u, a)).2.2 (walk ok bud rec2 m k (u, b)).2.2
  | 0, k, u, a, b, h => ⟨rfl, rfl, h⟩
  | m + 1, k, u, a, b, h => by
    simp only [walk]
    split
    · exact ⟨rfl, rfl, h⟩
    · split
      · obtain ⟨h1, h2, h3⟩ := hr ((k : Int) - 1) (u + 1) a b h
        revert h1 h2 h3
        generalize rec1 ((k : Int) - 1) (u + 1, a) = x
        generalize rec2 ((k : Int) - 1) (u + 1, b) = y
        obtain ⟨x1, x2, x3⟩ := x
        obtain ⟨y1, y2, y3⟩ := y
        intro h1 h2 h3
        simp only at h1 h2 h3
        subst h1; subst h2
        by_cases hx : x1 = true
        · simp only [hx, if_true]
          exact walk_sim hr m (k + 1) x2 x3 y3 h3
        · simp only [hx]
          exact ⟨rfl, rfl, h3⟩
      · exact walk_sim hr m (k + 1) (u + 1) a b h
theorem dfs_sim {S1 S2 : Type} {R : S1 → S2 → Prop} {ps : List (List Stg)} {occ : List Int} {bud : Int} {leaf1 : List Int → S1 → S1} {leaf2 : List Int → S2 → S2}
    (hl : ∀ xs a b, xs.length = ps.length → R a b → R (leaf1 xs a) (leaf2 xs b)) : ∀ (n : Nat) (xs : List Int), n + xs.length = ps.length → ∀ (u : Nat) (a : S1) (b : S2), R a b →
      (dfs ps occ bud leaf1 n xs (u, a)).1 = (dfs ps occ bud leaf2 n xs (u, b)).1 ∧ (dfs ps occ bud leaf1 n xs (u, a)).2.1 = (dfs ps occ bud leaf2 n xs (u, b)).2.1 ∧ R (dfs ps occ bud leaf1 n xs (u, a)).2.2 (dfs ps occ bud leaf2 n xs (u, b)).2.2
  | 0, xs, hn, u, a, b, h => ⟨rfl, rfl, hl xs a b (by omega) h⟩
  | n + 1, xs, hn, u, a, b, h => by
    simp only [dfs]
    exact walk_sim (fun p u a b h => dfs_sim hl n (xs ++ [p]) (by simp; omega) u a b h) _ _ u a b h
/-- The program's state beside the reference's. -/
def SimR (a : Int × List Int × Bool) (b : Nat × Int × List Int) : Prop := (a.2.1 = [] ↔ b.1 = 0) ∧ (b.1 ≠ 0 → a.1 = b.2.1 ∧ a.2.2 = decide (1 < b.1) ∧ (b.1 = 1 → a.2.1 = b.2.2))
theorem leaf_sim {ps : List (List Stg)} {ex occ xs : List Int} (hne : ps ≠ []) {a : Int × List Int × Bool} {b : Nat × Int × List Int} (hx : xs.length = ps.length) (h : SimR a b) : SimR (leafP ps ex occ xs a) (leafR ps ex occ xs b) := by
  obtain ⟨sum, best, tw⟩ := a
  obtain ⟨found, sum2, best2⟩ := b
  have hxn : xs ≠ [] := by rintro rfl; exact hne (List.eq_nil_of_length_eq_zero hx.symm)
  obtain ⟨h1, h2⟩ := h
  simp only at h1 h2
  unfold leafP leafR
  simp only
  by_cases hc : cntTo ps xs xs.length = occ.length
  · rw [if_neg (show ¬ (cntTo ps xs xs.length ≠ occ.length) from fun e => e hc)]
    by_cases hf : found = 0
    · rw [if_pos ⟨hc, .inl (h1.2 hf)⟩, if_pos (.inl hf)]
      refine ⟨⟨fun e => absurd e hxn, fun e => by simp at e⟩, fun _ => ⟨rfl, ?_, fun _ => rfl⟩⟩
      have := h1.2 hf
      simp [this]
    · obtain ⟨rfl, h3, h4⟩ := h2 hf
      have hb : ¬ best = [] := fun e => hf (h1.1 e)
      by_cases h5 : tot ex xs < sum
      · rw [if_pos ⟨hc, .inr (by omega)⟩, if_pos (.inr h5)]
        refine ⟨⟨fun e => absurd e hxn, fun e => by simp at e⟩, fun _ => ⟨rfl, ?_, fun _ => rfl⟩⟩
        have : ¬ tot ex xs = sum := by omega
        simp [this]
      · rw [if_neg (show ¬ (found = 0 ∨ tot ex xs < sum) from by rintro (e | e); exact hf e; exact h5 e)]
        by_cases h6 : tot ex xs = sum
        · rw [if_pos ⟨hc, .inr (by omega)⟩, if_pos h6]
          refine ⟨⟨fun e => absurd e hxn, fun e => by simp at e⟩, fun _ => ⟨h6, ?_, fun e => ?_⟩⟩
          · have : 1 < found + 1 := by omega
            simp [hb, h6, this]
          · have : found + 1 = 1 := e
            omega
        · rw [if_neg (show ¬ (cntTo ps xs xs.length = occ.length ∧ (best = [] ∨ tot ex xs ≤ sum)) from by rintro ⟨_, e | e⟩; exact hb e; omega), if_neg h6]
          exact ⟨h1, h2⟩
  · rw [if_neg (fun e => hc e.1), if_pos hc]
    exact ⟨h1, h2⟩
theorem dfs_len {ps : List (List Stg)} {ex occ xs : List Int} {bud : Int} {n u : Nat} {b : Nat × Int × List Int} (hn : n + xs.length = ps.length) (h : b.1 ≠ 0 → b.2.2.length = ps.length) : (dfs ps occ bud (leafR ps ex occ) n xs (u, b)).2.2.1 ≠ 0 → (dfs ps occ bud (leafR ps ex occ) n xs (u, b)).2.2.2.2.length = ps.length := by
  refine (dfs_sim (R := fun (b _ : Nat × Int × List Int) => b.1 ≠ 0 → b.2.2.length = ps.length) (leaf1 := leafR ps ex occ) (leaf2 := leafR ps ex occ) ?_ n xs hn u b b h).2.2
  intro xs a b hx ha
  unfold leafR
  split
  · exact ha
  · split
    · exact fun _ => hx
    · split
      · rename_i h1 h2
        exact fun _ => ha fun e => h1 (.inl e)
      · exact ha
/-- What Identify returns for valid paths and good positions: positions, steps, error. -/
def ident (ps : List (List Stg)) (ex occ : List Int) (bud : Int) : List Int × Int × Int :=
  if ¬ occ.Pairwise (· < ·) then ([], 0, 1) else if bud < 1 ∨ 1048576 < bud then ([], 0, 4) else
  match dfs ps occ bud (leafR ps ex occ) ps.length [] (0, 0, 0, []) with
  | (false, _) => ([], 0, 15)
  | (true, used, found, _, best) => if found = 0 then ([], used, 6) else if 1 < found then ([], used, 13) else (best, used, 0)
def identV (r : List Int × Int × Int) : Value := .tuple #[L r.1, .int .i64 r.2.1, .int .i64 r.2.2]
theorem identV_cl {r : List Int × Int × Int} : Cl (identV r) := Cl.tuple (vs := [L r.1, .int .i64 r.2.1, .int .i64 r.2.2]) (by
  intro v hv
  simp only [List.mem_cons, List.not_mem_nil, or_false] at hv
  rcases hv with rfl | rfl | rfl
  · exact L_cl
  · exact Cl.int
  · exact Cl.int)
theorem asc_step {occ : List Int} {j : Nat} (hj : j + 1 < occ.length) (hp : (occ.take (j + 1)).Pairwise (· < ·)) (hl : occ[j] < occ[j + 1]) : (occ.take (j + 2)).Pairwise (· < ·) := by
  rw [List.take_succ_eq_append_getElem hj, List.pairwise_append]
  refine ⟨hp, List.pairwise_singleton _ _, ?_⟩
  intro a ha b hb
  obtain rfl := List.mem_singleton.1 hb
  obtain ⟨t, ht, rfl⟩ := List.getElem_of_mem ha
  rw [List.getElem_take]
  simp only [List.length_take] at ht
  by_cases e : t = j
  · subst e; exact hl
  · have := List.pairwise_iff_getElem.1 hp t j (by simp; omega) (by simp; omega) (by omega)
    simp only [List.getElem_take] at this
    omega
section
variable {h : AH} {bs : List (Option Blk)} {ps : List (List Stg)} {ex occ xs best : List Int} {s m : Nat} {bud : Int} {v vb : Value} {T : Tm} {H : AH}
theorem ret3 {a b : Int} (hw : Wf h) (hH : H = h.app bs) (h8 : T 8 = .slice none 0 0) (h9 : T 9 = .int .i64 a) (h10 : T 10 = .int .i64 b) : Wk h.next (upd (upd (upd TE 8 (L ([] : List Int))) 9 (.int .i64 a)) 10 (.int .i64 b)) h T H := by
  subst hH
  exact Wk.app0 hw (RVs.updc (RVs.updc (RVs.upd RVs.nil (by rw [h8]; exact RV.nilL)) Cl.int h9) Cl.int h10)
theorem ret3B {a b : Int} (hw : Wf h) (hb : BestV h.next bs v vb best) (hn : best ≠ []) (hl : best.length < 4611686018427387904) (h8 : T 8 = vb) (h9 : T 9 = .int .i64 a) (h10 : T 10 = .int .i64 b) : Wk h.next (upd (upd (upd TE 8 (L best)) 9 (.int .i64 a)) 10 (.int .i64 b)) h T (h.app bs) := by
  rcases hb with ⟨_, rfl⟩ | ⟨j, rfl, _, hj, _⟩
  · exact absurd rfl hn
  refine Wk.trans (Wk.frzApp (T0 := upd (upd (upd TE 8 (L best)) 9 (.int .i64 a)) 10 (.int .i64 b)) (bs' := List.replicate bs.length none) hw hj (by simp) ?_ ?_) (Wk.app0 hw (RVs.updc (RVs.updc (RVs.updc RVs.nil L_cl rfl) Cl.int rfl) Cl.int rfl))
  · intro i b0 hi
    rw [List.getElem?_replicate] at hi
    split at hi <;> cases hi
  · refine FVs.upd (FVs.upd ?_ h9) h10
    intro i
    unfold Go.Proofs.Ythofdojknjhpgaa.upd; split
    · rename_i e; subst e
      rw [h8]
      refine .inr (.inr (.inr ⟨0, best.length, best.length, hl, by rw [F_len, w1i]; omega, rfl, ?_⟩))
      rw [List.drop_zero, List.take_of_length_le (by rw [F_len, w1i]; omega)]
      rfl
    · exact .inl rfl
/-- 'Identify' of the reference. -/
theorem f20_ok (hval : validB ps = true) (hgood : goodB ps ex = true) (hs : SmallP ps) (hne : ps ≠ []) (ho : occ.length < 4611686018427387904) : AC Go.Proofs.Try.prog 20 [L ps, L ex, L occ, .int .i64 bud] h (identV (ident ps ex occ bud)) h := by
  refine AC.wf fun hw => AC.of_app hw identV_cl ?_
  refine EC.intro f20_is ?_
  unfold f20_c
  ((repeat first | with_reducible refine EX.seq ?_ | with_reducible refine EX.blk ?_); refine EX.regx (by intro KK hkk; unfold f20_r0; simp only [SX, Nat.reduceEqDiff, ↓reduceIte, Nat.reduceSub, Nat.reduceAdd, Nat.reduceLT, Nat.reduceLeDiff, Nat.one_ne_zero, Nat.zero_ne_one, show decP [] = [] from rfl, I.quiet, List.not_mem_nil, false_implies, implies_true, -List.reduceReplicate, decide_true, decide_false]; exact hkk) ?_; (repeat first | with_reducible refine nxt_n ?_ | with_reducible refine nxt_e ?_ | with_reducible refine nxt_r ?_ | with_reducible refine inB_n ?_ | with_reducible refine inB_r ?_ | with_reducible refine inB_x ?_ | with_reducible refine inB_y (by decide) ?_ | with_reducible refine orQ_r ?_ | with_reducible refine orQ_x ?_ | with_reducible refine orQ_n ?_))
  ((repeat first | with_reducible refine EX.seq ?_ | with_reducible refine EX.blk ?_); refine EX.regx (by intro KK hkk; unfold f20_r1; simp only [SX, Nat.reduceEqDiff, ↓reduceIte, Nat.reduceSub, Nat.reduceAdd, Nat.reduceLT, Nat.reduceLeDiff, Nat.one_ne_zero, Nat.zero_ne_one, show decP [] = [] from rfl, I.quiet, List.not_mem_nil, false_implies, implies_true, -List.reduceReplicate, decide_true, decide_false, hval, hgood]; refine RO_callvS (f27_ok) ?_; simp only [SX, Nat.reduceEqDiff, ↓reduceIte, Nat.reduceSub, Nat.reduceAdd, Nat.reduceLT, Nat.reduceLeDiff, Nat.one_ne_zero, Nat.zero_ne_one, show decP [] = [] from rfl, I.quiet, List.not_mem_nil, false_implies, implies_true, -List.reduceReplicate, decide_true, decide_false, hval, hgood]; refine RO_callvS (f49_ok) ?_; simp only [SX, Nat.reduceEqDiff, ↓reduceIte, Nat.reduceSub, Nat.reduceAdd, Nat.reduceLT, Nat.reduceLeDiff, Nat.one_ne_zero, Nat.zero_ne_one, show decP [] = [] from rfl, I.quiet, List.not_mem_nil, false_implies, implies_true, -List.reduceReplicate, decide_true, decide_false, hval, hgood]; exact hkk) ?_; (repeat first | with_reducible refine nxt_n ?_ | with_reducible refine nxt_e ?_ | with_reducible refine nxt_r ?_ | with_reducible refine inB_n ?_ | with_reducible refine inB_r ?_ | with_reducible refine inB_x ?_ | with_reducible refine inB_y (by decide) ?_ | with_reducible refine orQ_r ?_ | with_reducible refine orQ_x ?_ | with_reducible refine orQ_n ?_))
  refine EX.condF rfl ?_
  (refine EX.skip ?_; (repeat first | with_reducible refine nxt_n ?_ | with_reducible refine nxt_e ?_ | with_reducible refine nxt_r ?_ | with_reducible refine inB_n ?_ | with_reducible refine inB_r ?_ | with_reducible refine inB_x ?_ | with_reducible refine inB_y (by decide) ?_ | with_reducible refine orQ_r ?_ | with_reducible refine orQ_x ?_ | with_reducible refine orQ_n ?_))
  ((repeat first | with_reducible refine EX.seq ?_ | with_reducible refine EX.blk ?_); refine EX.regx (by intro KK hkk; unfold f20_r3; simp only [SX, Nat.reduceEqDiff, ↓reduceIte, Nat.reduceSub, Nat.reduceAdd, Nat.reduceLT, Nat.reduceLeDiff, Nat.one_ne_zero, Nat.zero_ne_one, show decP [] = [] from rfl, I.quiet, List.not_mem_nil, false_implies, implies_true, -List.reduceReplicate, decide_true, decide_false]; exact hkk) ?_; (repeat first | with_reducible refine nxt_n ?_ | with_reducible refine nxt_e ?_ | with_reducible refine nxt_r ?_ | with_reducible refine inB_n ?_ | with_reducible refine inB_r ?_ | with_reducible refine inB_x ?_ | with_reducible refine inB_y (by decide) ?_ | with_reducible refine orQ_r ?_ | with_reducible refine orQ_x ?_ | with_reducible refine orQ_n ?_))
  refine EX.nxtR (F := fun T1 H1 => occ.Pairwise (· < ·) ∧ T1 0 = L ps ∧ T1 1 = L ex ∧ T1 2 = L occ ∧ T1 3 = .int .i64 bud ∧ H1 = h) ?_ ?_
  · (repeat first | with_reducible refine EX.seq ?_ | with_reducible refine EX.blk ?_)
    refine EX.loop (σ := Nat) (fun j => upd (upd (upd (upd (upd TE 0 (L ps)) 1 (L ex)) 2 (L occ)) 3 (.int .i64 bud)) 11 (.int .i64 (j + 1 : Nat))) (fun _ => h)
      (fun j => (j = 0 ∨ j + 1 ≤ occ.length) ∧ (occ.take (j + 1)).Pairwise (· < ·)) (fun j => occ.length - j) 0 ⟨.inl rfl, ?_⟩ (Less.wk (by (repeat refine Less.upd ?_ (by rfl)); exact Less.nil)) ?_
    · cases occ with
      | nil => simp
      | cons x l => simp
    rintro j ⟨hj, hp⟩
    ((repeat first | with_reducible refine EX.seq ?_ | with_reducible refine EX.blk ?_); refine EX.regx (by intro KK hkk; unfold f20_r4; simp only [SX, Nat.reduceEqDiff, ↓reduceIte, Nat.reduceSub, Nat.reduceAdd, Nat.reduceLT, Nat.reduceLeDiff, Nat.one_ne_zero, Nat.zero_ne_one, show decP [] = [] from rfl, I.quiet, List.not_mem_nil, false_implies, implies_true, -List.reduceReplicate, decide_true, decide_false, lt_nat]; exact hkk) ?_; (repeat first | with_reducible refine nxt_n ?_ | with_reducible refine nxt_e ?_ | with_reducible refine nxt_r ?_ | with_reducible refine inB_n ?_ | with_reducible refine inB_r ?_ | with_reducible refine inB_x ?_ | with_reducible refine inB_y (by decide) ?_ | with_reducible refine orQ_r ?_ | with_reducible refine orQ_x ?_ | with_reducible refine orQ_n ?_))
    (repeat first | with_reducible refine EX.seq ?_ | with_reducible refine EX.blk ?_)
    refine EX.dec rfl (fun hlt => ?_) (fun hlt => ?_)
    · (refine EX.skip ?_; (repeat first | with_reducible refine nxt_n ?_ | with_reducible refine nxt_e ?_ | with_reducible refine nxt_r ?_ | with_reducible refine inB_n ?_ | with_reducible refine inB_r ?_ | with_reducible refine inB_x ?_ | with_reducible refine inB_y (by decide) ?_ | with_reducible refine orQ_r ?_ | with_reducible refine orQ_x ?_ | with_reducible refine orQ_n ?_))
      have hj0 : j < occ.length := by omega
      ((repeat first | with_reducible refine EX.seq ?_ | with_reducible refine EX.blk ?_); refine EX.drwx (by intro KK hkk; unfold f20_r5; simp only [SX, Nat.reduceEqDiff, ↓reduceIte, Nat.reduceSub, Nat.reduceAdd, Nat.reduceLT, Nat.reduceLeDiff, Nat.one_ne_zero, Nat.zero_ne_one, show decP [] = [] from rfl, I.quiet, List.not_mem_nil, false_implies, implies_true, -List.reduceReplicate, decide_true, decide_false, wrap_sub1 (show j < 4611686018427387904 by omega), hlt, hj0, ld1_ef hlt o1i, ld1_ef hj0 o1i, rd_eq hlt, rd_eq hj0]; exact hkk) ?_; (repeat first | with_reducible refine nxt_n ?_ | with_reducible refine nxt_e ?_ | with_reducible refine nxt_r ?_ | with_reducible refine inB_n ?_ | with_reducible refine inB_r ?_ | with_reducible refine inB_x ?_ | with_reducible refine inB_y (by decide) ?_ | with_reducible refine orQ_r ?_ | with_reducible refine orQ_x ?_ | with_reducible refine orQ_n ?_))
      refine EX.dec rfl (fun hd => ?_) (fun hd => ?_)
      · ((repeat first | with_reducible refine EX.seq ?_ | with_reducible refine EX.blk ?_); refine EX.regx (by intro KK hkk; unfold f20_r6; simp only [SX, Nat.reduceEqDiff, ↓reduceIte, Nat.reduceSub, Nat.reduceAdd, Nat.reduceLT, Nat.reduceLeDiff, Nat.one_ne_zero, Nat.zero_ne_one, show decP [] = [] from rfl, I.quiet, List.not_mem_nil, false_implies, implies_true, -List.reduceReplicate, decide_true, decide_false]; exact hkk) ?_; (repeat first | with_reducible refine nxt_n ?_ | with_reducible refine nxt_e ?_ | with_reducible refine nxt_r ?_ | with_reducible refine inB_n ?_ | with_reducible refine inB_r ?_ | with_reducible refine inB_x ?_ | with_reducible refine inB_y (by decide) ?_ | with_reducible refine orQ_r ?_ | with_reducible refine orQ_x ?_ | with_reducible refine orQ_n ?_))
        (repeat first | with_reducible refine EX.seq ?_ | with_reducible refine EX.blk ?_)
        refine EX.wk ?_ (ret3 (bs := []) hw (app_nil hw).symm rfl rfl rfl)
        ((repeat first | with_reducible refine EX.seq ?_ | with_reducible refine EX.blk ?_); refine EX.ret ?_; (repeat first | with_reducible refine nxt_n ?_ | with_reducible refine nxt_e ?_ | with_reducible refine nxt_r ?_ | with_reducible refine inB_n ?_ | with_reducible refine inB_r ?_ | with_reducible refine inB_x ?_ | with_reducible refine inB_y (by decide) ?_ | with_reducible refine orQ_r ?_ | with_reducible refine orQ_x ?_ | with_reducible refine orQ_n ?_); refine ⟨_, rfl, ?_⟩; simp only [packV, upd, Nat.reduceEqDiff, reduceIte, if_true, if_false, Nat.one_ne_zero, Nat.zero_ne_one])
        refine ⟨?_, [], (app_nil hw).symm⟩
        rw [ident, if_pos]
        · rfl
        · intro hq
          have := List.pairwise_iff_getElem.1 hq j (j + 1) hj0 hlt (by omega)
          omega
      · (refine EX.skip ?_; (repeat first | with_reducible refine nxt_n ?_ | with_reducible refine nxt_e ?_ | with_reducible refine nxt_r ?_ | with_reducible refine inB_n ?_ | with_reducible refine inB_r ?_ | with_reducible refine inB_x ?_ | with_reducible refine inB_y (by decide) ?_ | with_reducible refine orQ_r ?_ | with_reducible refine orQ_x ?_ | with_reducible refine orQ_n ?_))
        ((repeat first | with_reducible refine EX.seq ?_ | with_reducible refine EX.blk ?_); refine EX.regx (by intro KK hkk; unfold f20_r7; simp only [SX, Nat.reduceEqDiff, ↓reduceIte, Nat.reduceSub, Nat.reduceAdd, Nat.reduceLT, Nat.reduceLeDiff, Nat.one_ne_zero, Nat.zero_ne_one, show decP [] = [] from rfl, I.quiet, List.not_mem_nil, false_implies, implies_true, -List.reduceReplicate, decide_true, decide_false, wrap_nat (show j + 1 < 4611686018427387904 by omega)]; exact hkk) ?_; (repeat first | with_reducible refine nxt_n ?_ | with_reducible refine nxt_e ?_ | with_reducible refine nxt_r ?_ | with_reducible refine inB_n ?_ | with_reducible refine inB_r ?_ | with_reducible refine inB_x ?_ | with_reducible refine inB_y (by decide) ?_ | with_reducible refine orQ_r ?_ | with_reducible refine orQ_x ?_ | with_reducible refine orQ_n ?_))
        refine ⟨j + 1, ⟨.inr (by omega), asc_step hlt hp (by omega)⟩, by show occ.length - (j + 1) < occ.length - j; omega, Less.wk (by (repeat refine Less.upd ?_ (by rfl)); exact Less.nil)⟩
    · (refine EX.exit ?_; (repeat first | with_reducible refine nxt_n ?_ | with_reducible refine nxt_e ?_ | with_reducible refine nxt_r ?_ | with_reducible refine inB_n ?_ | with_reducible refine inB_r ?_ | with_reducible refine inB_x ?_ | with_reducible refine inB_y (by decide) ?_ | with_reducible refine orQ_r ?_ | with_reducible refine orQ_x ?_ | with_reducible refine orQ_n ?_))
      refine ⟨?_, rfl, rfl, rfl, rfl, rfl⟩
      rwa [List.take_of_length_le (by omega)] at hp
  rintro T1 H1 ⟨hasc, t0, t1, t2, t3, rfl⟩
  have hnn : ¬ ¬ occ.Pairwise (· < ·) := fun e => e hasc
  refine EX.seq ?_
  refine EX.seqM (F := fun T2 H2 => T2 0 = L ps ∧ T2 1 = L ex ∧ T2 2 = L occ ∧ T2 3 = .int .i64 bud ∧ T2 44 = .bool (decide (bud < 1) || decide (1048576 < bud)) ∧ H2 = H1) ?_ ?_
  · cases c1 : decide (bud < 1) with
    | true =>
      refine EX.regx (by intro KK hkk; unfold f20_r8; simp only [SX, Nat.reduceEqDiff, ↓reduceIte, Nat.reduceSub, Nat.reduceAdd, Nat.reduceLT, Nat.reduceLeDiff, Nat.one_ne_zero, Nat.zero_ne_one, show decP [] = [] from rfl, I.quiet, List.not_mem_nil, false_implies, implies_true, -List.reduceReplicate, decide_true, decide_false, t3, c1]; exact hkk) ?_
      exact ⟨rfl, t0, t1, t2, t3, rfl, rfl⟩
    | false =>
      refine EX.regx (by intro KK hkk; unfold f20_r8; simp only [SX, Nat.reduceEqDiff, ↓reduceIte, Nat.reduceSub, Nat.reduceAdd, Nat.reduceLT, Nat.reduceLeDiff, Nat.one_ne_zero, Nat.zero_ne_one, show decP [] = [] from rfl, I.quiet, List.not_mem_nil, false_implies, implies_true, -List.reduceReplicate, decide_true, decide_false, t3, c1]; exact hkk) ?_
      exact ⟨rfl, t0, t1, t2, t3, rfl, rfl⟩
  rintro T2 H2 ⟨u0, u1, u2, u3, u44, rfl⟩
  cases c1 : (decide (bud < 1) || decide (1048576 < bud)) with
  | true =>
    rw [c1] at u44
    refine EX.condT u44 ?_
    simp only [Bool.or_eq_true, decide_eq_true_eq] at c1
    ((repeat first | with_reducible refine EX.seq ?_ | with_reducible refine EX.blk ?_); refine EX.regx (by intro KK hkk; unfold f20_r9; simp only [SX, Nat.reduceEqDiff, ↓reduceIte, Nat.reduceSub, Nat.reduceAdd, Nat.reduceLT, Nat.reduceLeDiff, Nat.one_ne_zero, Nat.zero_ne_one, show decP [] = [] from rfl, I.quiet, List.not_mem_nil, false_implies, implies_true, -List.reduceReplicate, decide_true, decide_false]; exact hkk) ?_; (repeat first | with_reducible refine nxt_n ?_ | with_reducible refine nxt_e ?_ | with_reducible refine nxt_r ?_ | with_reducible refine inB_n ?_ | with_reducible refine inB_r ?_ | with_reducible refine inB_x ?_ | with_reducible refine inB_y (by decide) ?_ | with_reducible refine orQ_r ?_ | with_reducible refine orQ_x ?_ | with_reducible refine orQ_n ?_))
    (repeat first | with_reducible refine EX.seq ?_ | with_reducible refine EX.blk ?_)
    refine EX.wk ?_ (ret3 (bs := []) hw (app_nil hw).symm rfl rfl rfl)
    ((repeat first | with_reducible refine EX.seq ?_ | with_reducible refine EX.blk ?_); refine EX.ret ?_; (repeat first | with_reducible refine nxt_n ?_ | with_reducible refine nxt_e ?_ | with_reducible refine nxt_r ?_ | with_reducible refine inB_n ?_ | with_reducible refine inB_r ?_ | with_reducible refine inB_x ?_ | with_reducible refine inB_y (by decide) ?_ | with_reducible refine orQ_r ?_ | with_reducible refine orQ_x ?_ | with_reducible refine orQ_n ?_); refine ⟨_, rfl, ?_⟩; simp only [packV, upd, Nat.reduceEqDiff, reduceIte, if_true, if_false, Nat.one_ne_zero, Nat.zero_ne_one])
    refine ⟨?_, [], (app_nil hw).symm⟩
    rw [ident, if_neg hnn, if_pos c1]; rfl
  | false =>
  rw [c1] at u44
  refine EX.condF u44 ?_
  (refine EX.skip ?_; (repeat first | with_reducible refine nxt_n ?_ | with_reducible refine nxt_e ?_ | with_reducible refine nxt_r ?_ | with_reducible refine inB_n ?_ | with_reducible refine inB_r ?_ | with_reducible refine inB_x ?_ | with_reducible refine inB_y (by decide) ?_ | with_reducible refine orQ_r ?_ | with_reducible refine orQ_x ?_ | with_reducible refine orQ_n ?_))
  have hbb : ¬ (bud < 1 ∨ 1048576 < bud) := by
    simp only [Bool.or_eq_false_iff, decide_eq_false_iff_not] at c1; omega
  have hid : ident ps ex occ bud = match dfs ps occ bud (leafR ps ex occ) ps.length [] (0, 0, 0, []) with
      | (false, _) => ([], 0, 15)
      | (true, used, found, _, best) => if found = 0 then ([], used, 6) else if 1 < found then ([], used, 13) else (best, used, 0) := by
    rw [ident, if_neg hnn, if_neg hbb]
  rw [hid]
  ((repeat first | with_reducible refine EX.seq ?_ | with_reducible refine EX.blk ?_); refine EX.regx (by intro KK hkk; unfold f20_r10; simp only [SX, Nat.reduceEqDiff, ↓reduceIte, Nat.reduceSub, Nat.reduceAdd, Nat.reduceLT, Nat.reduceLeDiff, Nat.one_ne_zero, Nat.zero_ne_one, show decP [] = [] from rfl, I.quiet, List.not_mem_nil, false_implies, implies_true, -List.reduceReplicate, decide_true, decide_false, u0, u1, u2, u3, new_app hw]; exact hkk) ?_; (repeat first | with_reducible refine nxt_n ?_ | with_reducible refine nxt_e ?_ | with_reducible refine nxt_r ?_ | with_reducible refine inB_n ?_ | with_reducible refine inB_r ?_ | with_reducible refine inB_x ?_ | with_reducible refine inB_y (by decide) ?_ | with_reducible refine orQ_r ?_ | with_reducible refine orQ_x ?_ | with_reducible refine orQ_n ?_))
  obtain ⟨_, _, g, bs', b, ⟨used, found, sum, best⟩, rfl, rfl, hdf, ⟨xs', hxs, v, vb, hS, hv, hb⟩, hf, hu⟩ := f56_ok (s := 0) (h := H2) (bud := bud) hw hs hgood ho hne (by omega) ps.length [some (.row 91 0 [L ps, L ex, L occ, .int .i64 bud, .int .i64 0, .slice none 0 0, .int .i64 0, .int .i64 0, .slice none 0 0])] [] (0, 0, 0, []) (by simp) PosP.nil (by show 0 + (if ps.length = 0 then 1 else 0) ≤ 0; rw [if_neg (fun e => hne (List.eq_nil_of_length_eq_zero e))]; exact Nat.le_refl _) (by show ((0 : Nat) : Int) ≤ bud; omega) ⟨_, _, rfl, .inl ⟨rfl, rfl⟩, .inl ⟨rfl, rfl⟩⟩
  rw [hdf]
  simp only at hS hb hf hu
  have hsl := getElem?_lt hS
  ((repeat first | with_reducible refine EX.seq ?_ | with_reducible refine EX.blk ?_); refine EX.regx (by intro KK hkk; unfold f20_r11; simp only [SX, Nat.reduceEqDiff, ↓reduceIte, Nat.reduceSub, Nat.reduceAdd, Nat.reduceLT, Nat.reduceLeDiff, Nat.one_ne_zero, Nat.zero_ne_one, show decP [] = [] from rfl, I.quiet, List.not_mem_nil, false_implies, implies_true, -List.reduceReplicate, decide_true, decide_false]; refine RO_callE (g) ?_; simp only [SX, Nat.reduceEqDiff, ↓reduceIte, Nat.reduceSub, Nat.reduceAdd, Nat.reduceLT, Nat.reduceLeDiff, Nat.one_ne_zero, Nat.zero_ne_one, show decP [] = [] from rfl, I.quiet, List.not_mem_nil, false_implies, implies_true, -List.reduceReplicate, decide_true, decide_false]; exact hkk) ?_; (repeat first | with_reducible refine nxt_n ?_ | with_reducible refine nxt_e ?_ | with_reducible refine nxt_r ?_ | with_reducible refine inB_n ?_ | with_reducible refine inB_r ?_ | with_reducible refine inB_x ?_ | with_reducible refine inB_y (by decide) ?_ | with_reducible refine orQ_r ?_ | with_reducible refine orQ_x ?_ | with_reducible refine orQ_n ?_))
  refine EX.nxtR (F := fun T3 H3 => b = true ∧ ¬ found = 0 ∧ ¬ 1 < found ∧ T3 12 = .pointer (some ⟨H2.next + 0, 0, none⟩) ∧ H3 = H2.app bs') ?_ ?_
  · ((repeat first | with_reducible refine EX.seq ?_ | with_reducible refine EX.blk ?_); refine EX.regx (by intro KK hkk; unfold f20_r12; simp only [SX, Nat.reduceEqDiff, ↓reduceIte, Nat.reduceSub, Nat.reduceAdd, Nat.reduceLT, Nat.reduceLeDiff, Nat.one_ne_zero, Nat.zero_ne_one, show decP [] = [] from rfl, I.quiet, List.not_mem_nil, false_implies, implies_true, -List.reduceReplicate, decide_true, decide_false]; exact hkk) ?_; (repeat first | with_reducible refine nxt_n ?_ | with_reducible refine nxt_e ?_ | with_reducible refine nxt_r ?_ | with_reducible refine inB_n ?_ | with_reducible refine inB_r ?_ | with_reducible refine inB_x ?_ | with_reducible refine inB_y (by decide) ?_ | with_reducible refine orQ_r ?_ | with_reducible refine orQ_x ?_ | with_reducible refine orQ_n ?_))
    cases b with
    | false =>
      refine EX.condT rfl ?_
      ((repeat first | with_reducible refine EX.seq ?_ | with_reducible refine EX.blk ?_); refine EX.regx (by intro KK hkk; unfold f20_r13; simp only [SX, Nat.reduceEqDiff, ↓reduceIte, Nat.reduceSub, Nat.reduceAdd, Nat.reduceLT, Nat.reduceLeDiff, Nat.one_ne_zero, Nat.zero_ne_one, show decP [] = [] from rfl, I.quiet, List.not_mem_nil, false_implies, implies_true, -List.reduceReplicate, decide_true, decide_false]; exact hkk) ?_; (repeat first | with_reducible refine nxt_n ?_ | with_reducible refine nxt_e ?_ | with_reducible refine nxt_r ?_ | with_reducible refine inB_n ?_ | with_reducible refine inB_r ?_ | with_reducible refine inB_x ?_ | with_reducible refine inB_y (by decide) ?_ | with_reducible refine orQ_r ?_ | with_reducible refine orQ_x ?_ | with_reducible refine orQ_n ?_))
      (repeat first | with_reducible refine EX.seq ?_ | with_reducible refine EX.blk ?_)
      refine EX.wk ?_ (ret3 (bs := bs') hw rfl rfl rfl rfl)
      ((repeat first | with_reducible refine EX.seq ?_ | with_reducible refine EX.blk ?_); refine EX.ret ?_; (repeat first | with_reducible refine nxt_n ?_ | with_reducible refine nxt_e ?_ | with_reducible refine nxt_r ?_ | with_reducible refine inB_n ?_ | with_reducible refine inB_r ?_ | with_reducible refine inB_x ?_ | with_reducible refine inB_y (by decide) ?_ | with_reducible refine orQ_r ?_ | with_reducible refine orQ_x ?_ | with_reducible refine orQ_n ?_); refine ⟨_, rfl, ?_⟩; simp only [packV, upd, Nat.reduceEqDiff, reduceIte, if_true, if_false, Nat.one_ne_zero, Nat.zero_ne_one])
      exact ⟨rfl, [], (app_nil hw).symm⟩
    | true =>
      refine EX.condF rfl ?_
      ((repeat first | with_reducible refine EX.seq ?_ | with_reducible refine EX.blk ?_); refine EX.regx (by intro KK hkk; unfold f20_r14; simp only [SX, Nat.reduceEqDiff, ↓reduceIte, Nat.reduceSub, Nat.reduceAdd, Nat.reduceLT, Nat.reduceLeDiff, Nat.one_ne_zero, Nat.zero_ne_one, show decP [] = [] from rfl, I.quiet, List.not_mem_nil, false_implies, implies_true, -List.reduceReplicate, decide_true, decide_false, hS]; exact hkk) ?_; (repeat first | with_reducible refine nxt_n ?_ | with_reducible refine nxt_e ?_ | with_reducible refine nxt_r ?_ | with_reducible refine inB_n ?_ | with_reducible refine inB_r ?_ | with_reducible refine inB_x ?_ | with_reducible refine inB_y (by decide) ?_ | with_reducible refine orQ_r ?_ | with_reducible refine orQ_x ?_ | with_reducible refine orQ_n ?_))
      have e0 : decide ((found : Int) = 0) = decide (found = 0) := by rw [decide_eq_decide]; omega
      rw [e0]
      refine EX.dec rfl (fun h0 => ?_) (fun h0 => ?_)
      · ((repeat first | with_reducible refine EX.seq ?_ | with_reducible refine EX.blk ?_); refine EX.drwx (by intro KK hkk; unfold f20_r15; simp only [SX, Nat.reduceEqDiff, ↓reduceIte, Nat.reduceSub, Nat.reduceAdd, Nat.reduceLT, Nat.reduceLeDiff, Nat.one_ne_zero, Nat.zero_ne_one, show decP [] = [] from rfl, I.quiet, List.not_mem_nil, false_implies, implies_true, -List.reduceReplicate, decide_true, decide_false, hS]; exact hkk) ?_; (repeat first | with_reducible refine nxt_n ?_ | with_reducible refine nxt_e ?_ | with_reducible refine nxt_r ?_ | with_reducible refine inB_n ?_ | with_reducible refine inB_r ?_ | with_reducible refine inB_x ?_ | with_reducible refine inB_y (by decide) ?_ | with_reducible refine orQ_r ?_ | with_reducible refine orQ_x ?_ | with_reducible refine orQ_n ?_))
        (repeat first | with_reducible refine EX.seq ?_ | with_reducible refine EX.blk ?_)
        refine EX.wk ?_ (ret3 (bs := bs') hw rfl rfl rfl rfl)
        ((repeat first | with_reducible refine EX.seq ?_ | with_reducible refine EX.blk ?_); refine EX.ret ?_; (repeat first | with_reducible refine nxt_n ?_ | with_reducible refine nxt_e ?_ | with_reducible refine nxt_r ?_ | with_reducible refine inB_n ?_ | with_reducible refine inB_r ?_ | with_reducible refine inB_x ?_ | with_reducible refine inB_y (by decide) ?_ | with_reducible refine orQ_r ?_ | with_reducible refine orQ_x ?_ | with_reducible refine orQ_n ?_); refine ⟨_, rfl, ?_⟩; simp only [packV, upd, Nat.reduceEqDiff, reduceIte, if_true, if_false, Nat.one_ne_zero, Nat.zero_ne_one])
        refine ⟨?_, [], (app_nil hw).symm⟩
        rw [if_pos h0]; rfl
      · ((repeat first | with_reducible refine EX.seq ?_ | with_reducible refine EX.blk ?_); refine EX.regx (by intro KK hkk; unfold f20_r16; simp only [SX, Nat.reduceEqDiff, ↓reduceIte, Nat.reduceSub, Nat.reduceAdd, Nat.reduceLT, Nat.reduceLeDiff, Nat.one_ne_zero, Nat.zero_ne_one, show decP [] = [] from rfl, I.quiet, List.not_mem_nil, false_implies, implies_true, -List.reduceReplicate, decide_true, decide_false, hS]; exact hkk) ?_; (repeat first | with_reducible refine nxt_n ?_ | with_reducible refine nxt_e ?_ | with_reducible refine nxt_r ?_ | with_reducible refine inB_n ?_ | with_reducible refine inB_r ?_ | with_reducible refine inB_x ?_ | with_reducible refine inB_y (by decide) ?_ | with_reducible refine orQ_r ?_ | with_reducible refine orQ_x ?_ | with_reducible refine orQ_n ?_))
        refine EX.dec rfl (fun h1 => ?_) (fun h1 => ?_)
        · ((repeat first | with_reducible refine EX.seq ?_ | with_reducible refine EX.blk ?_); refine EX.drwx (by intro KK hkk; unfold f20_r17; simp only [SX, Nat.reduceEqDiff, ↓reduceIte, Nat.reduceSub, Nat.reduceAdd, Nat.reduceLT, Nat.reduceLeDiff, Nat.one_ne_zero, Nat.zero_ne_one, show decP [] = [] from rfl, I.quiet, List.not_mem_nil, false_implies, implies_true, -List.reduceReplicate, decide_true, decide_false, hS]; exact hkk) ?_; (repeat first | with_reducible refine nxt_n ?_ | with_reducible refine nxt_e ?_ | with_reducible refine nxt_r ?_ | with_reducible refine inB_n ?_ | with_reducible refine inB_r ?_ | with_reducible refine inB_x ?_ | with_reducible refine inB_y (by decide) ?_ | with_reducible refine orQ_r ?_ | with_reducible refine orQ_x ?_ | with_reducible refine orQ_n ?_))
          (repeat first | with_reducible refine EX.seq ?_ | with_reducible refine EX.blk ?_)
          refine EX.wk ?_ (ret3 (bs := bs') hw rfl rfl rfl rfl)
          ((repeat first | with_reducible refine EX.seq ?_ | with_reducible refine EX.blk ?_); refine EX.ret ?_; (repeat first | with_reducible refine nxt_n ?_ | with_reducible refine nxt_e ?_ | with_reducible refine nxt_r ?_ | with_reducible refine inB_n ?_ | with_reducible refine inB_r ?_ | with_reducible refine inB_x ?_ | with_reducible refine inB_y (by decide) ?_ | with_reducible refine orQ_r ?_ | with_reducible refine orQ_x ?_ | with_reducible refine orQ_n ?_); refine ⟨_, rfl, ?_⟩; simp only [packV, upd, Nat.reduceEqDiff, reduceIte, if_true, if_false, Nat.one_ne_zero, Nat.zero_ne_one])
          refine ⟨?_, [], (app_nil hw).symm⟩
          rw [if_neg h0, if_pos (by omega)]; rfl
        · refine EX.skip ?_
          (repeat first | with_reducible refine nxt_n ?_ | with_reducible refine nxt_e ?_ | with_reducible refine nxt_r ?_ | with_reducible refine inB_n ?_ | with_reducible refine inB_r ?_ | with_reducible refine inB_x ?_ | with_reducible refine inB_y (by decide) ?_ | with_reducible refine orQ_r ?_ | with_reducible refine orQ_x ?_ | with_reducible refine orQ_n ?_)
          exact ⟨rfl, h0, by omega, rfl, rfl⟩
  · rintro T3 H3 ⟨rfl, h0, h1, w12, rfl⟩
    ((repeat first | with_reducible refine EX.seq ?_ | with_reducible refine EX.blk ?_); refine EX.drwx (by intro KK hkk; unfold f20_r18; simp only [SX, Nat.reduceEqDiff, ↓reduceIte, Nat.reduceSub, Nat.reduceAdd, Nat.reduceLT, Nat.reduceLeDiff, Nat.one_ne_zero, Nat.zero_ne_one, show decP [] = [] from rfl, I.quiet, List.not_mem_nil, false_implies, implies_true, -List.reduceReplicate, decide_true, decide_false, w12, hS]; exact hkk) ?_; (repeat first | with_reducible refine nxt_n ?_ | with_reducible refine nxt_e ?_ | with_reducible refine nxt_r ?_ | with_reducible refine inB_n ?_ | with_reducible refine inB_r ?_ | with_reducible refine inB_x ?_ | with_reducible refine inB_y (by decide) ?_ | with_reducible refine orQ_r ?_ | with_reducible refine orQ_x ?_ | with_reducible refine orQ_n ?_))
    have hln := dfs_len (ex := ex) (occ := occ) (bud := bud) (u := 0) (n := ps.length) (xs := []) (b := (0, 0, [])) (Nat.add_zero _) (fun e => absurd rfl e)
    rw [hdf] at hln
    have hln2 : best.length = ps.length := hln h0
    have hbl : best ≠ [] := by rintro rfl; exact hne (List.eq_nil_of_length_eq_zero hln2.symm)
    have hs1 := hs.1
    (repeat first | with_reducible refine EX.seq ?_ | with_reducible refine EX.blk ?_)
    refine EX.wk ?_ (ret3B hw hb hbl (by omega) rfl rfl rfl)
    ((repeat first | with_reducible refine EX.seq ?_ | with_reducible refine EX.blk ?_); refine EX.ret ?_; (repeat first | with_reducible refine nxt_n ?_ | with_reducible refine nxt_e ?_ | with_reducible refine nxt_r ?_ | with_reducible refine inB_n ?_ | with_reducible refine inB_r ?_ | with_reducible refine inB_x ?_ | with_reducible refine inB_y (by decide) ?_ | with_reducible refine orQ_r ?_ | with_reducible refine orQ_x ?_ | with_reducible refine orQ_n ?_); refine ⟨_, rfl, ?_⟩; simp only [packV, upd, Nat.reduceEqDiff, reduceIte, if_true, if_false, Nat.one_ne_zero, Nat.zero_ne_one])
    refine ⟨?_, [], (app_nil hw).symm⟩
    rw [if_neg h0, if_neg h1]; rfl
end
end Go.Proofs.Ythofdojknjhpgaa
