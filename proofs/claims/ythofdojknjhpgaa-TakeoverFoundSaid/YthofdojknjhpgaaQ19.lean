/- Contracts: awake. -/
import Derived.Test.YthofdojknjhpgaaQ18
set_option linter.unusedVariables false
set_option linter.unusedSimpArgs false
namespace Go.Proofs.Ythofdojknjhpgaa
open Go
section
variable {h : AH}
/-- A list of one's own, given away. -/
theorem AC.frz {P : Program} {f : FuncId} {args args0 : List Value} {bs : List (Option Blk)} {j : Nat} {xs : List Int} {v : Value} {h' : AH} (hw : Wf h) (hj : bs[j]? = some (some (.row 3 1 (F xs)))) (hl : xs.length < 4611686018427387904) (hlen : args0.length = args.length)
    (ha : ∀ i, T0 args0 i = T0 args i ∨ (T0 args i = .slice (some ⟨h.next + j, 0, none⟩) xs.length xs.length ∧ T0 args0 i = L xs)) (k : AC P f args0 (h.app (bs.set j none)) v h') : AC P f args (h.app bs) v h' := by
  refine k.wk hlen (Wk.freeze (B := h.next + j) (t := 3) (e := 1) (cs := F xs) (by show h.ro ≤ _; have := hw.ro; omega) (by rw [app_get, hj]; rfl) (by rw [app_next, app_next, List.length_set]) rfl (fun i => ?_) ?_)
  · rcases ha i with e | ⟨e1, e2⟩
    · exact .inr (.inl e)
    · refine .inr (.inr (.inr ⟨0, xs.length, xs.length, hl, by rw [F_len, w1i]; omega, e1, ?_⟩))
      rw [e2, List.drop_zero, List.take_of_length_le (by rw [F_len, w1i]; omega)]
      rfl
  · intro C b0 hC
    rcases Nat.lt_or_ge C h.next with h1 | h1
    · rw [app_get_lt h1] at hC
      exact ⟨by omega, b0, by rw [app_get_lt h1]; exact hC, RB.same fun _ => FV.same⟩
    · obtain ⟨i, rfl⟩ : ∃ i, C = h.next + i := ⟨C - h.next, by omega⟩
      rw [app_get] at hC
      have hC' := Option.join_eq_some_iff.1 hC
      rw [List.getElem?_set] at hC'
      split at hC'
      · split at hC' <;> cases hC'
      · rename_i hne
        exact ⟨by omega, b0, by rw [app_get, hC']; rfl, RB.same fun _ => FV.same⟩
theorem ex_good1 : goodB exPs [0, 1] = true := by decide +kernel
theorem ex_good2 : goodB exPs [0, 0] = true := by decide +kernel
theorem ex_ne : exPs ≠ [] := by decide
/-- 'awake'. -/
theorem f21_ok : AC Go.Proofs.Try.prog 21 [] h (.bool true) h := by
  refine AC.wf fun hw => AC.of_app hw Cl.bool ?_
  refine EC.intro f21_is ?_
  unfold f21_c
  have c1 : AC Go.Proofs.Try.prog 19 [L exPs, .slice (some ⟨h.next, 0, none⟩) 2 2, .slice (some ⟨h.next + 1, 0, none⟩) 2 2, .int .i64 100] (h.app [some (.row 3 1 (F [(0 : Int), 1])), some (.row 3 1 (F [(1 : Int), 3]))]) (identV (ident exPs [0, 1] [1, 3] 100)) (h.app [none, none]) := by
    refine AC.frz (j := 0) (xs := [0, 1]) (args0 := [L exPs, L [(0 : Int), 1], .slice (some ⟨h.next + 1, 0, none⟩) 2 2, .int .i64 100]) hw rfl (by decide) rfl (fun i => ?_) ?_
    · match i with
      | 0 => exact .inl rfl
      | 1 => exact .inr ⟨rfl, rfl⟩
      | 2 => exact .inl rfl
      | 3 => exact .inl rfl
      | i + 4 => exact .inl rfl
    refine AC.frz (j := 1) (xs := [1, 3]) (args0 := [L exPs, L [(0 : Int), 1], L [(1 : Int), 3], .int .i64 100]) hw rfl (by decide) rfl (fun i => ?_) ?_
    · match i with
      | 0 => exact .inl rfl
      | 1 => exact .inl rfl
      | 2 => exact .inr ⟨rfl, rfl⟩
      | 3 => exact .inl rfl
      | i + 4 => exact .inl rfl
    exact f19_ok ex_valid ex_good1 ex_small ex_ne (by decide)
  have c2 : AC Go.Proofs.Try.prog 19 [L exPs, .slice (some ⟨h.next + 2, 0, none⟩) 2 2, .slice (some ⟨h.next + 3, 0, none⟩) 1 1, .int .i64 100] (h.app [none, none, some (.row 3 1 (F [(0 : Int), 0])), some (.row 3 1 (F [(2 : Int)]))]) (identV (ident exPs [0, 0] [2] 100)) (h.app [none, none, none, none]) := by
    refine AC.frz (j := 2) (xs := [0, 0]) (args0 := [L exPs, L [(0 : Int), 0], .slice (some ⟨h.next + 3, 0, none⟩) 1 1, .int .i64 100]) hw rfl (by decide) rfl (fun i => ?_) ?_
    · match i with
      | 0 => exact .inl rfl
      | 1 => exact .inr ⟨rfl, rfl⟩
      | 2 => exact .inl rfl
      | 3 => exact .inl rfl
      | i + 4 => exact .inl rfl
    refine AC.frz (j := 3) (xs := [2]) (args0 := [L exPs, L [(0 : Int), 0], L [(2 : Int)], .int .i64 100]) hw rfl (by decide) rfl (fun i => ?_) ?_
    · match i with
      | 0 => exact .inl rfl
      | 1 => exact .inl rfl
      | 2 => exact .inr ⟨rfl, rfl⟩
      | 3 => exact .inl rfl
      | i + 4 => exact .inl rfl
    exact f19_ok ex_valid ex_good2 ex_small ex_ne (by decide)
  have c3 : AC Go.Proofs.Try.prog 22 [L [(0 : Int), 0], .slice (some ⟨h.next + 4, 0, none⟩) 2 2] (h.app [none, none, none, none, some (.row 3 1 (F [(0 : Int), 0]))]) (.bool true) (h.app [none, none, none, none, none]) := by
    refine AC.frz (j := 4) (xs := [0, 0]) (args0 := [L [(0 : Int), 0], L [(0 : Int), 0]]) hw rfl (by decide) rfl (fun i => ?_) ?_
    · match i with
      | 0 => exact .inl rfl
      | 1 => exact .inr ⟨rfl, rfl⟩
      | i + 2 => exact .inl rfl
    exact f22_ok
  obtain ⟨e1, e2⟩ := ex1
  have e3 := ex2
  rw [identV, e1] at c1
  rw [identV, e3] at c2
  generalize (ident exPs [0, 1] [1, 3] 100).2.1 = n1 at *
  generalize ident exPs [0, 0] [2] 100 = r2 at *
  simp only [F_cons, F_nil, cells_int, List.append_nil, List.cons_append, List.nil_append] at c1 c2 c3
  ((repeat first | with_reducible refine EX.seq ?_ | with_reducible refine EX.blk ?_); refine EX.regx (by intro KK hkk; unfold f21_r0; simp only [SX, Nat.reduceEqDiff, ↓reduceIte, Nat.reduceSub, Nat.reduceAdd, Nat.reduceLT, Nat.reduceLeDiff, Nat.one_ne_zero, Nat.zero_ne_one, show decP [] = [] from rfl, I.quiet, List.not_mem_nil, false_implies, implies_true, -List.reduceReplicate, decide_true, decide_false]; exact hkk) ?_; (repeat first | with_reducible refine nxt_n ?_ | with_reducible refine nxt_e ?_ | with_reducible refine nxt_r ?_ | with_reducible refine inB_n ?_ | with_reducible refine inB_r ?_ | with_reducible refine inB_x ?_ | with_reducible refine inB_y (by decide) ?_ | with_reducible refine orQ_r ?_ | with_reducible refine orQ_x ?_ | with_reducible refine orQ_n ?_))
  (repeat first | with_reducible refine EX.seq ?_ | with_reducible refine EX.blk ?_)
  refine EX.regx (by intro KK hkk; unfold f21_r1; refine RO_callvS (f57_ok) ?_; simp only [SX, Nat.reduceEqDiff, ↓reduceIte, Nat.reduceSub, Nat.reduceAdd, Nat.reduceLT, Nat.reduceLeDiff, Nat.one_ne_zero, Nat.zero_ne_one, show decP [] = [] from rfl, I.quiet, List.not_mem_nil, false_implies, implies_true, -List.reduceReplicate, decide_true, decide_false, new_app hw]; refine RO_callE (c1) ?_; simp only [SX, Nat.reduceEqDiff, ↓reduceIte, Nat.reduceSub, Nat.reduceAdd, Nat.reduceLT, Nat.reduceLeDiff, Nat.one_ne_zero, Nat.zero_ne_one, show decP [] = [] from rfl, I.quiet, List.not_mem_nil, false_implies, implies_true, -List.reduceReplicate, decide_true, decide_false]; exact hkk) ?_
  (repeat first | with_reducible refine nxt_n ?_ | with_reducible refine nxt_e ?_ | with_reducible refine nxt_r ?_ | with_reducible refine inB_n ?_ | with_reducible refine inB_r ?_ | with_reducible refine inB_x ?_ | with_reducible refine inB_y (by decide) ?_ | with_reducible refine orQ_r ?_ | with_reducible refine orQ_x ?_ | with_reducible refine orQ_n ?_)
  (repeat first | with_reducible refine EX.seq ?_ | with_reducible refine EX.blk ?_)
  refine EX.regx (by intro KK hkk; unfold f21_r2; refine RO_callvS (f57_ok) ?_; simp only [SX, Nat.reduceEqDiff, ↓reduceIte, Nat.reduceSub, Nat.reduceAdd, Nat.reduceLT, Nat.reduceLeDiff, Nat.one_ne_zero, Nat.zero_ne_one, show decP [] = [] from rfl, I.quiet, List.not_mem_nil, false_implies, implies_true, -List.reduceReplicate, decide_true, decide_false]; refine RO_callE (c2) ?_; simp only [SX, Nat.reduceEqDiff, ↓reduceIte, Nat.reduceSub, Nat.reduceAdd, Nat.reduceLT, Nat.reduceLeDiff, Nat.one_ne_zero, Nat.zero_ne_one, show decP [] = [] from rfl, I.quiet, List.not_mem_nil, false_implies, implies_true, -List.reduceReplicate, decide_true, decide_false]; exact hkk) ?_
  (repeat first | with_reducible refine nxt_n ?_ | with_reducible refine nxt_e ?_ | with_reducible refine nxt_r ?_ | with_reducible refine inB_n ?_ | with_reducible refine inB_r ?_ | with_reducible refine inB_x ?_ | with_reducible refine inB_y (by decide) ?_ | with_reducible refine orQ_r ?_ | with_reducible refine orQ_x ?_ | with_reducible refine orQ_n ?_)
  have z1 : decide (n1 > 0) = true := decide_eq_true e2
  ((repeat first | with_reducible refine EX.seq ?_ | with_reducible refine EX.blk ?_); refine EX.regx (by intro KK hkk; unfold f21_r3; simp only [SX, Nat.reduceEqDiff, ↓reduceIte, Nat.reduceSub, Nat.reduceAdd, Nat.reduceLT, Nat.reduceLeDiff, Nat.one_ne_zero, Nat.zero_ne_one, show decP [] = [] from rfl, I.quiet, List.not_mem_nil, false_implies, implies_true, -List.reduceReplicate, decide_true, decide_false, z1, eq_self]; refine RO_callE (c3) ?_; simp only [SX, Nat.reduceEqDiff, ↓reduceIte, Nat.reduceSub, Nat.reduceAdd, Nat.reduceLT, Nat.reduceLeDiff, Nat.one_ne_zero, Nat.zero_ne_one, show decP [] = [] from rfl, I.quiet, List.not_mem_nil, false_implies, implies_true, -List.reduceReplicate, decide_true, decide_false, z1, eq_self]; exact hkk) ?_; (repeat first | with_reducible refine nxt_n ?_ | with_reducible refine nxt_e ?_ | with_reducible refine nxt_r ?_ | with_reducible refine inB_n ?_ | with_reducible refine inB_r ?_ | with_reducible refine inB_x ?_ | with_reducible refine inB_y (by decide) ?_ | with_reducible refine orQ_r ?_ | with_reducible refine orQ_x ?_ | with_reducible refine orQ_n ?_))
  ((repeat first | with_reducible refine EX.seq ?_ | with_reducible refine EX.blk ?_); refine EX.ret ?_; (repeat first | with_reducible refine nxt_n ?_ | with_reducible refine nxt_e ?_ | with_reducible refine nxt_r ?_ | with_reducible refine inB_n ?_ | with_reducible refine inB_r ?_ | with_reducible refine inB_x ?_ | with_reducible refine inB_y (by decide) ?_ | with_reducible refine orQ_r ?_ | with_reducible refine orQ_x ?_ | with_reducible refine orQ_n ?_); refine ⟨_, rfl, ?_⟩; simp only [packV, upd, Nat.reduceEqDiff, reduceIte, if_true, if_false, Nat.one_ne_zero, Nat.zero_ne_one])
  exact ⟨trivial, _, rfl⟩
end
end Go.Proofs.Ythofdojknjhpgaa
