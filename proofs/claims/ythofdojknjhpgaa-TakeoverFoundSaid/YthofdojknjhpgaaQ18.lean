/- Contracts: the example, awake. -/
import Derived.Test.YthofdojknjhpgaaQ17
set_option linter.unusedVariables false
set_option linter.unusedSimpArgs false
namespace Go.Proofs.Ythofdojknjhpgaa
open Go
def exPs : List (List Stg) := [[⟨1, [], 0, 0⟩, ⟨2, [], 0, 0⟩, ⟨3, [], 0, 0⟩], [⟨3, [], 0, 0⟩, ⟨2, [], 0, 0⟩, ⟨1, [], 0, 0⟩]]
theorem ex_valid : validB exPs = true := by decide +kernel
theorem ex_small : SmallP exPs := by
  unfold SmallP; decide +kernel
theorem ex1 : ident exPs [0, 1] [1, 3] 100 = ([0, 0], (ident exPs [0, 1] [1, 3] 100).2.1, 0) ∧ 0 < (ident exPs [0, 1] [1, 3] 100).2.1 := by decide +kernel
theorem ex2 : (ident exPs [0, 0] [2] 100).2.2 = 13 := by decide +kernel
section
variable {h : AH}
def nil4 (g : Stg) : List Value := [.int .i64 g.sec, .slice none 0 0, .int .i64 g.min, .int .i64 g.not]
theorem nil_RB {σ : Nat → Nat} {n : Nat} {a b c : Stg} (ha : a.pts = []) (hb : b.pts = []) (hc : c.pts = []) : RB (RV σ n) (.row 65 4 (F [a, b, c])) (.row 65 4 (nil4 a ++ (nil4 b ++ nil4 c))) := by
  refine ⟨rfl, rfl, fun i v hi => ?_⟩
  have e : F [a, b, c] = [.int .i64 a.sec, L ([] : List Int), .int .i64 a.min, .int .i64 a.not, .int .i64 b.sec, L ([] : List Int), .int .i64 b.min, .int .i64 b.not, .int .i64 c.sec, L ([] : List Int), .int .i64 c.min, .int .i64 c.not] := by
    simp only [F_cons, F_nil, Enc.cells, ha, hb, hc]; rfl
  rw [e] at hi
  match i with
  | 0 => cases hi; exact ⟨_, rfl, Cl.int.rv⟩
  | 1 => cases hi; exact ⟨_, rfl, RV.nilL⟩
  | 2 => cases hi; exact ⟨_, rfl, Cl.int.rv⟩
  | 3 => cases hi; exact ⟨_, rfl, Cl.int.rv⟩
  | 4 => cases hi; exact ⟨_, rfl, Cl.int.rv⟩
  | 5 => cases hi; exact ⟨_, rfl, RV.nilL⟩
  | 6 => cases hi; exact ⟨_, rfl, Cl.int.rv⟩
  | 7 => cases hi; exact ⟨_, rfl, Cl.int.rv⟩
  | 8 => cases hi; exact ⟨_, rfl, Cl.int.rv⟩
  | 9 => cases hi; exact ⟨_, rfl, RV.nilL⟩
  | 10 => cases hi; exact ⟨_, rfl, Cl.int.rv⟩
  | 11 => cases hi; exact ⟨_, rfl, Cl.int.rv⟩
  | i + 12 => simp at hi
theorem wk_ex {T : Tm} {H : AH} (hw : Wf h) (hH : H = h.app [some (.row 65 4 (nil4 ⟨1, [], 0, 0⟩ ++ (nil4 ⟨2, [], 0, 0⟩ ++ nil4 ⟨3, [], 0, 0⟩))), some (.row 65 4 (nil4 ⟨3, [], 0, 0⟩ ++ (nil4 ⟨2, [], 0, 0⟩ ++ nil4 ⟨1, [], 0, 0⟩))), some (.row 36 1 [.slice (some ⟨h.next, 0, none⟩) 3 3, .slice (some ⟨h.next + 1, 0, none⟩) 3 3])]) (hT : T 0 = .slice (some ⟨h.next + 2, 0, none⟩) 2 2) :
    Wk h.next (upd TE 0 (L exPs)) h T H := by
  subst hH
  have w1 := Wk.app (T := T) (T0 := upd TE 0 (.slice (some ⟨h.next + 2, 0, none⟩) 2 2)) (bs := [some (.row 65 4 (nil4 ⟨1, [], 0, 0⟩ ++ (nil4 ⟨2, [], 0, 0⟩ ++ nil4 ⟨3, [], 0, 0⟩))), some (.row 65 4 (nil4 ⟨3, [], 0, 0⟩ ++ (nil4 ⟨2, [], 0, 0⟩ ++ nil4 ⟨1, [], 0, 0⟩))), some (.row 36 1 [.slice (some ⟨h.next, 0, none⟩) 3 3, .slice (some ⟨h.next + 1, 0, none⟩) 3 3])])
    (bs0 := [some (.row 65 4 (F [(⟨1, [], 0, 0⟩ : Stg), ⟨2, [], 0, 0⟩, ⟨3, [], 0, 0⟩])), some (.row 65 4 (F [(⟨3, [], 0, 0⟩ : Stg), ⟨2, [], 0, 0⟩, ⟨1, [], 0, 0⟩])), some (.row 36 1 [.slice (some ⟨h.next, 0, none⟩) 3 3, .slice (some ⟨h.next + 1, 0, none⟩) 3 3])]) [0, 1, 2] hw (by decide)
    (.some rfl (nil_RB rfl rfl rfl) (.some rfl (nil_RB rfl rfl rfl) (.some rfl ⟨rfl, rfl, fun i v hi => (match i, hi with
      | 0, hi => ⟨_, rfl, by cases hi; exact RV.slice (rnm_00 rfl) (by simp only [List.length_cons, List.length_nil]; omega)⟩
      | 1, hi => ⟨_, rfl, by cases hi; exact RV.slice (rnm_ij rfl) (by simp only [List.length_cons, List.length_nil]; omega)⟩
      | i + 2, hi => by simp at hi)⟩ .nil)))
    (RVs.upd RVs.nil (by rw [hT]; exact RV.slice (rnm_ij rfl) (by simp only [List.length_cons, List.length_nil]; omega)))
  refine Wk.trans w1 ?_
  have w2 := Wk.frzApp (h := h) (T := upd TE 0 (.slice (some ⟨h.next + 2, 0, none⟩) 2 2)) (T0 := upd TE 0 (.slice (some ⟨h.next + 2, 0, none⟩) 2 2)) (j := 0)
    (bs := [some (.row 65 4 (F [(⟨1, [], 0, 0⟩ : Stg), ⟨2, [], 0, 0⟩, ⟨3, [], 0, 0⟩])), some (.row 65 4 (F [(⟨3, [], 0, 0⟩ : Stg), ⟨2, [], 0, 0⟩, ⟨1, [], 0, 0⟩])), some (.row 36 1 [.slice (some ⟨h.next, 0, none⟩) 3 3, .slice (some ⟨h.next + 1, 0, none⟩) 3 3])])
    (bs' := [none, some (.row 65 4 (F [(⟨3, [], 0, 0⟩ : Stg), ⟨2, [], 0, 0⟩, ⟨1, [], 0, 0⟩])), some (.row 36 1 [L [(⟨1, [], 0, 0⟩ : Stg), ⟨2, [], 0, 0⟩, ⟨3, [], 0, 0⟩], .slice (some ⟨h.next + 1, 0, none⟩) 3 3])]) hw rfl rfl ?_ (fun i => FV.same)
  refine Wk.trans w2 ?_
  have w3 := Wk.frzApp (h := h) (T := upd TE 0 (.slice (some ⟨h.next + 2, 0, none⟩) 2 2)) (T0 := upd TE 0 (.slice (some ⟨h.next + 2, 0, none⟩) 2 2)) (j := 1)
    (bs := [none, some (.row 65 4 (F [(⟨3, [], 0, 0⟩ : Stg), ⟨2, [], 0, 0⟩, ⟨1, [], 0, 0⟩])), some (.row 36 1 [L [(⟨1, [], 0, 0⟩ : Stg), ⟨2, [], 0, 0⟩, ⟨3, [], 0, 0⟩], .slice (some ⟨h.next + 1, 0, none⟩) 3 3])])
    (bs' := [none, none, some (.row 36 1 [L [(⟨1, [], 0, 0⟩ : Stg), ⟨2, [], 0, 0⟩, ⟨3, [], 0, 0⟩], L [(⟨3, [], 0, 0⟩ : Stg), ⟨2, [], 0, 0⟩, ⟨1, [], 0, 0⟩]])]) hw rfl rfl ?_ (fun i => FV.same)
  refine Wk.trans w3 ?_
  · exact Wk.retL (i := 2) (r := 0) (xs := exPs) (t := 36) hw rfl (by decide) rfl
  · intro i b0 hi
    match i with
    | 0 => cases hi
    | 1 => cases hi
    | 2 =>
      cases hi
      refine ⟨by decide, _, rfl, rfl, rfl, fun k v hk => ?_⟩
      match k with
      | 0 => cases hk; exact ⟨_, rfl, FV.same⟩
      | 1 => cases hk; exact ⟨_, rfl, .inr (.inr (.inr ⟨0, 3, 3, by decide, by decide, rfl, rfl⟩))⟩
      | k + 2 => simp at hk
    | i + 3 => simp at hi
  · intro i b0 hi
    match i with
    | 0 => cases hi
    | 1 =>
      cases hi
      exact ⟨by decide, _, rfl, RB.same fun _ => FV.same⟩
    | 2 =>
      cases hi
      refine ⟨by decide, _, rfl, rfl, rfl, fun k v hk => ?_⟩
      match k with
      | 0 => cases hk; exact ⟨_, rfl, .inr (.inr (.inr ⟨0, 3, 3, by decide, by decide, rfl, rfl⟩))⟩
      | 1 => cases hk; exact ⟨_, rfl, FV.same⟩
      | k + 2 => simp at hk
    | i + 3 => simp at hi
/-- 'example'. -/
theorem f57_ok : AC Go.Proofs.Try.prog 57 [] h (L exPs) h := by
  refine AC.wf fun hw => AC.of_app hw L_cl ?_
  refine EC.intro f57_is ?_
  unfold f57_c
  ((repeat first | with_reducible refine EX.seq ?_ | with_reducible refine EX.blk ?_); refine EX.regx (by intro KK hkk; unfold f57_r0; simp only [SX, Nat.reduceEqDiff, ↓reduceIte, Nat.reduceSub, Nat.reduceAdd, Nat.reduceLT, Nat.reduceLeDiff, Nat.one_ne_zero, Nat.zero_ne_one, show decP [] = [] from rfl, I.quiet, List.not_mem_nil, false_implies, implies_true, -List.reduceReplicate, decide_true, decide_false]; exact hkk) ?_; (repeat first | with_reducible refine nxt_n ?_ | with_reducible refine nxt_e ?_ | with_reducible refine nxt_r ?_ | with_reducible refine inB_n ?_ | with_reducible refine inB_r ?_ | with_reducible refine inB_x ?_ | with_reducible refine inB_y (by decide) ?_ | with_reducible refine orQ_r ?_ | with_reducible refine orQ_x ?_ | with_reducible refine orQ_n ?_))
  ((repeat first | with_reducible refine EX.seq ?_ | with_reducible refine EX.blk ?_); refine EX.regx (by intro KK hkk; unfold f57_r1; simp only [SX, Nat.reduceEqDiff, ↓reduceIte, Nat.reduceSub, Nat.reduceAdd, Nat.reduceLT, Nat.reduceLeDiff, Nat.one_ne_zero, Nat.zero_ne_one, show decP [] = [] from rfl, I.quiet, List.not_mem_nil, false_implies, implies_true, -List.reduceReplicate, decide_true, decide_false]; exact hkk) ?_; (repeat first | with_reducible refine nxt_n ?_ | with_reducible refine nxt_e ?_ | with_reducible refine nxt_r ?_ | with_reducible refine inB_n ?_ | with_reducible refine inB_r ?_ | with_reducible refine inB_x ?_ | with_reducible refine inB_y (by decide) ?_ | with_reducible refine orQ_r ?_ | with_reducible refine orQ_x ?_ | with_reducible refine orQ_n ?_))
  (repeat first | with_reducible refine EX.seq ?_ | with_reducible refine EX.blk ?_)
  refine EX.wk ?_ (wk_ex hw (by rw [new_app hw, app_new, app_new]; rfl) (by simp only [upd, new_app hw, app_new, app_next]; rfl))
  ((repeat first | with_reducible refine EX.seq ?_ | with_reducible refine EX.blk ?_); refine EX.ret ?_; (repeat first | with_reducible refine nxt_n ?_ | with_reducible refine nxt_e ?_ | with_reducible refine nxt_r ?_ | with_reducible refine inB_n ?_ | with_reducible refine inB_r ?_ | with_reducible refine inB_x ?_ | with_reducible refine inB_y (by decide) ?_ | with_reducible refine orQ_r ?_ | with_reducible refine orQ_x ?_ | with_reducible refine orQ_n ?_); refine ⟨_, rfl, ?_⟩; simp only [packV, upd, Nat.reduceEqDiff, reduceIte, if_true, if_false, Nat.one_ne_zero, Nat.zero_ne_one])
  exact ⟨trivial, [], (app_nil hw).symm⟩
end
end Go.Proofs.Ythofdojknjhpgaa
