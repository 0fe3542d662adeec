/- Contracts: the program's search. -/
import Derived.Test.YthofdojknjhpgaaQ13
set_option linter.unusedVariables false
set_option linter.unusedSimpArgs false
namespace Go.Proofs.Ythofdojknjhpgaa
open Go
/-- The state of the program's search. -/
def PInv (n : Nat) (bs : List (Option Blk)) (s m : Nat) (ps : List (List Stg)) (ex occ : List Int) (bud : Int) (xs : List Int) (st : Nat × Int × List Int × Bool) : Prop :=
  ∃ v vb, bs[s]? = some (some (.row 87 0 [L ps, L ex, L occ, v, .map (some (n + m)), .int .i64 (st.1 : Nat), .int .i64 bud, vb, .int .i64 st.2.1, .bool st.2.2.2])) ∧ bs[m]? = some (some (.map (mS (secL ps xs)))) ∧ AtV n bs v xs ∧ BestV n bs v vb st.2.2.1
section
variable {h : AH} {bs : List (Option Blk)} {ps : List (List Stg)} {ex occ xs best : List Int} {s m : Nat} {bud : Int} {v vb : Value}
theorem AtV.copy2 (a : AtV h.next bs v xs) (hn : xs ≠ []) (hl : xs.length ≤ 1000) (hw : Wf h) : app1 3 1 8 (.slice (some ⟨h.next + bs.length, 0, none⟩) 0 0) v (h.app (bs ++ [some (.row 3 1 [])])) = some (.slice (some ⟨h.next + (bs.length + 1), 0, none⟩) xs.length xs.length, h.app (bs ++ [none, some (.row 3 1 (F xs))])) ∧ ∀ B a b, v = .slice (some ⟨B, 0, none⟩) a b → B < h.next + bs.length := by
  rcases a with ⟨rfl, rfl⟩ | ⟨i, zs, rfl, h2, h3⟩
  · exact absurd rfl hn
  · obtain ⟨r, rfl⟩ := h3
    have hi := getElem?_lt h2
    have h0 : xs.length ≠ 0 := fun e => hn (List.eq_nil_of_length_eq_zero e)
    have ht : (F (xs ++ r)).take (xs.length * 1) = F xs := by
      rw [F_append, List.take_left' (by rw [F_len, w1i])]
    have hs : (h.app (bs ++ [some (.row 3 1 [])])).src 1 (.slice (some ⟨h.next + i, 0, none⟩) xs.length xs.length) = some (F xs) := by
      simp only [AH.src, AH.row?, app_get, List.getElem?_append_left hi, h2, Option.join_some]
      rw [if_neg h0, if_pos (by rw [F_len, w1i]; simp), List.drop_zero, ht]
    have hg : (h.app (bs ++ [some (.row 3 1 [])])).row? (h.next + bs.length) = some (3, 1, []) := by
      simp only [AH.row?, app_get, List.getElem?_append_right (Nat.le_refl _), Nat.sub_self]; rfl
    constructor
    · have ho : (F xs).all one = true := F_one
      have hro := hw.ro
      simp only [app1, hs, lenV, hg, app_new]
      rw [if_neg h0, if_pos ⟨by omega, by omega, ho⟩, if_pos ⟨by show h.ro ≤ _; omega, by simp⟩, app_put (by simp)]
      simp [app_next]
    · rintro B a b e; cases e; omega
theorem map_keep {es : List (Value × Value)} {x : Option Blk} (hM : bs[m]? = some (some (.map es))) {i : Nat} {b : List Value} (hi : bs[i]? = some (some (.row 3 1 b))) : (bs.set m x)[i]? = some (some (.row 3 1 b)) := by
  have : m ≠ i := by rintro rfl; rw [hM] at hi; simp at hi
  rw [List.getElem?_set, if_neg this]; exact hi
theorem ne_sm {T : TypeId} {e : Nat} {cs : List Value} {es : List (Value × Value)} (hS : bs[s]? = some (some (.row T e cs))) (hM : bs[m]? = some (some (.map es))) : s ≠ m := by
  rintro rfl; rw [hS] at hM; simp at hM
theorem erase_last {K : List Int} {c : Int} (hc : c ∉ K) : (K ++ [c]).erase c = K := by
  rw [List.erase_append_right _ hc]; simp
theorem secL_erase {p : Int} (hok : okp ps occ xs p = true) : (secL ps (xs ++ [p])).erase (secAt ps (xs ++ [p]) xs.length) = secL ps xs := by
  rw [secL_push]
  split
  · rename_i h0
    refine erase_last fun hc => ?_
    rw [secAt_last] at h0 hc
    unfold okp at hok
    cases hp : ps[xs.length]? with
    | none => simp [hp] at h0
    | some pa =>
      simp only [hp] at h0 hc hok
      by_cases h1 : 0 ≤ p ∧ p < pa.length
      · rw [if_pos h1] at h0 hc hok
        rw [freeB_iff h0, decide_eq_true hc] at hok
        simp at hok
      · rw [if_neg h1] at h0; omega
  · rename_i h0
    rw [List.append_nil]
    refine List.erase_of_not_mem fun hc => ?_
    exact h0 (secL_mem.1 hc).1
/-- 'search.assign'. -/
theorem f55_ok (hw : Wf h) (hs : SmallP ps) (hex : goodB ps ex = true) (ho : occ.length < 4611686018427387904) (hoa : occ.Pairwise (· < ·)) (hne : ps ≠ []) (hbud : bud ≤ 1048576) : ∀ (n : Nat) (bs : List (Option Blk)) (xs : List Int) (st : Nat × Int × List Int × Bool), n + xs.length = ps.length → PosP ps xs → (st.1 : Int) ≤ bud → PInv h.next bs s m ps ex occ bud xs st →
    EC Go.Proofs.Try.prog 55 [.pointer (some ⟨h.next + s, 0, none⟩), .int .i64 (tot ex xs)] (h.app bs) fun r h' => ∃ (bs' : List (Option Blk)) (b : Bool) (st' : Nat × Int × List Int × Bool), r = .bool b ∧ h' = h.app bs' ∧ dfs ps occ bud (leafP ps ex occ) n xs st = (b, st') ∧ PInv h.next bs' s m ps ex occ bud xs st' ∧ (b = true → (st'.1 : Int) ≤ bud) := by
  have hs1 := hs.1
  intro n
  induction n with
  | zero =>
    intro bs xs st hn hp hu hi
    obtain ⟨used, sum, best, twice⟩ := st
    have hi0 := hi
    obtain ⟨v, vb, hS, hM, hv, hb⟩ := hi
    simp only at hS hb hu
    have hsl := getElem?_lt hS
    have hxn : xs ≠ [] := by rintro rfl; simp at hn; exact hne (List.eq_nil_of_length_eq_zero hn.symm)
    have hMg : (h.app bs).get (h.next + m) = some (.map (mS (secL ps xs))) := by rw [app_get, hM]; rfl
    have hcnt : (secL ps xs).length = cntTo ps xs xs.length := secTo_len _
    refine EC.intro f55_is ?_
    unfold f55_c
    ((repeat first | with_reducible refine EX.seq ?_ | with_reducible refine EX.blk ?_); refine EX.regx (by intro KK hkk; unfold f55_r0; simp only [SX, Nat.reduceEqDiff, ↓reduceIte, Nat.reduceSub, Nat.reduceAdd, Nat.reduceLT, Nat.reduceLeDiff, Nat.one_ne_zero, Nat.zero_ne_one, show decP [] = [] from rfl, I.quiet, List.not_mem_nil, false_implies, implies_true, -List.reduceReplicate, decide_true, decide_false]; exact hkk) ?_; (repeat first | with_reducible refine nxt_n ?_ | with_reducible refine nxt_e ?_ | with_reducible refine nxt_r ?_ | with_reducible refine inB_n ?_ | with_reducible refine inB_r ?_ | with_reducible refine inB_x ?_ | with_reducible refine inB_y (by decide) ?_ | with_reducible refine orQ_r ?_ | with_reducible refine orQ_x ?_ | with_reducible refine orQ_n ?_))
    ((repeat first | with_reducible refine EX.seq ?_ | with_reducible refine EX.blk ?_); refine EX.regx (by intro KK hkk; unfold f55_r1; simp only [SX, Nat.reduceEqDiff, ↓reduceIte, Nat.reduceSub, Nat.reduceAdd, Nat.reduceLT, Nat.reduceLeDiff, Nat.one_ne_zero, Nat.zero_ne_one, show decP [] = [] from rfl, I.quiet, List.not_mem_nil, false_implies, implies_true, -List.reduceReplicate, decide_true, decide_false, hS, hv.lens]; exact hkk) ?_; (repeat first | with_reducible refine nxt_n ?_ | with_reducible refine nxt_e ?_ | with_reducible refine nxt_r ?_ | with_reducible refine inB_n ?_ | with_reducible refine inB_r ?_ | with_reducible refine inB_x ?_ | with_reducible refine inB_y (by decide) ?_ | with_reducible refine orQ_r ?_ | with_reducible refine orQ_x ?_ | with_reducible refine orQ_n ?_))
    ((repeat first | with_reducible refine EX.seq ?_ | with_reducible refine EX.blk ?_); refine EX.regx (by intro KK hkk; unfold f55_r2; simp only [SX, Nat.reduceEqDiff, ↓reduceIte, Nat.reduceSub, Nat.reduceAdd, Nat.reduceLT, Nat.reduceLeDiff, Nat.one_ne_zero, Nat.zero_ne_one, show decP [] = [] from rfl, I.quiet, List.not_mem_nil, false_implies, implies_true, -List.reduceReplicate, decide_true, decide_false, hS, show (xs.length : Int) = ps.length by omega]; exact hkk) ?_; (repeat first | with_reducible refine nxt_n ?_ | with_reducible refine nxt_e ?_ | with_reducible refine nxt_r ?_ | with_reducible refine inB_n ?_ | with_reducible refine inB_r ?_ | with_reducible refine inB_x ?_ | with_reducible refine inB_y (by decide) ?_ | with_reducible refine orQ_r ?_ | with_reducible refine orQ_x ?_ | with_reducible refine orQ_n ?_))
    refine EX.condT rfl ?_
    refine EX.seq ?_
    refine EX.cut (F := fun T1 H1 => ∃ bs', H1 = h.app bs' ∧ PInv h.next bs' s m ps ex occ bud xs (used, leafP ps ex occ xs (sum, best, twice))) ?_ ?_
    · refine EX.seqM (F := fun T1 H1 => T1 0 = .pointer (some ⟨h.next + s, 0, none⟩) ∧ T1 1 = .int .i64 (tot ex xs) ∧ T1 48 = .bool (decide (cntTo ps xs xs.length = occ.length) && (decide (best = []) || decide (tot ex xs ≤ sum))) ∧ H1 = h.app bs) ?_ ?_
      · have hcc : decide (((secL ps xs).length : Int) = (occ.length : Int)) = decide (cntTo ps xs xs.length = occ.length) := by
          rw [hcnt, decide_eq_decide]; omega
        cases c1 : decide (cntTo ps xs xs.length = occ.length) with
        | false =>
          rw [c1] at hcc
          refine EX.drwx (by intro KK hkk; unfold f55_r3; simp only [SX, Nat.reduceEqDiff, ↓reduceIte, Nat.reduceSub, Nat.reduceAdd, Nat.reduceLT, Nat.reduceLeDiff, Nat.one_ne_zero, Nat.zero_ne_one, show decP [] = [] from rfl, I.quiet, List.not_mem_nil, false_implies, implies_true, -List.reduceReplicate, decide_true, decide_false, hS, run_lenm, lenmV_set hMg, hcc, guard1_tf]; exact hkk) ?_
          exact ⟨rfl, rfl, rfl, rfl, rfl⟩
        | true =>
        rw [c1] at hcc
        have hq := hb.nilEq (eqs := [])
        cases c2 : decide (best = []) with
        | true =>
          rw [c2] at hq
          refine EX.drwx (by intro KK hkk; unfold f55_r3; simp only [SX, Nat.reduceEqDiff, ↓reduceIte, Nat.reduceSub, Nat.reduceAdd, Nat.reduceLT, Nat.reduceLeDiff, Nat.one_ne_zero, Nat.zero_ne_one, show decP [] = [] from rfl, I.quiet, List.not_mem_nil, false_implies, implies_true, -List.reduceReplicate, decide_true, decide_false, hS, run_lenm, lenmV_set hMg, hcc, hq, guard1_tf]; exact hkk) ?_
          exact ⟨rfl, rfl, rfl, rfl, rfl⟩
        | false =>
          rw [c2] at hq
          refine EX.drwx (by intro KK hkk; unfold f55_r3; simp only [SX, Nat.reduceEqDiff, ↓reduceIte, Nat.reduceSub, Nat.reduceAdd, Nat.reduceLT, Nat.reduceLeDiff, Nat.one_ne_zero, Nat.zero_ne_one, show decP [] = [] from rfl, I.quiet, List.not_mem_nil, false_implies, implies_true, -List.reduceReplicate, decide_true, decide_false, hS, run_lenm, lenmV_set hMg, hcc, hq, guard1_tf]; exact hkk) ?_
          exact ⟨rfl, rfl, rfl, rfl, rfl⟩
      rintro T1 H1 ⟨t0, t1, t48, rfl⟩
      cases c1 : (decide (cntTo ps xs xs.length = occ.length) && (decide (best = []) || decide (tot ex xs ≤ sum))) with
      | false =>
        rw [c1] at t48
        refine EX.condF t48 ?_
        refine EX.skip ?_
        refine ⟨rfl, bs, rfl, ?_⟩
        have : leafP ps ex occ xs (sum, best, twice) = (sum, best, twice) := by
          rw [leafP, if_neg]
          rintro ⟨k1, k2⟩
          simp only at k2
          simp only [Bool.and_eq_false_iff, Bool.or_eq_false_iff, decide_eq_false_iff_not] at c1
          rcases c1 with c1 | ⟨c1, c3⟩
          · exact c1 k1
          · rcases k2 with k2 | k2
            · exact c1 k2
            · exact c3 k2
        rw [this]; exact hi0
      | true =>
        rw [c1] at t48
        refine EX.condT t48 ?_
        have hlf : leafP ps ex occ xs (sum, best, twice) = (tot ex xs, xs, decide (best ≠ []) && decide (tot ex xs = sum)) := by
          rw [leafP, if_pos]
          simp only [Bool.and_eq_true, Bool.or_eq_true, decide_eq_true_eq] at c1
          exact c1
        refine EX.seqM (F := fun T2 H2 => T2 0 = .pointer (some ⟨h.next + s, 0, none⟩) ∧ T2 1 = .int .i64 (tot ex xs) ∧ H2 = h.app (bs.set s (some (.row 87 0 [L ps, L ex, L occ, v, .map (some (h.next + m)), .int .i64 used, .int .i64 bud, vb, .int .i64 sum, .bool (decide (best ≠ []) && decide (tot ex xs = sum))])))) ?_ ?_
        · have hq := hb.nilNe (eqs := [])
          cases c2 : decide (best ≠ []) with
          | false =>
            rw [c2] at hq
            refine EX.regx (by intro KK hkk; unfold f55_r4; simp only [SX, Nat.reduceEqDiff, ↓reduceIte, Nat.reduceSub, Nat.reduceAdd, Nat.reduceLT, Nat.reduceLeDiff, Nat.one_ne_zero, Nat.zero_ne_one, show decP [] = [] from rfl, I.quiet, List.not_mem_nil, false_implies, implies_true, -List.reduceReplicate, decide_true, decide_false, t0, t1, hS, hq, hsl, stAt_row hw.roi]; exact hkk) ?_
            exact ⟨rfl, t0, t1, rfl⟩
          | true =>
            rw [c2] at hq
            refine EX.regx (by intro KK hkk; unfold f55_r4; simp only [SX, Nat.reduceEqDiff, ↓reduceIte, Nat.reduceSub, Nat.reduceAdd, Nat.reduceLT, Nat.reduceLeDiff, Nat.one_ne_zero, Nat.zero_ne_one, show decP [] = [] from rfl, I.quiet, List.not_mem_nil, false_implies, implies_true, -List.reduceReplicate, decide_true, decide_false, t0, t1, hS, hq, hsl, stAt_row hw.roi]; exact hkk) ?_
            exact ⟨rfl, t0, t1, rfl⟩
        rintro T2 H2 ⟨u0, u1, rfl⟩
        rw [hlf]
        generalize htw : (decide (best ≠ []) && decide (tot ex xs = sum)) = tw
        have hS1 : (bs.set s (some (.row 87 0 [L ps, L ex, L occ, v, .map (some (h.next + m)), .int .i64 used, .int .i64 bud, vb, .int .i64 sum, .bool tw])))[s]? = _ := List.getElem?_set_self hsl
        have hv1 : AtV h.next (bs.set s (some (.row 87 0 [L ps, L ex, L occ, v, .map (some (h.next + m)), .int .i64 used, .int .i64 bud, vb, .int .i64 sum, .bool tw]))) v xs := hv.keep fun i b => set_keep hS (by decide)
        have hM1 : (bs.set s (some (.row 87 0 [L ps, L ex, L occ, v, .map (some (h.next + m)), .int .i64 used, .int .i64 bud, vb, .int .i64 sum, .bool tw])))[m]? = some (some (.map (mS (secL ps xs)))) := by
          rw [List.getElem?_set, if_neg (ne_sm hS hM)]; exact hM
        generalize bs.set s (some (.row 87 0 [L ps, L ex, L occ, v, .map (some (h.next + m)), .int .i64 used, .int .i64 bud, vb, .int .i64 sum, .bool tw])) = bs1 at *
        have hsl1 := getElem?_lt hS1
        have hml1 := getElem?_lt hM1
        obtain ⟨cp1, cp2⟩ := hv1.copy2 hxn (by have := hp.1; omega) hw
        have hS2 : (bs1 ++ [none, some (.row 3 1 (F xs))])[s]? = _ := (List.getElem?_append_left hsl1).trans hS1
        have hsl2 : s < (bs1 ++ [none, some (Blk.row 3 1 (F xs))]).length := by simp; omega
        have hS3 : (bs1 ++ [some (Blk.row 3 1 [])])[s]? = _ := (List.getElem?_append_left hsl1).trans hS1
        refine EX.regx (by intro KK hkk; unfold f55_r5; simp only [SX, Nat.reduceEqDiff, ↓reduceIte, Nat.reduceSub, Nat.reduceAdd, Nat.reduceLT, Nat.reduceLeDiff, Nat.one_ne_zero, Nat.zero_ne_one, show decP [] = [] from rfl, I.quiet, List.not_mem_nil, false_implies, implies_true, -List.reduceReplicate, decide_true, decide_false, u0, u1, hS3, cp1, hS2, hsl2, List.getElem?_set_self, List.length_set, List.set_set, stAt_row hw.roi]; exact hkk) ?_
        refine ⟨rfl, _, rfl, v, _, List.getElem?_set_self hsl2, ?_, ?_, ?_⟩
        · rw [List.getElem?_set, if_neg (ne_sm hS1 hM1), List.getElem?_append_left hml1]; exact hM1
        · refine hv1.keep fun i b hi => ?_
          rw [List.getElem?_set, if_neg (by rintro rfl; rw [hS1] at hi; simp at hi), List.getElem?_append_left (getElem?_lt hi)]; exact hi
        · refine .inr ⟨bs1.length + 1, rfl, hxn, ?_, fun B a b e => ?_⟩
          · rw [List.getElem?_set, if_neg (by omega), List.getElem?_append_right (by omega)]; simp
          · have := cp2 B a b e; omega
    · rintro T1 H1 ⟨bs', rfl, hi'⟩
      (repeat first | with_reducible refine nxt_n ?_ | with_reducible refine nxt_e ?_ | with_reducible refine nxt_r ?_ | with_reducible refine inB_n ?_ | with_reducible refine inB_r ?_ | with_reducible refine inB_x ?_ | with_reducible refine inB_y (by decide) ?_ | with_reducible refine orQ_r ?_ | with_reducible refine orQ_x ?_ | with_reducible refine orQ_n ?_)
      ((repeat first | with_reducible refine EX.seq ?_ | with_reducible refine EX.blk ?_); refine EX.regx (by intro KK hkk; unfold f55_r6; simp only [SX, Nat.reduceEqDiff, ↓reduceIte, Nat.reduceSub, Nat.reduceAdd, Nat.reduceLT, Nat.reduceLeDiff, Nat.one_ne_zero, Nat.zero_ne_one, show decP [] = [] from rfl, I.quiet, List.not_mem_nil, false_implies, implies_true, -List.reduceReplicate, decide_true, decide_false]; exact hkk) ?_; (repeat first | with_reducible refine nxt_n ?_ | with_reducible refine nxt_e ?_ | with_reducible refine nxt_r ?_ | with_reducible refine inB_n ?_ | with_reducible refine inB_r ?_ | with_reducible refine inB_x ?_ | with_reducible refine inB_y (by decide) ?_ | with_reducible refine orQ_r ?_ | with_reducible refine orQ_x ?_ | with_reducible refine orQ_n ?_))
      ((repeat first | with_reducible refine EX.seq ?_ | with_reducible refine EX.blk ?_); refine EX.ret ?_; (repeat first | with_reducible refine nxt_n ?_ | with_reducible refine nxt_e ?_ | with_reducible refine nxt_r ?_ | with_reducible refine inB_n ?_ | with_reducible refine inB_r ?_ | with_reducible refine inB_x ?_ | with_reducible refine inB_y (by decide) ?_ | with_reducible refine orQ_r ?_ | with_reducible refine orQ_x ?_ | with_reducible refine orQ_n ?_); refine ⟨_, rfl, ?_⟩; simp only [packV, upd, Nat.reduceEqDiff, reduceIte, if_true, if_false, Nat.one_ne_zero, Nat.zero_ne_one])
      exact ⟨bs', true, _, rfl, rfl, rfl, hi', fun _ => hu⟩
  | succ n ih =>
    intro bs xs st hn hp hu hi
    obtain ⟨used0, sum0, best0, twice0⟩ := st
    simp only at hu
    have hi0 := hi
    obtain ⟨v, vb, hS, hM, hv, hb⟩ := hi
    simp only at hS hb
    have hlt : xs.length < ps.length := by omega
    have hpl : plen ps xs.length = ps[xs.length].length := by simp [plen, List.getElem?_eq_getElem hlt]
    have hpa : ps[xs.length].length ≤ 1000 := (hs.2 _ (List.getElem_mem hlt)).1
    obtain ⟨e1, e2, e3⟩ := goodB_get hex hlt
    obtain ⟨z1, z2⟩ := tot_bd hs hp hex
    obtain ⟨b1, st1, hW⟩ : ∃ b1 st1, dfs ps occ bud (leafP ps ex occ) (n + 1) xs (used0, sum0, best0, twice0) = (b1, st1) := ⟨_, _, rfl⟩
    rw [hW]
    rw [dfs_succ, hpl] at hW
    have hpe : ps[xs.length]? = some ps[xs.length] := List.getElem?_eq_getElem hlt
    generalize hL : ps[xs.length].length = len at *
    refine EC.intro f55_is ?_
    unfold f55_c
    ((repeat first | with_reducible refine EX.seq ?_ | with_reducible refine EX.blk ?_); refine EX.regx (by intro KK hkk; unfold f55_r0; simp only [SX, Nat.reduceEqDiff, ↓reduceIte, Nat.reduceSub, Nat.reduceAdd, Nat.reduceLT, Nat.reduceLeDiff, Nat.one_ne_zero, Nat.zero_ne_one, show decP [] = [] from rfl, I.quiet, List.not_mem_nil, false_implies, implies_true, -List.reduceReplicate, decide_true, decide_false]; exact hkk) ?_; (repeat first | with_reducible refine nxt_n ?_ | with_reducible refine nxt_e ?_ | with_reducible refine nxt_r ?_ | with_reducible refine inB_n ?_ | with_reducible refine inB_r ?_ | with_reducible refine inB_x ?_ | with_reducible refine inB_y (by decide) ?_ | with_reducible refine orQ_r ?_ | with_reducible refine orQ_x ?_ | with_reducible refine orQ_n ?_))
    ((repeat first | with_reducible refine EX.seq ?_ | with_reducible refine EX.blk ?_); refine EX.regx (by intro KK hkk; unfold f55_r1; simp only [SX, Nat.reduceEqDiff, ↓reduceIte, Nat.reduceSub, Nat.reduceAdd, Nat.reduceLT, Nat.reduceLeDiff, Nat.one_ne_zero, Nat.zero_ne_one, show decP [] = [] from rfl, I.quiet, List.not_mem_nil, false_implies, implies_true, -List.reduceReplicate, decide_true, decide_false, hS, hv.lens]; exact hkk) ?_; (repeat first | with_reducible refine nxt_n ?_ | with_reducible refine nxt_e ?_ | with_reducible refine nxt_r ?_ | with_reducible refine inB_n ?_ | with_reducible refine inB_r ?_ | with_reducible refine inB_x ?_ | with_reducible refine inB_y (by decide) ?_ | with_reducible refine orQ_r ?_ | with_reducible refine orQ_x ?_ | with_reducible refine orQ_n ?_))
    ((repeat first | with_reducible refine EX.seq ?_ | with_reducible refine EX.blk ?_); refine EX.regx (by intro KK hkk; unfold f55_r2; simp only [SX, Nat.reduceEqDiff, ↓reduceIte, Nat.reduceSub, Nat.reduceAdd, Nat.reduceLT, Nat.reduceLeDiff, Nat.one_ne_zero, Nat.zero_ne_one, show decP [] = [] from rfl, I.quiet, List.not_mem_nil, false_implies, implies_true, -List.reduceReplicate, decide_true, decide_false, hS, show ((xs.length : Int) = ps.length) = False from eq_false (by omega)]; exact hkk) ?_; (repeat first | with_reducible refine nxt_n ?_ | with_reducible refine nxt_e ?_ | with_reducible refine nxt_r ?_ | with_reducible refine inB_n ?_ | with_reducible refine inB_r ?_ | with_reducible refine inB_x ?_ | with_reducible refine inB_y (by decide) ?_ | with_reducible refine orQ_r ?_ | with_reducible refine orQ_x ?_ | with_reducible refine orQ_n ?_))
    refine EX.condF rfl ?_
    (refine EX.skip ?_; (repeat first | with_reducible refine nxt_n ?_ | with_reducible refine nxt_e ?_ | with_reducible refine nxt_r ?_ | with_reducible refine inB_n ?_ | with_reducible refine inB_r ?_ | with_reducible refine inB_x ?_ | with_reducible refine inB_y (by decide) ?_ | with_reducible refine orQ_r ?_ | with_reducible refine orQ_x ?_ | with_reducible refine orQ_n ?_))
    ((repeat first | with_reducible refine EX.seq ?_ | with_reducible refine EX.blk ?_); refine EX.regx (by intro KK hkk; unfold f55_r7; simp only [SX, Nat.reduceEqDiff, ↓reduceIte, Nat.reduceSub, Nat.reduceAdd, Nat.reduceLT, Nat.reduceLeDiff, Nat.one_ne_zero, Nat.zero_ne_one, show decP [] = [] from rfl, I.quiet, List.not_mem_nil, false_implies, implies_true, -List.reduceReplicate, decide_true, decide_false]; exact hkk) ?_; (repeat first | with_reducible refine nxt_n ?_ | with_reducible refine nxt_e ?_ | with_reducible refine nxt_r ?_ | with_reducible refine inB_n ?_ | with_reducible refine inB_r ?_ | with_reducible refine inB_x ?_ | with_reducible refine inB_y (by decide) ?_ | with_reducible refine orQ_r ?_ | with_reducible refine orQ_x ?_ | with_reducible refine orQ_n ?_))
    (repeat first | with_reducible refine EX.seq ?_ | with_reducible refine EX.blk ?_)
    refine EX.loop (σ := Nat × List (Option Blk) × Nat × Int × List Int × Bool) (fun z => upd (upd (upd (upd TE 0 (.pointer (some ⟨h.next + s, 0, none⟩))) 1 (.int .i64 (tot ex xs))) 5 (.int .i64 xs.length)) 6 (.int .i64 ((z.1 : Int) - 1))) (fun z => h.app z.2.1)
      (fun z => z.1 ≤ len + 2 ∧ PInv h.next z.2.1 s m ps ex occ bud xs z.2.2 ∧ (z.2.2.1 : Int) ≤ bud ∧ walk (okp ps occ xs) bud (fun p s => dfs ps occ bud (leafP ps ex occ) n (xs ++ [p]) s) (len + 2 - z.1) z.1 z.2.2 = (b1, st1)) (fun z => len + 2 - z.1) (0, bs, used0, sum0, best0, twice0) ⟨Nat.zero_le _, hi0, hu, hW⟩ (Less.wk (by (repeat refine Less.upd ?_ (by rfl)); exact Less.nil)) ?_
    rintro ⟨k, bs, used, sum, best, twice⟩ ⟨hk, hi, hu, hW⟩
    clear hS hM hv hb hi0
    obtain ⟨v, vb, hS, hM, hv, hb⟩ := hi
    simp only at hk hS hM hb hu hW
    have hsl := getElem?_lt hS
    ((repeat first | with_reducible refine EX.seq ?_ | with_reducible refine EX.blk ?_); refine EX.regx (by intro KK hkk; unfold f55_r8; simp only [SX, Nat.reduceEqDiff, ↓reduceIte, Nat.reduceSub, Nat.reduceAdd, Nat.reduceLT, Nat.reduceLeDiff, Nat.one_ne_zero, Nat.zero_ne_one, show decP [] = [] from rfl, I.quiet, List.not_mem_nil, false_implies, implies_true, -List.reduceReplicate, decide_true, decide_false, hS, hlt, ld1_ef hlt o1l, rd_eq hlt, hL]; exact hkk) ?_; (repeat first | with_reducible refine nxt_n ?_ | with_reducible refine nxt_e ?_ | with_reducible refine nxt_r ?_ | with_reducible refine inB_n ?_ | with_reducible refine inB_r ?_ | with_reducible refine inB_x ?_ | with_reducible refine inB_y (by decide) ?_ | with_reducible refine orQ_r ?_ | with_reducible refine orQ_x ?_ | with_reducible refine orQ_n ?_))
    (repeat first | with_reducible refine EX.seq ?_ | with_reducible refine EX.blk ?_)
    refine EX.dec rfl (fun hd => ?_) (fun hd => ?_)
    · (refine EX.skip ?_; (repeat first | with_reducible refine nxt_n ?_ | with_reducible refine nxt_e ?_ | with_reducible refine nxt_r ?_ | with_reducible refine inB_n ?_ | with_reducible refine inB_r ?_ | with_reducible refine inB_x ?_ | with_reducible refine inB_y (by decide) ?_ | with_reducible refine orQ_r ?_ | with_reducible refine orQ_x ?_ | with_reducible refine orQ_n ?_))
      have hm : len + 2 - k = (len + 1 - k) + 1 := by omega
      rw [hm, walk] at hW
      simp only at hW
      have wk : IntKind.wrap .i64 ((k : Int) - 1 + 1) = ((k + 1 : Nat) : Int) - 1 := by rw [wrap_id (by omega) (by omega)]; omega
      have wu := wrap_nat (show used < 4611686018427387904 by omega)
      ((repeat first | with_reducible refine EX.seq ?_ | with_reducible refine EX.blk ?_); refine EX.regx (by intro KK hkk; unfold f55_r9; simp only [SX, Nat.reduceEqDiff, ↓reduceIte, Nat.reduceSub, Nat.reduceAdd, Nat.reduceLT, Nat.reduceLeDiff, Nat.one_ne_zero, Nat.zero_ne_one, show decP [] = [] from rfl, I.quiet, List.not_mem_nil, false_implies, implies_true, -List.reduceReplicate, decide_true, decide_false, hS, stAt_row hw.roi, hsl, wu]; exact hkk) ?_; (repeat first | with_reducible refine nxt_n ?_ | with_reducible refine nxt_e ?_ | with_reducible refine nxt_r ?_ | with_reducible refine inB_n ?_ | with_reducible refine inB_r ?_ | with_reducible refine inB_x ?_ | with_reducible refine inB_y (by decide) ?_ | with_reducible refine orQ_r ?_ | with_reducible refine orQ_x ?_ | with_reducible refine orQ_n ?_))
      have hS1 : (bs.set s (some (.row 87 0 [L ps, L ex, L occ, v, .map (some (h.next + m)), .int .i64 (used + 1 : Nat), .int .i64 bud, vb, .int .i64 sum, .bool twice])))[s]? = _ := List.getElem?_set_self hsl
      have hv1 : AtV h.next (bs.set s (some (.row 87 0 [L ps, L ex, L occ, v, .map (some (h.next + m)), .int .i64 (used + 1 : Nat), .int .i64 bud, vb, .int .i64 sum, .bool twice]))) v xs := hv.keep fun i b => set_keep hS (by decide)
      have hb1 : BestV h.next (bs.set s (some (.row 87 0 [L ps, L ex, L occ, v, .map (some (h.next + m)), .int .i64 (used + 1 : Nat), .int .i64 bud, vb, .int .i64 sum, .bool twice]))) v vb best := hb.keep fun i b hi hv => ⟨set_keep hS (by decide) hi, hv⟩
      have hM1 : (bs.set s (some (.row 87 0 [L ps, L ex, L occ, v, .map (some (h.next + m)), .int .i64 (used + 1 : Nat), .int .i64 bud, vb, .int .i64 sum, .bool twice])))[m]? = some (some (.map (mS (secL ps xs)))) := by
        rw [List.getElem?_set, if_neg (ne_sm hS hM)]; exact hM
      generalize bs.set s (some (.row 87 0 [L ps, L ex, L occ, v, .map (some (h.next + m)), .int .i64 (used + 1 : Nat), .int .i64 bud, vb, .int .i64 sum, .bool twice])) = bs1 at *
      clear hS hM hv hb
      have hsl1 := getElem?_lt hS1
      have hml1 := getElem?_lt hM1
      ((repeat first | with_reducible refine EX.seq ?_ | with_reducible refine EX.blk ?_); refine EX.drwx (by intro KK hkk; unfold f55_r10; simp only [SX, Nat.reduceEqDiff, ↓reduceIte, Nat.reduceSub, Nat.reduceAdd, Nat.reduceLT, Nat.reduceLeDiff, Nat.one_ne_zero, Nat.zero_ne_one, show decP [] = [] from rfl, I.quiet, List.not_mem_nil, false_implies, implies_true, -List.reduceReplicate, decide_true, decide_false, hS1]; exact hkk) ?_; (repeat first | with_reducible refine nxt_n ?_ | with_reducible refine nxt_e ?_ | with_reducible refine nxt_r ?_ | with_reducible refine inB_n ?_ | with_reducible refine inB_r ?_ | with_reducible refine inB_x ?_ | with_reducible refine inB_y (by decide) ?_ | with_reducible refine orQ_r ?_ | with_reducible refine orQ_x ?_ | with_reducible refine orQ_n ?_))
      refine EX.dec rfl (fun hq => ?_) (fun hq => ?_)
      · rw [if_pos hq] at hW
        ((repeat first | with_reducible refine EX.seq ?_ | with_reducible refine EX.blk ?_); refine EX.regx (by intro KK hkk; unfold f55_r11; simp only [SX, Nat.reduceEqDiff, ↓reduceIte, Nat.reduceSub, Nat.reduceAdd, Nat.reduceLT, Nat.reduceLeDiff, Nat.one_ne_zero, Nat.zero_ne_one, show decP [] = [] from rfl, I.quiet, List.not_mem_nil, false_implies, implies_true, -List.reduceReplicate, decide_true, decide_false]; exact hkk) ?_; (repeat first | with_reducible refine nxt_n ?_ | with_reducible refine nxt_e ?_ | with_reducible refine nxt_r ?_ | with_reducible refine inB_n ?_ | with_reducible refine inB_r ?_ | with_reducible refine inB_x ?_ | with_reducible refine inB_y (by decide) ?_ | with_reducible refine orQ_r ?_ | with_reducible refine orQ_x ?_ | with_reducible refine orQ_n ?_))
        ((repeat first | with_reducible refine EX.seq ?_ | with_reducible refine EX.blk ?_); refine EX.ret ?_; (repeat first | with_reducible refine nxt_n ?_ | with_reducible refine nxt_e ?_ | with_reducible refine nxt_r ?_ | with_reducible refine inB_n ?_ | with_reducible refine inB_r ?_ | with_reducible refine inB_x ?_ | with_reducible refine inB_y (by decide) ?_ | with_reducible refine orQ_r ?_ | with_reducible refine orQ_x ?_ | with_reducible refine orQ_n ?_); refine ⟨_, rfl, ?_⟩; simp only [packV, upd, Nat.reduceEqDiff, reduceIte, if_true, if_false, Nat.one_ne_zero, Nat.zero_ne_one])
        cases hW
        exact ⟨bs1, false, _, rfl, rfl, rfl, ⟨v, vb, hS1, hM1, hv1, hb1⟩, fun e => by cases e⟩
      (refine EX.skip ?_; (repeat first | with_reducible refine nxt_n ?_ | with_reducible refine nxt_e ?_ | with_reducible refine nxt_r ?_ | with_reducible refine inB_n ?_ | with_reducible refine inB_r ?_ | with_reducible refine inB_x ?_ | with_reducible refine inB_y (by decide) ?_ | with_reducible refine orQ_r ?_ | with_reducible refine orQ_x ?_ | with_reducible refine orQ_n ?_))
      rw [if_neg hq] at hW
      ((repeat first | with_reducible refine EX.seq ?_ | with_reducible refine EX.blk ?_); refine EX.regx (by intro KK hkk; unfold f55_r12; simp only [SX, Nat.reduceEqDiff, ↓reduceIte, Nat.reduceSub, Nat.reduceAdd, Nat.reduceLT, Nat.reduceLeDiff, Nat.one_ne_zero, Nat.zero_ne_one, show decP [] = [] from rfl, I.quiet, List.not_mem_nil, false_implies, implies_true, -List.reduceReplicate, decide_true, decide_false]; exact hkk) ?_; (repeat first | with_reducible refine nxt_n ?_ | with_reducible refine nxt_e ?_ | with_reducible refine nxt_r ?_ | with_reducible refine inB_n ?_ | with_reducible refine inB_r ?_ | with_reducible refine inB_x ?_ | with_reducible refine inB_y (by decide) ?_ | with_reducible refine orQ_r ?_ | with_reducible refine orQ_x ?_ | with_reducible refine orQ_n ?_))
      generalize hpp : (k : Int) - 1 = p at *
      have hsa := secAt_last (ps := ps) (xs := xs) (p := p)
      rw [hpe] at hsa
      simp only [hL] at hsa
      have hlast : secL ps (xs ++ [p]) = secL ps xs ++ if 0 ≤ secAt ps (xs ++ [p]) xs.length then [secAt ps (xs ++ [p]) xs.length] else [] := secL_push
      refine EX.seqR (F := fun T1 H1 => okp ps occ xs p = true ∧ T1 0 = .pointer (some ⟨h.next + s, 0, none⟩) ∧ T1 1 = .int .i64 (tot ex xs) ∧ T1 5 = .int .i64 xs.length ∧ T1 6 = .int .i64 p ∧ T1 7 = .int .i64 (secAt ps (xs ++ [p]) xs.length) ∧ ∃ bs2 : List (Option Blk), H1 = h.app bs2 ∧
        bs2[s]? = some (some (.row 87 0 [L ps, L ex, L occ, v, .map (some (h.next + m)), .int .i64 (used + 1 : Nat), .int .i64 bud, vb, .int .i64 sum, .bool twice])) ∧ bs2[m]? = some (some (.map (mS (secL ps (xs ++ [p]))))) ∧ AtV h.next bs2 v xs ∧ BestV h.next bs2 v vb best) ?_ ?_
      · cases c1 : decide ((0 : Int) ≤ p) with
        | false =>
          have c1' := of_decide_eq_false c1
          ((repeat first | with_reducible refine EX.seq ?_ | with_reducible refine EX.blk ?_); refine EX.regx (by intro KK hkk; unfold f55_r13; simp only [SX, Nat.reduceEqDiff, ↓reduceIte, Nat.reduceSub, Nat.reduceAdd, Nat.reduceLT, Nat.reduceLeDiff, Nat.one_ne_zero, Nat.zero_ne_one, show decP [] = [] from rfl, I.quiet, List.not_mem_nil, false_implies, implies_true, -List.reduceReplicate, decide_true, decide_false, c1]; exact hkk) ?_; (repeat first | with_reducible refine nxt_n ?_ | with_reducible refine nxt_e ?_ | with_reducible refine nxt_r ?_ | with_reducible refine inB_n ?_ | with_reducible refine inB_r ?_ | with_reducible refine inB_x ?_ | with_reducible refine inB_y (by decide) ?_ | with_reducible refine orQ_r ?_ | with_reducible refine orQ_x ?_ | with_reducible refine orQ_n ?_))
          refine EX.condF rfl ?_
          (refine EX.skip ?_; (repeat first | with_reducible refine nxt_n ?_ | with_reducible refine nxt_e ?_ | with_reducible refine nxt_r ?_ | with_reducible refine inB_n ?_ | with_reducible refine inB_r ?_ | with_reducible refine inB_x ?_ | with_reducible refine inB_y (by decide) ?_ | with_reducible refine orQ_r ?_ | with_reducible refine orQ_x ?_ | with_reducible refine orQ_n ?_))
          rw [if_neg (by omega)] at hsa
          rw [hlast, hsa, if_neg (by decide), List.append_nil]
          refine ⟨?_, rfl, rfl, rfl, rfl, rfl, bs1, rfl, hS1, hM1, hv1, hb1⟩
          simp only [okp, hpe]; rw [if_neg (by omega)]
        | true =>
        have c1' := of_decide_eq_true c1
        cases c2 : decide (p < (len : Int)) with
        | false =>
          have c2' := of_decide_eq_false c2
          ((repeat first | with_reducible refine EX.seq ?_ | with_reducible refine EX.blk ?_); refine EX.regx (by intro KK hkk; unfold f55_r13; simp only [SX, Nat.reduceEqDiff, ↓reduceIte, Nat.reduceSub, Nat.reduceAdd, Nat.reduceLT, Nat.reduceLeDiff, Nat.one_ne_zero, Nat.zero_ne_one, show decP [] = [] from rfl, I.quiet, List.not_mem_nil, false_implies, implies_true, -List.reduceReplicate, decide_true, decide_false, c1, hS1, hlt, ld1_ef hlt o1l, rd_eq hlt, hL, c2]; exact hkk) ?_; (repeat first | with_reducible refine nxt_n ?_ | with_reducible refine nxt_e ?_ | with_reducible refine nxt_r ?_ | with_reducible refine inB_n ?_ | with_reducible refine inB_r ?_ | with_reducible refine inB_x ?_ | with_reducible refine inB_y (by decide) ?_ | with_reducible refine orQ_r ?_ | with_reducible refine orQ_x ?_ | with_reducible refine orQ_n ?_))
          refine EX.condF rfl ?_
          (refine EX.skip ?_; (repeat first | with_reducible refine nxt_n ?_ | with_reducible refine nxt_e ?_ | with_reducible refine nxt_r ?_ | with_reducible refine inB_n ?_ | with_reducible refine inB_r ?_ | with_reducible refine inB_x ?_ | with_reducible refine inB_y (by decide) ?_ | with_reducible refine orQ_r ?_ | with_reducible refine orQ_x ?_ | with_reducible refine orQ_n ?_))
          rw [if_neg (by omega)] at hsa
          rw [hlast, hsa, if_neg (by decide), List.append_nil]
          refine ⟨?_, rfl, rfl, rfl, rfl, rfl, bs1, rfl, hS1, hM1, hv1, hb1⟩
          simp only [okp, hpe]; rw [if_neg (by omega)]
        | true =>
          have c2' := of_decide_eq_true c2
          have hj : p.toNat < ps[xs.length].length := by omega
          have hj2 : p.toNat < len := by omega
          rw [if_pos ⟨c1', c2'⟩] at hsa
          have h0 : 0 ≤ (rd ps[xs.length] p.toNat).sec := by rw [rd_eq hj]; exact ((hs.2 _ (List.getElem_mem hlt)).2 _ (List.getElem_mem hj)).1
          have hok : okp ps occ xs p = (decide ((rd ps[xs.length] p.toNat).sec ∈ occ) && !decide ((rd ps[xs.length] p.toNat).sec ∈ secL ps xs)) := by
            simp only [okp, hpe, hL]; rw [if_pos ⟨c1', c2'⟩, freeB_iff h0]
          ((repeat first | with_reducible refine EX.seq ?_ | with_reducible refine EX.blk ?_); refine EX.regx (by intro KK hkk; unfold f55_r13; simp only [SX, Nat.reduceEqDiff, ↓reduceIte, Nat.reduceSub, Nat.reduceAdd, Nat.reduceLT, Nat.reduceLeDiff, Nat.one_ne_zero, Nat.zero_ne_one, show decP [] = [] from rfl, I.quiet, List.not_mem_nil, false_implies, implies_true, -List.reduceReplicate, decide_true, decide_false, c1, hS1, hlt, ld1_ef hlt o1l, rd_eq hlt, hL, c2]; exact hkk) ?_; (repeat first | with_reducible refine nxt_n ?_ | with_reducible refine nxt_e ?_ | with_reducible refine nxt_r ?_ | with_reducible refine inB_n ?_ | with_reducible refine inB_r ?_ | with_reducible refine inB_x ?_ | with_reducible refine inB_y (by decide) ?_ | with_reducible refine orQ_r ?_ | with_reducible refine orQ_x ?_ | with_reducible refine orQ_n ?_))
          refine EX.condT rfl ?_
          ((repeat first | with_reducible refine EX.seq ?_ | with_reducible refine EX.blk ?_); refine EX.regx (by intro KK hkk; unfold f55_r14; simp only [SX, Nat.reduceEqDiff, ↓reduceIte, Nat.reduceSub, Nat.reduceAdd, Nat.reduceLT, Nat.reduceLeDiff, Nat.one_ne_zero, Nat.zero_ne_one, show decP [] = [] from rfl, I.quiet, List.not_mem_nil, false_implies, implies_true, -List.reduceReplicate, decide_true, decide_false, hS1, hlt, ld1_ef hlt o1l, rd_eq hlt, hL, c1', hj2, w4s, ld1_ef hj (o4s (show 0 < 4 by decide)), cells_stg]; exact hkk) ?_; (repeat first | with_reducible refine nxt_n ?_ | with_reducible refine nxt_e ?_ | with_reducible refine nxt_r ?_ | with_reducible refine inB_n ?_ | with_reducible refine inB_r ?_ | with_reducible refine inB_x ?_ | with_reducible refine inB_y (by decide) ?_ | with_reducible refine orQ_r ?_ | with_reducible refine orQ_x ?_ | with_reducible refine orQ_n ?_))
          rw [hsa] at hlast ⊢
          generalize (rd ps[xs.length] p.toNat).sec = c at *
          obtain ⟨i90, c90⟩ := f90_ok (h := h.app bs1) (x := c) ho hoa
          ((repeat first | with_reducible refine EX.seq ?_ | with_reducible refine EX.blk ?_); refine EX.regx (by intro KK hkk; unfold f55_r15; simp only [SX, Nat.reduceEqDiff, ↓reduceIte, Nat.reduceSub, Nat.reduceAdd, Nat.reduceLT, Nat.reduceLeDiff, Nat.one_ne_zero, Nat.zero_ne_one, show decP [] = [] from rfl, I.quiet, List.not_mem_nil, false_implies, implies_true, -List.reduceReplicate, decide_true, decide_false, hS1]; refine RO_callvS (c90) ?_; simp only [SX, Nat.reduceEqDiff, ↓reduceIte, Nat.reduceSub, Nat.reduceAdd, Nat.reduceLT, Nat.reduceLeDiff, Nat.one_ne_zero, Nat.zero_ne_one, show decP [] = [] from rfl, I.quiet, List.not_mem_nil, false_implies, implies_true, -List.reduceReplicate, decide_true, decide_false, hS1]; exact hkk) ?_; (repeat first | with_reducible refine nxt_n ?_ | with_reducible refine nxt_e ?_ | with_reducible refine nxt_r ?_ | with_reducible refine inB_n ?_ | with_reducible refine inB_r ?_ | with_reducible refine inB_x ?_ | with_reducible refine inB_y (by decide) ?_ | with_reducible refine orQ_r ?_ | with_reducible refine orQ_x ?_ | with_reducible refine orQ_n ?_))
          have hMg1 : (h.app bs1).get (h.next + m) = some (.map (mS (secL ps xs))) := by rw [app_get, hM1]; rfl
          cases c3 : decide (c ∈ occ) with
          | false =>
            rw [c3, Bool.false_and] at hok
            ((repeat first | with_reducible refine EX.seq ?_ | with_reducible refine EX.blk ?_); refine EX.regx (by intro KK hkk; unfold f55_r16; simp only [SX, Nat.reduceEqDiff, ↓reduceIte, Nat.reduceSub, Nat.reduceAdd, Nat.reduceLT, Nat.reduceLeDiff, Nat.one_ne_zero, Nat.zero_ne_one, show decP [] = [] from rfl, I.quiet, List.not_mem_nil, false_implies, implies_true, -List.reduceReplicate, decide_true, decide_false, c3]; exact hkk) ?_; (repeat first | with_reducible refine nxt_n ?_ | with_reducible refine nxt_e ?_ | with_reducible refine nxt_r ?_ | with_reducible refine inB_n ?_ | with_reducible refine inB_r ?_ | with_reducible refine inB_x ?_ | with_reducible refine inB_y (by decide) ?_ | with_reducible refine orQ_r ?_ | with_reducible refine orQ_x ?_ | with_reducible refine orQ_n ?_))
            refine EX.condT rfl ?_
            (refine EX.exit ?_; (repeat first | with_reducible refine nxt_n ?_ | with_reducible refine nxt_e ?_ | with_reducible refine nxt_r ?_ | with_reducible refine inB_n ?_ | with_reducible refine inB_r ?_ | with_reducible refine inB_x ?_ | with_reducible refine inB_y (by decide) ?_ | with_reducible refine orQ_r ?_ | with_reducible refine orQ_x ?_ | with_reducible refine orQ_n ?_))
            rw [hok, if_neg (by decide)] at hW
            ((repeat first | with_reducible refine EX.seq ?_ | with_reducible refine EX.blk ?_); refine EX.regx (by intro KK hkk; unfold f55_r24; simp only [SX, Nat.reduceEqDiff, ↓reduceIte, Nat.reduceSub, Nat.reduceAdd, Nat.reduceLT, Nat.reduceLeDiff, Nat.one_ne_zero, Nat.zero_ne_one, show decP [] = [] from rfl, I.quiet, List.not_mem_nil, false_implies, implies_true, -List.reduceReplicate, decide_true, decide_false, wk]; exact hkk) ?_; (repeat first | with_reducible refine nxt_n ?_ | with_reducible refine nxt_e ?_ | with_reducible refine nxt_r ?_ | with_reducible refine inB_n ?_ | with_reducible refine inB_r ?_ | with_reducible refine inB_x ?_ | with_reducible refine inB_y (by decide) ?_ | with_reducible refine orQ_r ?_ | with_reducible refine orQ_x ?_ | with_reducible refine orQ_n ?_))
            refine ⟨(k + 1, bs1, used + 1, sum, best, twice), ⟨by show k + 1 ≤ _; omega, ⟨v, vb, hS1, hM1, hv1, hb1⟩, by show ((used + 1 : Nat) : Int) ≤ bud; omega, by rw [← hW]; congr 1; show len + 2 - (k + 1) = len + 1 - k; omega⟩, by show len + 2 - (k + 1) < len + 2 - k; omega, Less.wk (by (repeat refine Less.upd ?_ (by rfl)); exact Less.nil)⟩
          | true =>
          rw [c3, Bool.true_and] at hok
          cases c4 : decide (c ∈ secL ps xs) with
          | true =>
            rw [c4] at hok
            ((repeat first | with_reducible refine EX.seq ?_ | with_reducible refine EX.blk ?_); refine EX.regx (by intro KK hkk; unfold f55_r16; simp only [SX, Nat.reduceEqDiff, ↓reduceIte, Nat.reduceSub, Nat.reduceAdd, Nat.reduceLT, Nat.reduceLeDiff, Nat.one_ne_zero, Nat.zero_ne_one, show decP [] = [] from rfl, I.quiet, List.not_mem_nil, false_implies, implies_true, -List.reduceReplicate, decide_true, decide_false, c3, hS1, run_lk, lkV_set hMg1, c4]; exact hkk) ?_; (repeat first | with_reducible refine nxt_n ?_ | with_reducible refine nxt_e ?_ | with_reducible refine nxt_r ?_ | with_reducible refine inB_n ?_ | with_reducible refine inB_r ?_ | with_reducible refine inB_x ?_ | with_reducible refine inB_y (by decide) ?_ | with_reducible refine orQ_r ?_ | with_reducible refine orQ_x ?_ | with_reducible refine orQ_n ?_))
            refine EX.condT rfl ?_
            (refine EX.exit ?_; (repeat first | with_reducible refine nxt_n ?_ | with_reducible refine nxt_e ?_ | with_reducible refine nxt_r ?_ | with_reducible refine inB_n ?_ | with_reducible refine inB_r ?_ | with_reducible refine inB_x ?_ | with_reducible refine inB_y (by decide) ?_ | with_reducible refine orQ_r ?_ | with_reducible refine orQ_x ?_ | with_reducible refine orQ_n ?_))
            rw [hok, if_neg (by decide)] at hW
            ((repeat first | with_reducible refine EX.seq ?_ | with_reducible refine EX.blk ?_); refine EX.regx (by intro KK hkk; unfold f55_r24; simp only [SX, Nat.reduceEqDiff, ↓reduceIte, Nat.reduceSub, Nat.reduceAdd, Nat.reduceLT, Nat.reduceLeDiff, Nat.one_ne_zero, Nat.zero_ne_one, show decP [] = [] from rfl, I.quiet, List.not_mem_nil, false_implies, implies_true, -List.reduceReplicate, decide_true, decide_false, wk]; exact hkk) ?_; (repeat first | with_reducible refine nxt_n ?_ | with_reducible refine nxt_e ?_ | with_reducible refine nxt_r ?_ | with_reducible refine inB_n ?_ | with_reducible refine inB_r ?_ | with_reducible refine inB_x ?_ | with_reducible refine inB_y (by decide) ?_ | with_reducible refine orQ_r ?_ | with_reducible refine orQ_x ?_ | with_reducible refine orQ_n ?_))
            refine ⟨(k + 1, bs1, used + 1, sum, best, twice), ⟨by show k + 1 ≤ _; omega, ⟨v, vb, hS1, hM1, hv1, hb1⟩, by show ((used + 1 : Nat) : Int) ≤ bud; omega, by rw [← hW]; congr 1; show len + 2 - (k + 1) = len + 1 - k; omega⟩, by show len + 2 - (k + 1) < len + 2 - k; omega, Less.wk (by (repeat refine Less.upd ?_ (by rfl)); exact Less.nil)⟩
          | false =>
            rw [c4] at hok
            have c4' := of_decide_eq_false c4
            ((repeat first | with_reducible refine EX.seq ?_ | with_reducible refine EX.blk ?_); refine EX.regx (by intro KK hkk; unfold f55_r16; simp only [SX, Nat.reduceEqDiff, ↓reduceIte, Nat.reduceSub, Nat.reduceAdd, Nat.reduceLT, Nat.reduceLeDiff, Nat.one_ne_zero, Nat.zero_ne_one, show decP [] = [] from rfl, I.quiet, List.not_mem_nil, false_implies, implies_true, -List.reduceReplicate, decide_true, decide_false, c3, hS1, run_lk, lkV_set hMg1, c4]; exact hkk) ?_; (repeat first | with_reducible refine nxt_n ?_ | with_reducible refine nxt_e ?_ | with_reducible refine nxt_r ?_ | with_reducible refine inB_n ?_ | with_reducible refine inB_r ?_ | with_reducible refine inB_x ?_ | with_reducible refine inB_y (by decide) ?_ | with_reducible refine orQ_r ?_ | with_reducible refine orQ_x ?_ | with_reducible refine orQ_n ?_))
            refine EX.condF rfl ?_
            (refine EX.skip ?_; (repeat first | with_reducible refine nxt_n ?_ | with_reducible refine nxt_e ?_ | with_reducible refine nxt_r ?_ | with_reducible refine inB_n ?_ | with_reducible refine inB_r ?_ | with_reducible refine inB_x ?_ | with_reducible refine inB_y (by decide) ?_ | with_reducible refine orQ_r ?_ | with_reducible refine orQ_x ?_ | with_reducible refine orQ_n ?_))
            ((repeat first | with_reducible refine EX.seq ?_ | with_reducible refine EX.blk ?_); refine EX.regx (by intro KK hkk; unfold f55_r17; simp only [SX, Nat.reduceEqDiff, ↓reduceIte, Nat.reduceSub, Nat.reduceAdd, Nat.reduceLT, Nat.reduceLeDiff, Nat.one_ne_zero, Nat.zero_ne_one, show decP [] = [] from rfl, I.quiet, List.not_mem_nil, false_implies, implies_true, -List.reduceReplicate, decide_true, decide_false, hS1, run_mup, mup1_set hMg1 hw.roi, hml1]; exact hkk) ?_; (repeat first | with_reducible refine nxt_n ?_ | with_reducible refine nxt_e ?_ | with_reducible refine nxt_r ?_ | with_reducible refine inB_n ?_ | with_reducible refine inB_r ?_ | with_reducible refine inB_x ?_ | with_reducible refine inB_y (by decide) ?_ | with_reducible refine orQ_r ?_ | with_reducible refine orQ_x ?_ | with_reducible refine orQ_n ?_))
            refine ⟨hok, rfl, rfl, rfl, rfl, rfl, _, rfl, ?_, ?_, hv1.keep fun i b => map_keep hM1, hb1.keep fun i b hi hv => ⟨map_keep hM1 hi, hv⟩⟩
            · rw [List.getElem?_set, if_neg (fun e => ne_sm hS1 hM1 e.symm)]; exact hS1
            · rw [hlast, if_pos h0, insK, if_neg c4']; exact List.getElem?_set_self hml1
      rintro T1 H1 ⟨hok, t0, t1, t5, t6, t7, bs2, rfl, hS2, hM2, hv2, hb2⟩
      clear hS1 hM1 hv1 hb1 hsl1 hml1
      rw [hok, if_pos rfl] at hW
      obtain ⟨bs3, v3, ap, hsl3, hS3, hv3, hb3, hk3⟩ := push_inv (x := p) hw hS2 (by decide) hv2 hb2 (by omega)
      have hM3 := hk3 _ _ hM2 (by intro zs e; cases e)
      have hone3 := hv3.one1
      ((repeat first | with_reducible refine EX.seq ?_ | with_reducible refine EX.blk ?_); refine EX.regx (by intro KK hkk; unfold f55_r18; simp only [SX, Nat.reduceEqDiff, ↓reduceIte, Nat.reduceSub, Nat.reduceAdd, Nat.reduceLT, Nat.reduceLeDiff, Nat.one_ne_zero, Nat.zero_ne_one, show decP [] = [] from rfl, I.quiet, List.not_mem_nil, false_implies, implies_true, -List.reduceReplicate, decide_true, decide_false, t0, t5, t6, hS2, ap, hone3, hsl3, hS3, stAt_row hw.roi]; exact hkk) ?_; (repeat first | with_reducible refine nxt_n ?_ | with_reducible refine nxt_e ?_ | with_reducible refine nxt_r ?_ | with_reducible refine inB_n ?_ | with_reducible refine inB_r ?_ | with_reducible refine inB_x ?_ | with_reducible refine inB_y (by decide) ?_ | with_reducible refine orQ_r ?_ | with_reducible refine orQ_x ?_ | with_reducible refine orQ_n ?_))
      have hx2 : (xs ++ [p]).length = xs.length + 1 := by simp
      have hp2 : PosP ps (xs ++ [p]) := hp.push hlt (by omega) (by rw [hpl]; omega)
      obtain ⟨y1, y2⟩ := tot_bd hs hp2 hex
      rw [tot_push, rd_eq e1] at y1 y2
      obtain ⟨_, _, g, bs4, b4, st4, rfl, rfl, hdf, ⟨v4, vb4, hS4, hM4, hv4, hb4⟩, hu4⟩ := ih (bs3.set s (some (.row 87 0 [L ps, L ex, L occ, v3, .map (some (h.next + m)), .int .i64 (used + 1 : Nat), .int .i64 bud, vb, .int .i64 sum, .bool twice]))) (xs ++ [p]) (used + 1, sum, best, twice) (by rw [hx2]; omega) hp2 (by show ((used + 1 : Nat) : Int) ≤ bud; omega) ⟨v3, vb, List.getElem?_set_self hsl3, by rw [List.getElem?_set, if_neg (ne_sm hS3 hM3)]; exact hM3, hv3.keep fun i b => set_keep hS3 (by decide), hb3.keep fun i b hi hv => ⟨set_keep hS3 (by decide) hi, hv⟩⟩
      rw [tot_push, rd_eq e1] at g
      have hsl4 := getElem?_lt hS4
      have hml4 := getElem?_lt hM4
      rw [hdf] at hW
      simp only at hW
      have wd : IntKind.wrap .i64 (tot ex xs + dist p ex[xs.length]) = tot ex xs + dist p ex[xs.length] := wrap_id (by omega) (by omega)
      have c91 := f91_ok (h := h.app (bs3.set s (some (.row 87 0 [L ps, L ex, L occ, v3, .map (some (h.next + m)), .int .i64 (used + 1 : Nat), .int .i64 bud, vb, .int .i64 sum, .bool twice])))) (a := p) (b := ex[xs.length]) (by omega) (by omega) (by omega) (by omega)
      ((repeat first | with_reducible refine EX.seq ?_ | with_reducible refine EX.blk ?_); refine EX.regx (by intro KK hkk; unfold f55_r19; simp only [SX, Nat.reduceEqDiff, ↓reduceIte, Nat.reduceSub, Nat.reduceAdd, Nat.reduceLT, Nat.reduceLeDiff, Nat.one_ne_zero, Nat.zero_ne_one, show decP [] = [] from rfl, I.quiet, List.not_mem_nil, false_implies, implies_true, -List.reduceReplicate, decide_true, decide_false, t0, t1, t5, t6, List.getElem?_set_self hsl3, e1, ld1_ef e1 o1i, rd_eq e1, wd]; refine RO_callvS (c91) ?_; simp only [SX, Nat.reduceEqDiff, ↓reduceIte, Nat.reduceSub, Nat.reduceAdd, Nat.reduceLT, Nat.reduceLeDiff, Nat.one_ne_zero, Nat.zero_ne_one, show decP [] = [] from rfl, I.quiet, List.not_mem_nil, false_implies, implies_true, -List.reduceReplicate, decide_true, decide_false, t0, t1, t5, t6, List.getElem?_set_self hsl3, e1, ld1_ef e1 o1i, rd_eq e1, wd]; refine RO_callE (g) ?_; simp only [SX, Nat.reduceEqDiff, ↓reduceIte, Nat.reduceSub, Nat.reduceAdd, Nat.reduceLT, Nat.reduceLeDiff, Nat.one_ne_zero, Nat.zero_ne_one, show decP [] = [] from rfl, I.quiet, List.not_mem_nil, false_implies, implies_true, -List.reduceReplicate, decide_true, decide_false, t0, t1, t5, t6, List.getElem?_set_self hsl3, e1, ld1_ef e1 o1i, rd_eq e1, wd]; exact hkk) ?_; (repeat first | with_reducible refine nxt_n ?_ | with_reducible refine nxt_e ?_ | with_reducible refine nxt_r ?_ | with_reducible refine inB_n ?_ | with_reducible refine inB_r ?_ | with_reducible refine inB_x ?_ | with_reducible refine inB_y (by decide) ?_ | with_reducible refine orQ_r ?_ | with_reducible refine orQ_x ?_ | with_reducible refine orQ_n ?_))
      have hxt : (xs ++ [p]).take xs.length = xs := List.take_left' rfl
      obtain ⟨v5, hsls, hv5, hv5k⟩ := hv4.take (t := xs.length) (by rw [hx2]; omega)
      rw [hxt] at hv5
      have hone5 := hv5.one1
      ((repeat first | with_reducible refine EX.seq ?_ | with_reducible refine EX.blk ?_); refine EX.regx (by intro KK hkk; unfold f55_r20; simp only [SX, Nat.reduceEqDiff, ↓reduceIte, Nat.reduceSub, Nat.reduceAdd, Nat.reduceLT, Nat.reduceLeDiff, Nat.one_ne_zero, Nat.zero_ne_one, show decP [] = [] from rfl, I.quiet, List.not_mem_nil, false_implies, implies_true, -List.reduceReplicate, decide_true, decide_false, t0, t5, hS4, hsls, hone5, hsl4, stAt_row hw.roi]; exact hkk) ?_; (repeat first | with_reducible refine nxt_n ?_ | with_reducible refine nxt_e ?_ | with_reducible refine nxt_r ?_ | with_reducible refine inB_n ?_ | with_reducible refine inB_r ?_ | with_reducible refine inB_x ?_ | with_reducible refine inB_y (by decide) ?_ | with_reducible refine orQ_r ?_ | with_reducible refine orQ_x ?_ | with_reducible refine orQ_n ?_))
      have hS5 : (bs4.set s (some (.row 87 0 [L ps, L ex, L occ, v5, .map (some (h.next + m)), .int .i64 (st4.1 : Nat), .int .i64 bud, vb4, .int .i64 st4.2.1, .bool st4.2.2.2])))[s]? = _ := List.getElem?_set_self hsl4
      have hv6 : AtV h.next (bs4.set s (some (.row 87 0 [L ps, L ex, L occ, v5, .map (some (h.next + m)), .int .i64 (st4.1 : Nat), .int .i64 bud, vb4, .int .i64 st4.2.1, .bool st4.2.2.2]))) v5 xs := hv5.keep fun i b => set_keep hS4 (by decide)
      have hb6 : BestV h.next (bs4.set s (some (.row 87 0 [L ps, L ex, L occ, v5, .map (some (h.next + m)), .int .i64 (st4.1 : Nat), .int .i64 bud, vb4, .int .i64 st4.2.1, .bool st4.2.2.2]))) v5 vb4 st4.2.2.1 := hb4.keep fun i b hi hv => ⟨set_keep hS4 (by decide) hi, fun B a b e => by obtain ⟨a', b', e'⟩ := hv5k _ _ _ e; exact hv _ _ _ e'⟩
      have hM5 : (bs4.set s (some (.row 87 0 [L ps, L ex, L occ, v5, .map (some (h.next + m)), .int .i64 (st4.1 : Nat), .int .i64 bud, vb4, .int .i64 st4.2.1, .bool st4.2.2.2])))[m]? = some (some (.map (mS (secL ps (xs ++ [p]))))) := by
        rw [List.getElem?_set, if_neg (ne_sm hS4 hM4)]; exact hM4
      generalize bs4.set s (some (.row 87 0 [L ps, L ex, L occ, v5, .map (some (h.next + m)), .int .i64 (st4.1 : Nat), .int .i64 bud, vb4, .int .i64 st4.2.1, .bool st4.2.2.2])) = bs5 at *
      have hMg5 : (h.app bs5).get (h.next + m) = some (.map (mS (secL ps (xs ++ [p])))) := by rw [app_get, hM5]; rfl
      have hml5 := getElem?_lt hM5
      ((repeat first | with_reducible refine EX.seq ?_ | with_reducible refine EX.blk ?_); refine EX.regx (by intro KK hkk; unfold f55_r21; simp only [SX, Nat.reduceEqDiff, ↓reduceIte, Nat.reduceSub, Nat.reduceAdd, Nat.reduceLT, Nat.reduceLeDiff, Nat.one_ne_zero, Nat.zero_ne_one, show decP [] = [] from rfl, I.quiet, List.not_mem_nil, false_implies, implies_true, -List.reduceReplicate, decide_true, decide_false, t0, t7, hS5, run_del, del1_set hMg5 hw.roi, hml5, secL_erase hok]; exact hkk) ?_; (repeat first | with_reducible refine nxt_n ?_ | with_reducible refine nxt_e ?_ | with_reducible refine nxt_r ?_ | with_reducible refine inB_n ?_ | with_reducible refine inB_r ?_ | with_reducible refine inB_x ?_ | with_reducible refine inB_y (by decide) ?_ | with_reducible refine orQ_r ?_ | with_reducible refine orQ_x ?_ | with_reducible refine orQ_n ?_))
      ((repeat first | with_reducible refine EX.seq ?_ | with_reducible refine EX.blk ?_); refine EX.regx (by intro KK hkk; unfold f55_r22; simp only [SX, Nat.reduceEqDiff, ↓reduceIte, Nat.reduceSub, Nat.reduceAdd, Nat.reduceLT, Nat.reduceLeDiff, Nat.one_ne_zero, Nat.zero_ne_one, show decP [] = [] from rfl, I.quiet, List.not_mem_nil, false_implies, implies_true, -List.reduceReplicate, decide_true, decide_false]; exact hkk) ?_; (repeat first | with_reducible refine nxt_n ?_ | with_reducible refine nxt_e ?_ | with_reducible refine nxt_r ?_ | with_reducible refine inB_n ?_ | with_reducible refine inB_r ?_ | with_reducible refine inB_x ?_ | with_reducible refine inB_y (by decide) ?_ | with_reducible refine orQ_r ?_ | with_reducible refine orQ_x ?_ | with_reducible refine orQ_n ?_))
      have hI6 : PInv h.next (bs5.set m (some (.map (mS (secL ps xs))))) s m ps ex occ bud xs st4 := ⟨v5, vb4, by rw [List.getElem?_set, if_neg (fun e => ne_sm hS5 hM5 e.symm)]; exact hS5, List.getElem?_set_self hml5, hv6.keep fun i b => map_keep hM5, hb6.keep fun i b hi hv => ⟨map_keep hM5 hi, hv⟩⟩
      cases b4 with
      | false =>
        refine EX.condT rfl ?_
        ((repeat first | with_reducible refine EX.seq ?_ | with_reducible refine EX.blk ?_); refine EX.regx (by intro KK hkk; unfold f55_r23; simp only [SX, Nat.reduceEqDiff, ↓reduceIte, Nat.reduceSub, Nat.reduceAdd, Nat.reduceLT, Nat.reduceLeDiff, Nat.one_ne_zero, Nat.zero_ne_one, show decP [] = [] from rfl, I.quiet, List.not_mem_nil, false_implies, implies_true, -List.reduceReplicate, decide_true, decide_false]; exact hkk) ?_; (repeat first | with_reducible refine nxt_n ?_ | with_reducible refine nxt_e ?_ | with_reducible refine nxt_r ?_ | with_reducible refine inB_n ?_ | with_reducible refine inB_r ?_ | with_reducible refine inB_x ?_ | with_reducible refine inB_y (by decide) ?_ | with_reducible refine orQ_r ?_ | with_reducible refine orQ_x ?_ | with_reducible refine orQ_n ?_))
        ((repeat first | with_reducible refine EX.seq ?_ | with_reducible refine EX.blk ?_); refine EX.ret ?_; (repeat first | with_reducible refine nxt_n ?_ | with_reducible refine nxt_e ?_ | with_reducible refine nxt_r ?_ | with_reducible refine inB_n ?_ | with_reducible refine inB_r ?_ | with_reducible refine inB_x ?_ | with_reducible refine inB_y (by decide) ?_ | with_reducible refine orQ_r ?_ | with_reducible refine orQ_x ?_ | with_reducible refine orQ_n ?_); refine ⟨_, rfl, ?_⟩; simp only [packV, upd, Nat.reduceEqDiff, reduceIte, if_true, if_false, Nat.one_ne_zero, Nat.zero_ne_one])
        rw [if_neg (by decide)] at hW
        cases hW
        exact ⟨_, false, _, rfl, rfl, rfl, hI6, fun e => by cases e⟩
      | true =>
        refine EX.condF rfl ?_
        (refine EX.skip ?_; (repeat first | with_reducible refine nxt_n ?_ | with_reducible refine nxt_e ?_ | with_reducible refine nxt_r ?_ | with_reducible refine inB_n ?_ | with_reducible refine inB_r ?_ | with_reducible refine inB_x ?_ | with_reducible refine inB_y (by decide) ?_ | with_reducible refine orQ_r ?_ | with_reducible refine orQ_x ?_ | with_reducible refine orQ_n ?_))
        rw [if_pos rfl] at hW
        ((repeat first | with_reducible refine EX.seq ?_ | with_reducible refine EX.blk ?_); refine EX.regx (by intro KK hkk; unfold f55_r24; simp only [SX, Nat.reduceEqDiff, ↓reduceIte, Nat.reduceSub, Nat.reduceAdd, Nat.reduceLT, Nat.reduceLeDiff, Nat.one_ne_zero, Nat.zero_ne_one, show decP [] = [] from rfl, I.quiet, List.not_mem_nil, false_implies, implies_true, -List.reduceReplicate, decide_true, decide_false, t6, wk]; exact hkk) ?_; (repeat first | with_reducible refine nxt_n ?_ | with_reducible refine nxt_e ?_ | with_reducible refine nxt_r ?_ | with_reducible refine inB_n ?_ | with_reducible refine inB_r ?_ | with_reducible refine inB_x ?_ | with_reducible refine inB_y (by decide) ?_ | with_reducible refine orQ_r ?_ | with_reducible refine orQ_x ?_ | with_reducible refine orQ_n ?_))
        refine ⟨(k + 1, _, st4), ⟨by show k + 1 ≤ _; omega, hI6, hu4 rfl, by rw [← hW]; congr 1; show len + 2 - (k + 1) = len + 1 - k; omega⟩, by show len + 2 - (k + 1) < len + 2 - k; omega, Less.wk ?_⟩
        refine Less.upd (Less.upd (Less.upd (Less.upd Less.nil ?_) ?_) ?_) ?_ <;> simp [upd, t0, t1, t5]
    · (refine EX.exit ?_; (repeat first | with_reducible refine nxt_n ?_ | with_reducible refine nxt_e ?_ | with_reducible refine nxt_r ?_ | with_reducible refine inB_n ?_ | with_reducible refine inB_r ?_ | with_reducible refine inB_x ?_ | with_reducible refine inB_y (by decide) ?_ | with_reducible refine orQ_r ?_ | with_reducible refine orQ_x ?_ | with_reducible refine orQ_n ?_))
      have hm : len + 2 - k = 0 := by omega
      rw [hm, walk] at hW
      ((repeat first | with_reducible refine EX.seq ?_ | with_reducible refine EX.blk ?_); refine EX.regx (by intro KK hkk; unfold f55_r25; simp only [SX, Nat.reduceEqDiff, ↓reduceIte, Nat.reduceSub, Nat.reduceAdd, Nat.reduceLT, Nat.reduceLeDiff, Nat.one_ne_zero, Nat.zero_ne_one, show decP [] = [] from rfl, I.quiet, List.not_mem_nil, false_implies, implies_true, -List.reduceReplicate, decide_true, decide_false]; exact hkk) ?_; (repeat first | with_reducible refine nxt_n ?_ | with_reducible refine nxt_e ?_ | with_reducible refine nxt_r ?_ | with_reducible refine inB_n ?_ | with_reducible refine inB_r ?_ | with_reducible refine inB_x ?_ | with_reducible refine inB_y (by decide) ?_ | with_reducible refine orQ_r ?_ | with_reducible refine orQ_x ?_ | with_reducible refine orQ_n ?_))
      ((repeat first | with_reducible refine EX.seq ?_ | with_reducible refine EX.blk ?_); refine EX.ret ?_; (repeat first | with_reducible refine nxt_n ?_ | with_reducible refine nxt_e ?_ | with_reducible refine nxt_r ?_ | with_reducible refine inB_n ?_ | with_reducible refine inB_r ?_ | with_reducible refine inB_x ?_ | with_reducible refine inB_y (by decide) ?_ | with_reducible refine orQ_r ?_ | with_reducible refine orQ_x ?_ | with_reducible refine orQ_n ?_); refine ⟨_, rfl, ?_⟩; simp only [packV, upd, Nat.reduceEqDiff, reduceIte, if_true, if_false, Nat.one_ne_zero, Nat.zero_ne_one])
      cases hW
      exact ⟨bs, true, _, rfl, rfl, rfl, ⟨v, vb, hS, hM, hv, hb⟩, fun _ => hu⟩
end
end Go.Proofs.Ythofdojknjhpgaa
