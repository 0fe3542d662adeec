/- Contracts: the reference's search. -/
import Derived.Test.YthofdojknjhpgaaQ12
set_option linter.unusedVariables false
set_option linter.unusedSimpArgs false
namespace Go.Proofs.Ythofdojknjhpgaa
open Go
section
variable {h : AH} {bs : List (Option Blk)} {ps : List (List Stg)} {ex occ xs best : List Int} {s : Nat} {bud : Int} {v vb : Value}
theorem AtV.off {B : Nat} (a : AtV h.next bs v xs) (hB : ∀ cs, bs[B]? ≠ some (some (.row 3 1 cs))) : ∀ C a b, v = .slice (some ⟨C, 0, none⟩) a b → C ≠ h.next + B := by
  rcases a with ⟨rfl, _⟩ | ⟨i, zs, rfl, h2, _⟩
  · rintro C a b e; cases e
  · rintro C a b e; cases e
    intro e
    obtain rfl : i = B := by omega
    exact hB _ h2
theorem push_inv {T : TypeId} {e : Nat} {cs : List Value} {x : Int} (hw : Wf h) (hS : bs[s]? = some (some (.row T e cs))) (hT : T ≠ 3) (hv : AtV h.next bs v xs) (hb : BestV h.next bs v vb best) (hl : xs.length ≤ 1000) :
    ∃ (bs2 : List (Option Blk)) (v2 : Value), app1 3 1 8 v (.slice (some ⟨h.next + bs.length, 0, none⟩) 1 1) (h.app (bs ++ [some (.row 3 1 [.int .i64 x])])) = some (v2, h.app bs2) ∧ s < bs2.length ∧ bs2[s]? = some (some (.row T e cs)) ∧ AtV h.next bs2 v2 (xs ++ [x]) ∧ BestV h.next bs2 v2 vb best ∧
    ∀ (k : Nat) (b : Blk), bs[k]? = some (some b) → (∀ zs, b ≠ .row 3 1 zs) → bs2[k]? = some (some b) := by
  obtain ⟨bs2, a1, a2, a3, a4⟩ := hv.push (x := x) hw hl
  have hsl := getElem?_lt hS
  refine ⟨bs2, _, a1, by omega, a4 _ _ hS (hv.off ?_), .inr ⟨bs.length + 1, xs ++ [x], by simp, a3, List.prefix_refl _⟩, hb.keep ?_, ?_⟩
  · intro cs' e
    rw [hS] at e; simp at e; exact hT e.1
  · intro i b hi hv'
    refine ⟨a4 _ _ hi hv', ?_⟩
    have := getElem?_lt hi
    rintro B a b e; cases e; omega
  · intro k b hk hb'
    refine a4 _ _ hk (hv.off fun cs' e => ?_)
    rw [hk] at e; simp at e; exact hb' _ e
theorem dfs_succ {S : Type} {leaf : List Int → S → S} {n : Nat} {st : Nat × S} : dfs ps occ bud leaf (n + 1) xs st = walk (okp ps occ xs) bud (fun p s => dfs ps occ bud leaf n (xs ++ [p]) s) (plen ps xs.length + 2) 0 st := rfl
/-- 'seeking.assign'. -/
theorem f56_ok (hw : Wf h) (hs : SmallP ps) (hex : goodB ps ex = true) (ho : occ.length < 4611686018427387904) (hne : ps ≠ []) (hbud : bud ≤ 1048576) : ∀ (n : Nat) (bs : List (Option Blk)) (xs : List Int) (st : Nat × Nat × Int × List Int), n + xs.length = ps.length → PosP ps xs → st.2.1 + (if n = 0 then 1 else 0) ≤ st.1 → (st.1 : Int) ≤ bud → RInv h.next bs s ps ex occ bud xs st →
    EC Go.Proofs.Try.prog 56 [.pointer (some ⟨h.next + s, 0, none⟩)] (h.app bs) fun r h' => ∃ (bs' : List (Option Blk)) (b : Bool) (st' : Nat × Nat × Int × List Int), r = .bool b ∧ h' = h.app bs' ∧ dfs ps occ bud (leafR ps ex occ) n xs st = (b, st') ∧ (∃ xs', (b = true → xs' = xs) ∧ RInv h.next bs' s ps ex occ bud xs' st') ∧ st'.2.1 ≤ st'.1 ∧ (b = true → (st'.1 : Int) ≤ bud) := by
  have hs1 := hs.1
  intro n
  induction n with
  | zero =>
    intro bs xs st hn hp hf hu hi
    obtain ⟨used, found, sum, best⟩ := st
    have hi0 := hi
    obtain ⟨v, vb, hS, hv, hb⟩ := hi
    simp only [if_true] at hS hb hf hu
    have hxn : xs ≠ [] := by rintro rfl; simp at hn; exact hne (List.eq_nil_of_length_eq_zero hn.symm)
    obtain ⟨_, h2, g, rfl, bs', rfl, hi'⟩ := f92_ok hw hs hex ho hp hxn (by show found < _; omega) hi0
    refine EC.intro f56_is ?_
    unfold f56_c
    ((repeat first | with_reducible refine EX.seq ?_ | with_reducible refine EX.blk ?_); refine EX.regx (by intro KK hkk; unfold f56_r0; simp only [SX, Nat.reduceEqDiff, ↓reduceIte, Nat.reduceSub, Nat.reduceAdd, Nat.reduceLT, Nat.reduceLeDiff, Nat.one_ne_zero, Nat.zero_ne_one, show decP [] = [] from rfl, I.quiet, List.not_mem_nil, false_implies, implies_true, -List.reduceReplicate, decide_true, decide_false]; exact hkk) ?_; (repeat first | with_reducible refine nxt_n ?_ | with_reducible refine nxt_e ?_ | with_reducible refine nxt_r ?_ | with_reducible refine inB_n ?_ | with_reducible refine inB_r ?_ | with_reducible refine inB_x ?_ | with_reducible refine inB_y (by decide) ?_ | with_reducible refine orQ_r ?_ | with_reducible refine orQ_x ?_ | with_reducible refine orQ_n ?_))
    ((repeat first | with_reducible refine EX.seq ?_ | with_reducible refine EX.blk ?_); refine EX.regx (by intro KK hkk; unfold f56_r1; simp only [SX, Nat.reduceEqDiff, ↓reduceIte, Nat.reduceSub, Nat.reduceAdd, Nat.reduceLT, Nat.reduceLeDiff, Nat.one_ne_zero, Nat.zero_ne_one, show decP [] = [] from rfl, I.quiet, List.not_mem_nil, false_implies, implies_true, -List.reduceReplicate, decide_true, decide_false, hS, hv.lens]; exact hkk) ?_; (repeat first | with_reducible refine nxt_n ?_ | with_reducible refine nxt_e ?_ | with_reducible refine nxt_r ?_ | with_reducible refine inB_n ?_ | with_reducible refine inB_r ?_ | with_reducible refine inB_x ?_ | with_reducible refine inB_y (by decide) ?_ | with_reducible refine orQ_r ?_ | with_reducible refine orQ_x ?_ | with_reducible refine orQ_n ?_))
    ((repeat first | with_reducible refine EX.seq ?_ | with_reducible refine EX.blk ?_); refine EX.regx (by intro KK hkk; unfold f56_r2; simp only [SX, Nat.reduceEqDiff, ↓reduceIte, Nat.reduceSub, Nat.reduceAdd, Nat.reduceLT, Nat.reduceLeDiff, Nat.one_ne_zero, Nat.zero_ne_one, show decP [] = [] from rfl, I.quiet, List.not_mem_nil, false_implies, implies_true, -List.reduceReplicate, decide_true, decide_false, hS, show (xs.length : Int) = ps.length by omega]; exact hkk) ?_; (repeat first | with_reducible refine nxt_n ?_ | with_reducible refine nxt_e ?_ | with_reducible refine nxt_r ?_ | with_reducible refine inB_n ?_ | with_reducible refine inB_r ?_ | with_reducible refine inB_x ?_ | with_reducible refine inB_y (by decide) ?_ | with_reducible refine orQ_r ?_ | with_reducible refine orQ_x ?_ | with_reducible refine orQ_n ?_))
    refine EX.condT rfl ?_
    ((repeat first | with_reducible refine EX.seq ?_ | with_reducible refine EX.blk ?_); refine EX.regx (by intro KK hkk; unfold f56_r3; simp only [SX, Nat.reduceEqDiff, ↓reduceIte, Nat.reduceSub, Nat.reduceAdd, Nat.reduceLT, Nat.reduceLeDiff, Nat.one_ne_zero, Nat.zero_ne_one, show decP [] = [] from rfl, I.quiet, List.not_mem_nil, false_implies, implies_true, -List.reduceReplicate, decide_true, decide_false]; refine RO_callE (g) ?_; simp only [SX, Nat.reduceEqDiff, ↓reduceIte, Nat.reduceSub, Nat.reduceAdd, Nat.reduceLT, Nat.reduceLeDiff, Nat.one_ne_zero, Nat.zero_ne_one, show decP [] = [] from rfl, I.quiet, List.not_mem_nil, false_implies, implies_true, -List.reduceReplicate, decide_true, decide_false]; exact hkk) ?_; (repeat first | with_reducible refine nxt_n ?_ | with_reducible refine nxt_e ?_ | with_reducible refine nxt_r ?_ | with_reducible refine inB_n ?_ | with_reducible refine inB_r ?_ | with_reducible refine inB_x ?_ | with_reducible refine inB_y (by decide) ?_ | with_reducible refine orQ_r ?_ | with_reducible refine orQ_x ?_ | with_reducible refine orQ_n ?_))
    ((repeat first | with_reducible refine EX.seq ?_ | with_reducible refine EX.blk ?_); refine EX.regx (by intro KK hkk; unfold f56_r4; simp only [SX, Nat.reduceEqDiff, ↓reduceIte, Nat.reduceSub, Nat.reduceAdd, Nat.reduceLT, Nat.reduceLeDiff, Nat.one_ne_zero, Nat.zero_ne_one, show decP [] = [] from rfl, I.quiet, List.not_mem_nil, false_implies, implies_true, -List.reduceReplicate, decide_true, decide_false]; exact hkk) ?_; (repeat first | with_reducible refine nxt_n ?_ | with_reducible refine nxt_e ?_ | with_reducible refine nxt_r ?_ | with_reducible refine inB_n ?_ | with_reducible refine inB_r ?_ | with_reducible refine inB_x ?_ | with_reducible refine inB_y (by decide) ?_ | with_reducible refine orQ_r ?_ | with_reducible refine orQ_x ?_ | with_reducible refine orQ_n ?_))
    ((repeat first | with_reducible refine EX.seq ?_ | with_reducible refine EX.blk ?_); refine EX.ret ?_; (repeat first | with_reducible refine nxt_n ?_ | with_reducible refine nxt_e ?_ | with_reducible refine nxt_r ?_ | with_reducible refine inB_n ?_ | with_reducible refine inB_r ?_ | with_reducible refine inB_x ?_ | with_reducible refine inB_y (by decide) ?_ | with_reducible refine orQ_r ?_ | with_reducible refine orQ_x ?_ | with_reducible refine orQ_n ?_); refine ⟨_, rfl, ?_⟩; simp only [packV, upd, Nat.reduceEqDiff, reduceIte, if_true, if_false, Nat.one_ne_zero, Nat.zero_ne_one])
    refine ⟨bs', true, (used, leafR ps ex occ xs (found, sum, best)), rfl, rfl, rfl, ⟨xs, fun _ => rfl, hi'⟩, ?_, fun _ => hu⟩
    show (leafR ps ex occ xs (found, sum, best)).1 ≤ used
    unfold leafR
    split
    · show found ≤ used; omega
    · split
      · show 1 ≤ used; omega
      · split
        · show found + 1 ≤ used; omega
        · show found ≤ used; omega
  | succ n ih =>
    intro bs xs st hn hp hf hu hi
    obtain ⟨used0, found0, sum0, best0⟩ := st
    simp only [if_neg (Nat.succ_ne_zero n), Nat.add_zero] at hf hu
    have hi0 := hi
    obtain ⟨v, vb, hS, hv, hb⟩ := hi
    simp only at hS hb
    have hlt : xs.length < ps.length := by omega
    have hpl : plen ps xs.length = ps[xs.length].length := by simp [plen, List.getElem?_eq_getElem hlt]
    have hpa : ps[xs.length].length ≤ 1000 := (hs.2 _ (List.getElem_mem hlt)).1
    obtain ⟨b1, st1, hW⟩ : ∃ b1 st1, dfs ps occ bud (leafR ps ex occ) (n + 1) xs (used0, found0, sum0, best0) = (b1, st1) := ⟨_, _, rfl⟩
    rw [hW]
    rw [dfs_succ, hpl] at hW
    generalize hL : ps[xs.length].length = len at *
    refine EC.intro f56_is ?_
    unfold f56_c
    ((repeat first | with_reducible refine EX.seq ?_ | with_reducible refine EX.blk ?_); refine EX.regx (by intro KK hkk; unfold f56_r0; simp only [SX, Nat.reduceEqDiff, ↓reduceIte, Nat.reduceSub, Nat.reduceAdd, Nat.reduceLT, Nat.reduceLeDiff, Nat.one_ne_zero, Nat.zero_ne_one, show decP [] = [] from rfl, I.quiet, List.not_mem_nil, false_implies, implies_true, -List.reduceReplicate, decide_true, decide_false]; exact hkk) ?_; (repeat first | with_reducible refine nxt_n ?_ | with_reducible refine nxt_e ?_ | with_reducible refine nxt_r ?_ | with_reducible refine inB_n ?_ | with_reducible refine inB_r ?_ | with_reducible refine inB_x ?_ | with_reducible refine inB_y (by decide) ?_ | with_reducible refine orQ_r ?_ | with_reducible refine orQ_x ?_ | with_reducible refine orQ_n ?_))
    ((repeat first | with_reducible refine EX.seq ?_ | with_reducible refine EX.blk ?_); refine EX.regx (by intro KK hkk; unfold f56_r1; simp only [SX, Nat.reduceEqDiff, ↓reduceIte, Nat.reduceSub, Nat.reduceAdd, Nat.reduceLT, Nat.reduceLeDiff, Nat.one_ne_zero, Nat.zero_ne_one, show decP [] = [] from rfl, I.quiet, List.not_mem_nil, false_implies, implies_true, -List.reduceReplicate, decide_true, decide_false, hS, hv.lens]; exact hkk) ?_; (repeat first | with_reducible refine nxt_n ?_ | with_reducible refine nxt_e ?_ | with_reducible refine nxt_r ?_ | with_reducible refine inB_n ?_ | with_reducible refine inB_r ?_ | with_reducible refine inB_x ?_ | with_reducible refine inB_y (by decide) ?_ | with_reducible refine orQ_r ?_ | with_reducible refine orQ_x ?_ | with_reducible refine orQ_n ?_))
    ((repeat first | with_reducible refine EX.seq ?_ | with_reducible refine EX.blk ?_); refine EX.regx (by intro KK hkk; unfold f56_r2; simp only [SX, Nat.reduceEqDiff, ↓reduceIte, Nat.reduceSub, Nat.reduceAdd, Nat.reduceLT, Nat.reduceLeDiff, Nat.one_ne_zero, Nat.zero_ne_one, show decP [] = [] from rfl, I.quiet, List.not_mem_nil, false_implies, implies_true, -List.reduceReplicate, decide_true, decide_false, hS, show ((xs.length : Int) = ps.length) = False from eq_false (by omega)]; exact hkk) ?_; (repeat first | with_reducible refine nxt_n ?_ | with_reducible refine nxt_e ?_ | with_reducible refine nxt_r ?_ | with_reducible refine inB_n ?_ | with_reducible refine inB_r ?_ | with_reducible refine inB_x ?_ | with_reducible refine inB_y (by decide) ?_ | with_reducible refine orQ_r ?_ | with_reducible refine orQ_x ?_ | with_reducible refine orQ_n ?_))
    refine EX.condF rfl ?_
    (refine EX.skip ?_; (repeat first | with_reducible refine nxt_n ?_ | with_reducible refine nxt_e ?_ | with_reducible refine nxt_r ?_ | with_reducible refine inB_n ?_ | with_reducible refine inB_r ?_ | with_reducible refine inB_x ?_ | with_reducible refine inB_y (by decide) ?_ | with_reducible refine orQ_r ?_ | with_reducible refine orQ_x ?_ | with_reducible refine orQ_n ?_))
    ((repeat first | with_reducible refine EX.seq ?_ | with_reducible refine EX.blk ?_); refine EX.regx (by intro KK hkk; unfold f56_r5; simp only [SX, Nat.reduceEqDiff, ↓reduceIte, Nat.reduceSub, Nat.reduceAdd, Nat.reduceLT, Nat.reduceLeDiff, Nat.one_ne_zero, Nat.zero_ne_one, show decP [] = [] from rfl, I.quiet, List.not_mem_nil, false_implies, implies_true, -List.reduceReplicate, decide_true, decide_false]; exact hkk) ?_; (repeat first | with_reducible refine nxt_n ?_ | with_reducible refine nxt_e ?_ | with_reducible refine nxt_r ?_ | with_reducible refine inB_n ?_ | with_reducible refine inB_r ?_ | with_reducible refine inB_x ?_ | with_reducible refine inB_y (by decide) ?_ | with_reducible refine orQ_r ?_ | with_reducible refine orQ_x ?_ | with_reducible refine orQ_n ?_))
    (repeat first | with_reducible refine EX.seq ?_ | with_reducible refine EX.blk ?_)
    refine EX.loop (σ := Nat × List (Option Blk) × Nat × Nat × Int × List Int) (fun z => upd (upd (upd TE 0 (.pointer (some ⟨h.next + s, 0, none⟩))) 3 (.int .i64 xs.length)) 4 (.int .i64 ((z.1 : Int) - 1))) (fun z => h.app z.2.1)
      (fun z => z.1 ≤ len + 2 ∧ RInv h.next z.2.1 s ps ex occ bud xs z.2.2 ∧ z.2.2.2.1 ≤ z.2.2.1 ∧ (z.2.2.1 : Int) ≤ bud ∧ walk (okp ps occ xs) bud (fun p s => dfs ps occ bud (leafR ps ex occ) n (xs ++ [p]) s) (len + 2 - z.1) z.1 z.2.2 = (b1, st1)) (fun z => len + 2 - z.1) (0, bs, used0, found0, sum0, best0) ⟨Nat.zero_le _, hi0, hf, hu, hW⟩ (Less.wk (by (repeat refine Less.upd ?_ (by rfl)); exact Less.nil)) ?_
    rintro ⟨k, bs, used, found, sum, best⟩ ⟨hk, hi, hf, hu, hW⟩
    clear hS hv hb hi0
    obtain ⟨v, vb, hS, hv, hb⟩ := hi
    simp only at hk hS hb hf hu hW
    have hsl := getElem?_lt hS
    ((repeat first | with_reducible refine EX.seq ?_ | with_reducible refine EX.blk ?_); refine EX.regx (by intro KK hkk; unfold f56_r6; simp only [SX, Nat.reduceEqDiff, ↓reduceIte, Nat.reduceSub, Nat.reduceAdd, Nat.reduceLT, Nat.reduceLeDiff, Nat.one_ne_zero, Nat.zero_ne_one, show decP [] = [] from rfl, I.quiet, List.not_mem_nil, false_implies, implies_true, -List.reduceReplicate, decide_true, decide_false, hS, hlt, ld1_ef hlt o1l, rd_eq hlt, hL]; exact hkk) ?_; (repeat first | with_reducible refine nxt_n ?_ | with_reducible refine nxt_e ?_ | with_reducible refine nxt_r ?_ | with_reducible refine inB_n ?_ | with_reducible refine inB_r ?_ | with_reducible refine inB_x ?_ | with_reducible refine inB_y (by decide) ?_ | with_reducible refine orQ_r ?_ | with_reducible refine orQ_x ?_ | with_reducible refine orQ_n ?_))
    (repeat first | with_reducible refine EX.seq ?_ | with_reducible refine EX.blk ?_)
    refine EX.dec rfl (fun hd => ?_) (fun hd => ?_)
    · (refine EX.skip ?_; (repeat first | with_reducible refine nxt_n ?_ | with_reducible refine nxt_e ?_ | with_reducible refine nxt_r ?_ | with_reducible refine inB_n ?_ | with_reducible refine inB_r ?_ | with_reducible refine inB_x ?_ | with_reducible refine inB_y (by decide) ?_ | with_reducible refine orQ_r ?_ | with_reducible refine orQ_x ?_ | with_reducible refine orQ_n ?_))
      have hm : len + 2 - k = (len + 1 - k) + 1 := by omega
      rw [hm, walk] at hW
      simp only at hW
      have wk : IntKind.wrap .i64 ((k : Int) - 1 + 1) = ((k + 1 : Nat) : Int) - 1 := by rw [wrap_id (by omega) (by omega)]; omega
      have wu := wrap_nat (show used < 4611686018427387904 by omega)
      ((repeat first | with_reducible refine EX.seq ?_ | with_reducible refine EX.blk ?_); refine EX.regx (by intro KK hkk; unfold f56_r7; simp only [SX, Nat.reduceEqDiff, ↓reduceIte, Nat.reduceSub, Nat.reduceAdd, Nat.reduceLT, Nat.reduceLeDiff, Nat.one_ne_zero, Nat.zero_ne_one, show decP [] = [] from rfl, I.quiet, List.not_mem_nil, false_implies, implies_true, -List.reduceReplicate, decide_true, decide_false, hS, stAt_row hw.roi, hsl, wu]; exact hkk) ?_; (repeat first | with_reducible refine nxt_n ?_ | with_reducible refine nxt_e ?_ | with_reducible refine nxt_r ?_ | with_reducible refine inB_n ?_ | with_reducible refine inB_r ?_ | with_reducible refine inB_x ?_ | with_reducible refine inB_y (by decide) ?_ | with_reducible refine orQ_r ?_ | with_reducible refine orQ_x ?_ | with_reducible refine orQ_n ?_))
      have hS1 : (bs.set s (some (.row 91 0 [L ps, L ex, L occ, .int .i64 bud, .int .i64 (used + 1 : Nat), v, .int .i64 found, .int .i64 sum, vb])))[s]? = _ := List.getElem?_set_self hsl
      have hv1 : AtV h.next (bs.set s (some (.row 91 0 [L ps, L ex, L occ, .int .i64 bud, .int .i64 (used + 1 : Nat), v, .int .i64 found, .int .i64 sum, vb]))) v xs := hv.keep fun i b => set_keep hS (by decide)
      have hb1 : BestV h.next (bs.set s (some (.row 91 0 [L ps, L ex, L occ, .int .i64 bud, .int .i64 (used + 1 : Nat), v, .int .i64 found, .int .i64 sum, vb]))) v vb best := hb.keep fun i b hi hv => ⟨set_keep hS (by decide) hi, hv⟩
      generalize bs.set s (some (.row 91 0 [L ps, L ex, L occ, .int .i64 bud, .int .i64 (used + 1 : Nat), v, .int .i64 found, .int .i64 sum, vb])) = bs1 at *
      clear hS hv hb
      have hsl1 := getElem?_lt hS1
      ((repeat first | with_reducible refine EX.seq ?_ | with_reducible refine EX.blk ?_); refine EX.drwx (by intro KK hkk; unfold f56_r8; simp only [SX, Nat.reduceEqDiff, ↓reduceIte, Nat.reduceSub, Nat.reduceAdd, Nat.reduceLT, Nat.reduceLeDiff, Nat.one_ne_zero, Nat.zero_ne_one, show decP [] = [] from rfl, I.quiet, List.not_mem_nil, false_implies, implies_true, -List.reduceReplicate, decide_true, decide_false, hS1]; exact hkk) ?_; (repeat first | with_reducible refine nxt_n ?_ | with_reducible refine nxt_e ?_ | with_reducible refine nxt_r ?_ | with_reducible refine inB_n ?_ | with_reducible refine inB_r ?_ | with_reducible refine inB_x ?_ | with_reducible refine inB_y (by decide) ?_ | with_reducible refine orQ_r ?_ | with_reducible refine orQ_x ?_ | with_reducible refine orQ_n ?_))
      refine EX.dec rfl (fun hq => ?_) (fun hq => ?_)
      · rw [if_pos hq] at hW
        ((repeat first | with_reducible refine EX.seq ?_ | with_reducible refine EX.blk ?_); refine EX.regx (by intro KK hkk; unfold f56_r9; simp only [SX, Nat.reduceEqDiff, ↓reduceIte, Nat.reduceSub, Nat.reduceAdd, Nat.reduceLT, Nat.reduceLeDiff, Nat.one_ne_zero, Nat.zero_ne_one, show decP [] = [] from rfl, I.quiet, List.not_mem_nil, false_implies, implies_true, -List.reduceReplicate, decide_true, decide_false]; exact hkk) ?_; (repeat first | with_reducible refine nxt_n ?_ | with_reducible refine nxt_e ?_ | with_reducible refine nxt_r ?_ | with_reducible refine inB_n ?_ | with_reducible refine inB_r ?_ | with_reducible refine inB_x ?_ | with_reducible refine inB_y (by decide) ?_ | with_reducible refine orQ_r ?_ | with_reducible refine orQ_x ?_ | with_reducible refine orQ_n ?_))
        ((repeat first | with_reducible refine EX.seq ?_ | with_reducible refine EX.blk ?_); refine EX.ret ?_; (repeat first | with_reducible refine nxt_n ?_ | with_reducible refine nxt_e ?_ | with_reducible refine nxt_r ?_ | with_reducible refine inB_n ?_ | with_reducible refine inB_r ?_ | with_reducible refine inB_x ?_ | with_reducible refine inB_y (by decide) ?_ | with_reducible refine orQ_r ?_ | with_reducible refine orQ_x ?_ | with_reducible refine orQ_n ?_); refine ⟨_, rfl, ?_⟩; simp only [packV, upd, Nat.reduceEqDiff, reduceIte, if_true, if_false, Nat.one_ne_zero, Nat.zero_ne_one])
        cases hW
        exact ⟨bs1, false, _, rfl, rfl, rfl, ⟨xs, fun _ => rfl, v, vb, hS1, hv1, hb1⟩, by show found ≤ used + 1; omega, fun e => by cases e⟩
      (refine EX.skip ?_; (repeat first | with_reducible refine nxt_n ?_ | with_reducible refine nxt_e ?_ | with_reducible refine nxt_r ?_ | with_reducible refine inB_n ?_ | with_reducible refine inB_r ?_ | with_reducible refine inB_x ?_ | with_reducible refine inB_y (by decide) ?_ | with_reducible refine orQ_r ?_ | with_reducible refine orQ_x ?_ | with_reducible refine orQ_n ?_))
      rw [if_neg hq] at hW
      refine EX.seq ?_
      refine EX.seqM (F := fun T1 H1 => T1 0 = .pointer (some ⟨h.next + s, 0, none⟩) ∧ T1 3 = .int .i64 xs.length ∧ T1 4 = .int .i64 ((k : Int) - 1) ∧ T1 76 = .bool (!okp ps occ xs ((k : Int) - 1)) ∧ H1 = h.app bs1) ?_ ?_
      · have hpe : ps[xs.length]? = some ps[xs.length] := List.getElem?_eq_getElem hlt
        cases c1 : decide ((0 : Int) ≤ (k : Int) - 1) with
        | false =>
          have c1' := of_decide_eq_false c1
          have : okp ps occ xs ((k : Int) - 1) = true := by
            simp only [okp, hpe]; rw [if_neg (by omega)]
          rw [this]
          refine EX.regx (by intro KK hkk; unfold f56_r10; simp only [SX, Nat.reduceEqDiff, ↓reduceIte, Nat.reduceSub, Nat.reduceAdd, Nat.reduceLT, Nat.reduceLeDiff, Nat.one_ne_zero, Nat.zero_ne_one, show decP [] = [] from rfl, I.quiet, List.not_mem_nil, false_implies, implies_true, -List.reduceReplicate, decide_true, decide_false, c1]; exact hkk) ?_
          exact ⟨rfl, rfl, rfl, rfl, rfl, rfl⟩
        | true =>
        have c1' := of_decide_eq_true c1
        cases c2 : decide ((k : Int) - 1 < (len : Int)) with
        | false =>
          have c2' := of_decide_eq_false c2
          have : okp ps occ xs ((k : Int) - 1) = true := by
            simp only [okp, hpe, hL]; rw [if_neg (by omega)]
          rw [this]
          refine EX.regx (by intro KK hkk; unfold f56_r10; simp only [SX, Nat.reduceEqDiff, ↓reduceIte, Nat.reduceSub, Nat.reduceAdd, Nat.reduceLT, Nat.reduceLeDiff, Nat.one_ne_zero, Nat.zero_ne_one, show decP [] = [] from rfl, I.quiet, List.not_mem_nil, false_implies, implies_true, -List.reduceReplicate, decide_true, decide_false, c1, hS1, hlt, ld1_ef hlt o1l, rd_eq hlt, hL, c2]; exact hkk) ?_
          exact ⟨rfl, rfl, rfl, rfl, rfl, rfl⟩
        | true =>
          have c2' := of_decide_eq_true c2
          have hj : ((k : Int) - 1).toNat < ps[xs.length].length := by omega
          have hj2 : ((k : Int) - 1).toNat < len := by omega
          have : okp ps occ xs ((k : Int) - 1) = freeB ps occ xs (rd ps[xs.length] ((k : Int) - 1).toNat).sec := by
            simp only [okp, hpe, hL]; rw [if_pos ⟨c1', c2'⟩]
          rw [this]
          have c93 := f93_ok (c := (rd ps[xs.length] ((k : Int) - 1).toNat).sec) hw hS1 hv1 hp.1 hs1 ho
          refine EX.regx (by intro KK hkk; unfold f56_r10; simp only [SX, Nat.reduceEqDiff, ↓reduceIte, Nat.reduceSub, Nat.reduceAdd, Nat.reduceLT, Nat.reduceLeDiff, Nat.one_ne_zero, Nat.zero_ne_one, show decP [] = [] from rfl, I.quiet, List.not_mem_nil, false_implies, implies_true, -List.reduceReplicate, decide_true, decide_false, c1, hS1, hlt, ld1_ef hlt o1l, rd_eq hlt, hL, c2, c1', hj2, w4s, ld1_ef hj (o4s (show 0 < 4 by decide)), cells_stg]; refine RO_callvS (c93) ?_; simp only [SX, Nat.reduceEqDiff, ↓reduceIte, Nat.reduceSub, Nat.reduceAdd, Nat.reduceLT, Nat.reduceLeDiff, Nat.one_ne_zero, Nat.zero_ne_one, show decP [] = [] from rfl, I.quiet, List.not_mem_nil, false_implies, implies_true, -List.reduceReplicate, decide_true, decide_false]; exact hkk) ?_
          exact ⟨rfl, rfl, rfl, rfl, rfl, rfl⟩
      rintro T1 H1 ⟨t0, t3, t4, t76, rfl⟩
      cases hok : okp ps occ xs ((k : Int) - 1) with
      | false =>
        rw [hok] at hW t76
        rw [if_neg (by decide)] at hW
        refine EX.condT t76 ?_
        (refine EX.exit ?_; (repeat first | with_reducible refine nxt_n ?_ | with_reducible refine nxt_e ?_ | with_reducible refine nxt_r ?_ | with_reducible refine inB_n ?_ | with_reducible refine inB_r ?_ | with_reducible refine inB_x ?_ | with_reducible refine inB_y (by decide) ?_ | with_reducible refine orQ_r ?_ | with_reducible refine orQ_x ?_ | with_reducible refine orQ_n ?_))
        ((repeat first | with_reducible refine EX.seq ?_ | with_reducible refine EX.blk ?_); refine EX.regx (by intro KK hkk; unfold f56_r15; simp only [SX, Nat.reduceEqDiff, ↓reduceIte, Nat.reduceSub, Nat.reduceAdd, Nat.reduceLT, Nat.reduceLeDiff, Nat.one_ne_zero, Nat.zero_ne_one, show decP [] = [] from rfl, I.quiet, List.not_mem_nil, false_implies, implies_true, -List.reduceReplicate, decide_true, decide_false, t4, wk]; exact hkk) ?_; (repeat first | with_reducible refine nxt_n ?_ | with_reducible refine nxt_e ?_ | with_reducible refine nxt_r ?_ | with_reducible refine inB_n ?_ | with_reducible refine inB_r ?_ | with_reducible refine inB_x ?_ | with_reducible refine inB_y (by decide) ?_ | with_reducible refine orQ_r ?_ | with_reducible refine orQ_x ?_ | with_reducible refine orQ_n ?_))
        refine ⟨(k + 1, bs1, used + 1, found, sum, best), ⟨by show k + 1 ≤ _; omega, ⟨v, vb, hS1, hv1, hb1⟩, by show found ≤ used + 1; omega, by show ((used + 1 : Nat) : Int) ≤ bud; omega, by rw [← hW]; congr 1; show len + 2 - (k + 1) = len + 1 - k; omega⟩, by show len + 2 - (k + 1) < len + 2 - k; omega, Less.wk ?_⟩
        refine Less.upd (Less.upd (Less.upd Less.nil ?_) ?_) ?_ <;> simp [upd, t0, t3]
      | true =>
        rw [hok] at hW t76
        rw [if_pos rfl] at hW
        refine EX.condF t76 ?_
        (refine EX.skip ?_; (repeat first | with_reducible refine nxt_n ?_ | with_reducible refine nxt_e ?_ | with_reducible refine nxt_r ?_ | with_reducible refine inB_n ?_ | with_reducible refine inB_r ?_ | with_reducible refine inB_x ?_ | with_reducible refine inB_y (by decide) ?_ | with_reducible refine orQ_r ?_ | with_reducible refine orQ_x ?_ | with_reducible refine orQ_n ?_))
        obtain ⟨bs2, v2, ap, hsl2, hS2, hv2, hb2, _⟩ := push_inv (x := (k : Int) - 1) hw hS1 (by decide) hv1 hb1 (by omega)
        have hone2 := hv2.one1
        ((repeat first | with_reducible refine EX.seq ?_ | with_reducible refine EX.blk ?_); refine EX.regx (by intro KK hkk; unfold f56_r11; simp only [SX, Nat.reduceEqDiff, ↓reduceIte, Nat.reduceSub, Nat.reduceAdd, Nat.reduceLT, Nat.reduceLeDiff, Nat.one_ne_zero, Nat.zero_ne_one, show decP [] = [] from rfl, I.quiet, List.not_mem_nil, false_implies, implies_true, -List.reduceReplicate, decide_true, decide_false, t0, t3, t4, hS1, ap, hone2, hsl2, hS2, stAt_row hw.roi]; exact hkk) ?_; (repeat first | with_reducible refine nxt_n ?_ | with_reducible refine nxt_e ?_ | with_reducible refine nxt_r ?_ | with_reducible refine inB_n ?_ | with_reducible refine inB_r ?_ | with_reducible refine inB_x ?_ | with_reducible refine inB_y (by decide) ?_ | with_reducible refine orQ_r ?_ | with_reducible refine orQ_x ?_ | with_reducible refine orQ_n ?_))
        have hx2 : (xs ++ [(k : Int) - 1]).length = xs.length + 1 := by simp
        obtain ⟨_, _, g, bs3, b3, st3, rfl, rfl, hdf, ⟨xs3, hxs3, v3, vb3, hS3, hv3, hb3⟩, hf3, hu3⟩ := ih (bs2.set s (some (.row 91 0 [L ps, L ex, L occ, .int .i64 bud, .int .i64 (used + 1 : Nat), v2, .int .i64 found, .int .i64 sum, vb]))) (xs ++ [(k : Int) - 1]) (used + 1, found, sum, best) (by rw [hx2]; omega) (hp.push hlt (by omega) (by rw [hpl]; omega)) (by show found + _ ≤ used + 1; split <;> omega) (by show ((used + 1 : Nat) : Int) ≤ bud; omega) ⟨v2, vb, List.getElem?_set_self hsl2, hv2.keep fun i b => set_keep hS2 (by decide), hb2.keep fun i b hi hv => ⟨set_keep hS2 (by decide) hi, hv⟩⟩
        have hsl3 := getElem?_lt hS3
        rw [hdf] at hW
        simp only at hW
        ((repeat first | with_reducible refine EX.seq ?_ | with_reducible refine EX.blk ?_); refine EX.regx (by intro KK hkk; unfold f56_r12; simp only [SX, Nat.reduceEqDiff, ↓reduceIte, Nat.reduceSub, Nat.reduceAdd, Nat.reduceLT, Nat.reduceLeDiff, Nat.one_ne_zero, Nat.zero_ne_one, show decP [] = [] from rfl, I.quiet, List.not_mem_nil, false_implies, implies_true, -List.reduceReplicate, decide_true, decide_false, t0, t3, t4]; refine RO_callE (g) ?_; simp only [SX, Nat.reduceEqDiff, ↓reduceIte, Nat.reduceSub, Nat.reduceAdd, Nat.reduceLT, Nat.reduceLeDiff, Nat.one_ne_zero, Nat.zero_ne_one, show decP [] = [] from rfl, I.quiet, List.not_mem_nil, false_implies, implies_true, -List.reduceReplicate, decide_true, decide_false, t0, t3, t4]; exact hkk) ?_; (repeat first | with_reducible refine nxt_n ?_ | with_reducible refine nxt_e ?_ | with_reducible refine nxt_r ?_ | with_reducible refine inB_n ?_ | with_reducible refine inB_r ?_ | with_reducible refine inB_x ?_ | with_reducible refine inB_y (by decide) ?_ | with_reducible refine orQ_r ?_ | with_reducible refine orQ_x ?_ | with_reducible refine orQ_n ?_))
        cases b3 with
        | false =>
          refine EX.condT rfl ?_
          ((repeat first | with_reducible refine EX.seq ?_ | with_reducible refine EX.blk ?_); refine EX.regx (by intro KK hkk; unfold f56_r13; simp only [SX, Nat.reduceEqDiff, ↓reduceIte, Nat.reduceSub, Nat.reduceAdd, Nat.reduceLT, Nat.reduceLeDiff, Nat.one_ne_zero, Nat.zero_ne_one, show decP [] = [] from rfl, I.quiet, List.not_mem_nil, false_implies, implies_true, -List.reduceReplicate, decide_true, decide_false]; exact hkk) ?_; (repeat first | with_reducible refine nxt_n ?_ | with_reducible refine nxt_e ?_ | with_reducible refine nxt_r ?_ | with_reducible refine inB_n ?_ | with_reducible refine inB_r ?_ | with_reducible refine inB_x ?_ | with_reducible refine inB_y (by decide) ?_ | with_reducible refine orQ_r ?_ | with_reducible refine orQ_x ?_ | with_reducible refine orQ_n ?_))
          ((repeat first | with_reducible refine EX.seq ?_ | with_reducible refine EX.blk ?_); refine EX.ret ?_; (repeat first | with_reducible refine nxt_n ?_ | with_reducible refine nxt_e ?_ | with_reducible refine nxt_r ?_ | with_reducible refine inB_n ?_ | with_reducible refine inB_r ?_ | with_reducible refine inB_x ?_ | with_reducible refine inB_y (by decide) ?_ | with_reducible refine orQ_r ?_ | with_reducible refine orQ_x ?_ | with_reducible refine orQ_n ?_); refine ⟨_, rfl, ?_⟩; simp only [packV, upd, Nat.reduceEqDiff, reduceIte, if_true, if_false, Nat.one_ne_zero, Nat.zero_ne_one])
          rw [if_neg (by decide)] at hW
          cases hW
          exact ⟨bs3, false, _, rfl, rfl, rfl, ⟨xs3, fun e => (by cases e), v3, vb3, hS3, hv3, hb3⟩, hf3, fun e => by cases e⟩
        | true =>
          refine EX.condF rfl ?_
          (refine EX.skip ?_; (repeat first | with_reducible refine nxt_n ?_ | with_reducible refine nxt_e ?_ | with_reducible refine nxt_r ?_ | with_reducible refine inB_n ?_ | with_reducible refine inB_r ?_ | with_reducible refine inB_x ?_ | with_reducible refine inB_y (by decide) ?_ | with_reducible refine orQ_r ?_ | with_reducible refine orQ_x ?_ | with_reducible refine orQ_n ?_))
          rw [if_pos rfl] at hW
          obtain rfl := hxs3 rfl
          have hxt : (xs ++ [(k : Int) - 1]).take xs.length = xs := List.take_left' rfl
          obtain ⟨v4, hsls, hv4, hv4k⟩ := hv3.take (t := xs.length) (by rw [hx2]; omega)
          rw [hxt] at hv4
          have hone4 := hv4.one1
          ((repeat first | with_reducible refine EX.seq ?_ | with_reducible refine EX.blk ?_); refine EX.regx (by intro KK hkk; unfold f56_r14; simp only [SX, Nat.reduceEqDiff, ↓reduceIte, Nat.reduceSub, Nat.reduceAdd, Nat.reduceLT, Nat.reduceLeDiff, Nat.one_ne_zero, Nat.zero_ne_one, show decP [] = [] from rfl, I.quiet, List.not_mem_nil, false_implies, implies_true, -List.reduceReplicate, decide_true, decide_false, t0, t3, t4, hS3, hsls, hone4, hsl3, stAt_row hw.roi]; exact hkk) ?_; (repeat first | with_reducible refine nxt_n ?_ | with_reducible refine nxt_e ?_ | with_reducible refine nxt_r ?_ | with_reducible refine inB_n ?_ | with_reducible refine inB_r ?_ | with_reducible refine inB_x ?_ | with_reducible refine inB_y (by decide) ?_ | with_reducible refine orQ_r ?_ | with_reducible refine orQ_x ?_ | with_reducible refine orQ_n ?_))
          ((repeat first | with_reducible refine EX.seq ?_ | with_reducible refine EX.blk ?_); refine EX.regx (by intro KK hkk; unfold f56_r15; simp only [SX, Nat.reduceEqDiff, ↓reduceIte, Nat.reduceSub, Nat.reduceAdd, Nat.reduceLT, Nat.reduceLeDiff, Nat.one_ne_zero, Nat.zero_ne_one, show decP [] = [] from rfl, I.quiet, List.not_mem_nil, false_implies, implies_true, -List.reduceReplicate, decide_true, decide_false, t4, wk]; exact hkk) ?_; (repeat first | with_reducible refine nxt_n ?_ | with_reducible refine nxt_e ?_ | with_reducible refine nxt_r ?_ | with_reducible refine inB_n ?_ | with_reducible refine inB_r ?_ | with_reducible refine inB_x ?_ | with_reducible refine inB_y (by decide) ?_ | with_reducible refine orQ_r ?_ | with_reducible refine orQ_x ?_ | with_reducible refine orQ_n ?_))
          refine ⟨(k + 1, bs3.set s (some (.row 91 0 [L ps, L ex, L occ, .int .i64 bud, .int .i64 (st3.1 : Nat), v4, .int .i64 (st3.2.1 : Nat), .int .i64 st3.2.2.1, vb3])), st3), ⟨by show k + 1 ≤ _; omega, ⟨v4, vb3, List.getElem?_set_self hsl3, hv4.keep fun i b => set_keep hS3 (by decide), hb3.keep fun i b hi hv => ⟨set_keep hS3 (by decide) hi, fun B a b e => ?_⟩⟩, hf3, hu3 rfl, by rw [← hW]; congr 1; show len + 2 - (k + 1) = len + 1 - k; omega⟩, by show len + 2 - (k + 1) < len + 2 - k; omega, Less.wk ?_⟩
          · obtain ⟨a', b', e'⟩ := hv4k _ _ _ e
            exact hv _ _ _ e'
          · refine Less.upd (Less.upd (Less.upd Less.nil ?_) ?_) ?_ <;> simp [upd, t0, t3]
    · (refine EX.exit ?_; (repeat first | with_reducible refine nxt_n ?_ | with_reducible refine nxt_e ?_ | with_reducible refine nxt_r ?_ | with_reducible refine inB_n ?_ | with_reducible refine inB_r ?_ | with_reducible refine inB_x ?_ | with_reducible refine inB_y (by decide) ?_ | with_reducible refine orQ_r ?_ | with_reducible refine orQ_x ?_ | with_reducible refine orQ_n ?_))
      have hm : len + 2 - k = 0 := by omega
      rw [hm, walk] at hW
      ((repeat first | with_reducible refine EX.seq ?_ | with_reducible refine EX.blk ?_); refine EX.regx (by intro KK hkk; unfold f56_r16; simp only [SX, Nat.reduceEqDiff, ↓reduceIte, Nat.reduceSub, Nat.reduceAdd, Nat.reduceLT, Nat.reduceLeDiff, Nat.one_ne_zero, Nat.zero_ne_one, show decP [] = [] from rfl, I.quiet, List.not_mem_nil, false_implies, implies_true, -List.reduceReplicate, decide_true, decide_false]; exact hkk) ?_; (repeat first | with_reducible refine nxt_n ?_ | with_reducible refine nxt_e ?_ | with_reducible refine nxt_r ?_ | with_reducible refine inB_n ?_ | with_reducible refine inB_r ?_ | with_reducible refine inB_x ?_ | with_reducible refine inB_y (by decide) ?_ | with_reducible refine orQ_r ?_ | with_reducible refine orQ_x ?_ | with_reducible refine orQ_n ?_))
      ((repeat first | with_reducible refine EX.seq ?_ | with_reducible refine EX.blk ?_); refine EX.ret ?_; (repeat first | with_reducible refine nxt_n ?_ | with_reducible refine nxt_e ?_ | with_reducible refine nxt_r ?_ | with_reducible refine inB_n ?_ | with_reducible refine inB_r ?_ | with_reducible refine inB_x ?_ | with_reducible refine inB_y (by decide) ?_ | with_reducible refine orQ_r ?_ | with_reducible refine orQ_x ?_ | with_reducible refine orQ_n ?_); refine ⟨_, rfl, ?_⟩; simp only [packV, upd, Nat.reduceEqDiff, reduceIte, if_true, if_false, Nat.one_ne_zero, Nat.zero_ne_one])
      cases hW
      exact ⟨bs, true, _, rfl, rfl, rfl, ⟨xs, fun _ => rfl, v, vb, hS, hv, hb⟩, hf, fun _ => hu⟩
end
end Go.Proofs.Ythofdojknjhpgaa
