/- Own texts, merged: a part of the proof that is told in the last text of this claim. -/
import Derived.Test.YthofdojknjhpgaaLawPUB
import Derived.Test.YthofdojknjhpgaaLawPUM
set_option linter.unnecessarySimpa false
set_option linter.unusedSectionVars false
set_option linter.defProp false
set_option linter.unusedVariables false
set_option linter.unusedSimpArgs false
namespace Go.Proofs.Ythofdojknjhpgaa
open Go
section
variable {h : AH}
/-- 'uses'. -/
theorem f107_ok {g : Stg} {r : Int} : AC Go.Proofs.Try.prog 107 [stgV g, .int .i64 r] h (.tuple #[.bool (decide (g.sec = r) || decide (r ∈ g.pts)), .bool (decide (g.sec = r))]) h := by
  have hcl : Cl (.tuple #[.bool (decide (g.sec = r) || decide (r ∈ g.pts)), .bool (decide (g.sec = r))]) := Cl.tuple (vs := [_, _]) (by
    intro v hv
    simp only [List.mem_cons, List.not_mem_nil, or_false] at hv
    rcases hv with rfl | rfl <;> exact Cl.bool)
  refine AC.wf fun hw => AC.of_app hw hcl ?_
  refine EC.intro f107_is ?_
  unfold f107_c stgV
  (refine EX.rg (by intro KK hkk; unfold f107_r0; simp only [SX, Nat.reduceEqDiff, ↓reduceIte, Nat.reduceSub, Nat.reduceAdd, Nat.reduceLT, Nat.reduceLeDiff, I.quiet, false_implies, implies_true, -List.reduceReplicate, new_app hw]; exact hkk) ?_)
  cases c1 : decide (g.sec = r) with
  | true =>
    (refine EX.dg (by intro KK hkk; unfold f107_r1; simp only [SX, Nat.reduceEqDiff, ↓reduceIte, Nat.reduceSub, Nat.reduceAdd, Nat.reduceLT, Nat.reduceLeDiff, I.quiet, false_implies, implies_true, -List.reduceReplicate, c1, RD_bk1, true_and, and_true]; exact hkk) ?_)
    ((with_reducible repeat first|apply EX.seq|apply EX.blk); refine EX.ret ?_; (with_reducible repeat first|apply nA|apply nB|apply nC|apply nD|apply nE|apply nF|apply nG (by decide)|apply nH|apply nI|apply nJ); refine ⟨_, rfl, ?_⟩; simp only [packV, upd, Nat.reduceEqDiff, reduceIte, if_true, if_false, Nat.one_ne_zero, Nat.zero_ne_one])
    exact ⟨rfl, _, rfl⟩
  | false =>
    refine EX.dg (by intro KK hkk; unfold f107_r1; simp only [SX, Nat.reduceEqDiff, ↓reduceIte, Nat.reduceSub, Nat.reduceAdd, Nat.reduceLT, Nat.reduceLeDiff, I.quiet, false_implies, implies_true, -List.reduceReplicate, c1]; refine RD_callvS (f95_ok) ?_; simp only [SX, Nat.reduceEqDiff, ↓reduceIte, Nat.reduceSub, Nat.reduceAdd, Nat.reduceLT, Nat.reduceLeDiff, I.quiet, false_implies, implies_true, -List.reduceReplicate, c1, RD_bk1, true_and, and_true]; exact hkk) ?_
    ((with_reducible repeat first|apply EX.seq|apply EX.blk); refine EX.ret ?_; (with_reducible repeat first|apply nA|apply nB|apply nC|apply nD|apply nE|apply nF|apply nG (by decide)|apply nH|apply nI|apply nJ); refine ⟨_, rfl, ?_⟩; simp only [packV, upd, Nat.reduceEqDiff, reduceIte, if_true, if_false, Nat.one_ne_zero, Nat.zero_ne_one])
    exact ⟨rfl, _, rfl⟩
/-- 'end'. -/
theorem f85_ok {ps : List (List Stg)} {r : Int} {t k : Nat} (ht : t < ps.length) (hk : k < ps[t].length) : AC Go.Proofs.Try.prog 85 [L ps, .int .i64 r, rvA ((t : Int), (k : Int))] h (.int .i64 (if ps[t][k].sec = r then (k : Int) + 1 else (k : Int))) h := by
  refine AC.bd 0 rfl fun bp => ?_
  have hbk : ps[t].length < 4611686018427387904 := by
    have := (bp.2 _ (List.getElem_mem ht)).1
    exact this
  refine AC.wf fun hw => AC.of_app hw Cl.int ?_
  refine EC.intro f85_is ?_
  unfold f85_c rvA
  have hcl4 : lds1 4 (ef ps[t] k 0) (h.app [some (.row 48 0 [.int .i64 (t : Nat), .int .i64 (k : Nat)])]) = some (stgV ps[t][k], h.app [some (.row 48 0 [.int .i64 (t : Nat), .int .i64 (k : Nat)])]) := by
    rw [lds1_ef hk (show 0 + 4 ≤ Enc.w Stg from Nat.le_refl 4), rd_eq hk]; rfl
  (refine EX.rg (by intro KK hkk; unfold f85_r0; simp only [SX, Nat.reduceEqDiff, ↓reduceIte, Nat.reduceSub, Nat.reduceAdd, Nat.reduceLT, Nat.reduceLeDiff, I.quiet, false_implies, implies_true, -List.reduceReplicate, new_app hw]; exact hkk) ?_)
  refine EX.dg (by intro KK hkk; unfold f85_r1; simp only [SX, Nat.reduceEqDiff, ↓reduceIte, Nat.reduceSub, Nat.reduceAdd, Nat.reduceLT, Nat.reduceLeDiff, I.quiet, false_implies, implies_true, -List.reduceReplicate, ht, ld1_ef ht o1l, rd_eq ht, w4s, hk, hcl4]; refine RD_callvS (f107_ok) ?_; simp only [SX, Nat.reduceEqDiff, ↓reduceIte, Nat.reduceSub, Nat.reduceAdd, Nat.reduceLT, Nat.reduceLeDiff, I.quiet, false_implies, implies_true, -List.reduceReplicate]; exact hkk) ?_
  (refine EX.rg (by intro KK hkk; unfold f85_r2; simp only [SX, Nat.reduceEqDiff, ↓reduceIte, Nat.reduceSub, Nat.reduceAdd, Nat.reduceLT, Nat.reduceLeDiff, I.quiet, false_implies, implies_true, -List.reduceReplicate]; exact hkk) ?_)
  refine EX.dec rfl (fun hd => ?_) (fun hd => ?_)
  · (refine EX.rg (by intro KK hkk; unfold f85_r3; simp only [SX, Nat.reduceEqDiff, ↓reduceIte, Nat.reduceSub, Nat.reduceAdd, Nat.reduceLT, Nat.reduceLeDiff, I.quiet, false_implies, implies_true, -List.reduceReplicate, show IntKind.wrap .i64 ((k : Int) + 1) = (k : Int) + 1 from wrap_id (by omega) (by omega)]; exact hkk) ?_)
    ((with_reducible repeat first|apply EX.seq|apply EX.blk); refine EX.ret ?_; (with_reducible repeat first|apply nA|apply nB|apply nC|apply nD|apply nE|apply nF|apply nG (by decide)|apply nH|apply nI|apply nJ); refine ⟨_, rfl, ?_⟩; simp only [packV, upd, Nat.reduceEqDiff, reduceIte, if_true, if_false, Nat.one_ne_zero, Nat.zero_ne_one])
    rw [if_pos hd]; exact ⟨rfl, _, rfl⟩
  · (refine EX.skip ?_; (with_reducible repeat first|apply nA|apply nB|apply nC|apply nD|apply nE|apply nF|apply nG (by decide)|apply nH|apply nI|apply nJ))
    (refine EX.rg (by intro KK hkk; unfold f85_r4; simp only [SX, Nat.reduceEqDiff, ↓reduceIte, Nat.reduceSub, Nat.reduceAdd, Nat.reduceLT, Nat.reduceLeDiff, I.quiet, false_implies, implies_true, -List.reduceReplicate]; exact hkk) ?_)
    ((with_reducible repeat first|apply EX.seq|apply EX.blk); refine EX.ret ?_; (with_reducible repeat first|apply nA|apply nB|apply nC|apply nD|apply nE|apply nF|apply nG (by decide)|apply nH|apply nI|apply nJ); refine ⟨_, rfl, ?_⟩; simp only [packV, upd, Nat.reduceEqDiff, reduceIte, if_true, if_false, Nat.one_ne_zero, Nat.zero_ne_one])
    rw [if_neg hd]; exact ⟨rfl, _, rfl⟩
end
end Go.Proofs.Ythofdojknjhpgaa
set_option linter.unusedVariables false
set_option linter.unusedSimpArgs false
namespace Go.Proofs.Ythofdojknjhpgaa
open Go
def putK (K : List (Int × Value)) (x : Int) (v : Value) : List (Int × Value) := match K.findIdx? (fun p => decide (p.1 = x)) with | none => K ++ [(x, v)] | some i => K.set i (x, v)
section
variable {h : AH}
theorem mE_set {K : List (Int × Value)} {i : Nat} {x : Int} {v : Value} : (mE K).set i (.int .i64 x, v) = mE (K.set i (x, v)) := by
  simp [mE, List.map_set]
theorem mup1_mE {B : Nat} {K : List (Int × Value)} {x : Int} {v : Value} (hB : h.get B = some (.map (mE K))) (hr : h.ro ≤ B) (hv : one v = true) : mup1 2 (.map (some B)) (.int .i64 x) v h = some (.tuple #[], h.put B (some (.map (mE (putK K x v))))) := by
  simp only [mup1, AH.map?, hB, hr, hv, and_self, if_true, veq_int, decide_true, mfind_mE, putK]
  cases hf : K.findIdx? (fun p => decide (p.1 = x)) with
  | none => simp [mE]
  | some i =>
    have hi : i < K.length := (List.findIdx?_eq_some_iff_getElem.1 hf).1
    simp only [List.getElem?_eq_getElem hi, mE_set]
theorem mem_putK {K : List (Int × Value)} {x : Int} {v : Value} {p : Int × Value} (hp : p ∈ putK K x v) : p ∈ K ∨ p = (x, v) := by
  unfold putK at hp
  split at hp
  · rcases List.mem_append.1 hp with h | h
    · exact .inl h
    · exact .inr (List.mem_singleton.1 h)
  · exact List.mem_or_eq_of_mem_set hp
theorem lkV_mE {B : Nat} {K : List (Int × Value)} {x : Int} {z : Value} (hB : h.get B = some (.map (mE K))) : lkV h 2 z true (.map (some B)) (.int .i64 x) = some (.tuple #[z, .bool false]) ∨ ∃ p ∈ K, p.1 = x ∧ lkV h 2 z true (.map (some B)) (.int .i64 x) = some (.tuple #[p.2, .bool true]) := by
  simp only [lkV, AH.map?, hB, veq_int, decide_true, mfind_mE]
  cases hf : K.findIdx? (fun p => decide (p.1 = x)) with
  | none => exact .inl rfl
  | some i =>
    obtain ⟨hi, h1, _⟩ := List.findIdx?_eq_some_iff_getElem.1 hf
    refine .inr ⟨K[i], List.getElem_mem hi, of_decide_eq_true h1, ?_⟩
    simp only [List.getElem?_eq_getElem hi]
    rfl
/-- Orders that Check lets by, beside the full ones. -/
structure OrdOk (o f : Ordr) : Prop where
  res : o.res = f.res
  ne : o.uses ≠ []
  len : o.uses.length ≤ 12
  perm : o.uses.Perm f.uses
  srt : SortedR f.uses
  asc : ∀ p q, p < q → q < o.uses.length → (rd o.uses p).1 = (rd o.uses q).1 → (rd o.uses p).2 < (rd o.uses q).2
theorem perm_sorted {xs ys : List (Int × Int)} (hp : xs.Perm ys) (hx : SortedR xs) (hy : SortedR ys) : xs = ys := by
  have conv : ∀ l : List (Int × Int), SortedR l → l.Pairwise rle := fun l hl => List.pairwise_iff_getElem.2 fun i j hi hj hij => by
    have := hl i j hij hj
    rwa [rd_eq hi, rd_eq hj] at this
  exact List.Perm.eq_of_pairwise (fun a b _ _ h1 h2 => rle_antisymm h1 h2) (conv _ hx) (conv _ hy) hp
end
end Go.Proofs.Ythofdojknjhpgaa
set_option linter.unusedVariables false
set_option linter.unusedSimpArgs false
namespace Go.Proofs.Ythofdojknjhpgaa
open Go
theorem wordr : Enc.w Ordr = 2 := rfl
theorem cells_ordr {o : Ordr} : Enc.cells o = [.int .i64 o.res, L o.uses] := nr rfl
section
variable {h : AH}
/-- 'Check' of valid orders. -/
theorem f29_ok {ps : List (List Stg)} {os full : List Ordr} (hval : validB ps = true) (hp : PathsA ps) (hfull : allTo (lsA ps ps.length) 144 = full) (hlen : os.length = full.length) (hok : ∀ (i : Nat) (h1 : i < os.length) (h2 : i < full.length), OrdOk os[i] full[i]) : AC Go.Proofs.Try.prog 29 [L ps, L os] h (.bool true) h := by
  refine AC.bd 1 rfl fun bo => ?_
  have lo := bo.1
  refine AC.wf fun hw => AC.of_app hw Cl.bool ?_
  refine EC.intro f29_is ?_
  unfold f29_c
  have c61 := f61_ok (h := h) hp
  rw [hfull] at c61
  (refine EX.rg (by intro KK hkk; unfold f29_r0; simp only [SX, Nat.reduceEqDiff, ↓reduceIte, Nat.reduceSub, Nat.reduceAdd, Nat.reduceLT, Nat.reduceLeDiff, I.quiet, false_implies, implies_true, -List.reduceReplicate]; exact hkk) ?_)
  (refine EX.rg (by intro KK hkk; unfold f29_r1; simp only [SX, Nat.reduceEqDiff, ↓reduceIte, Nat.reduceSub, Nat.reduceAdd, Nat.reduceLT, Nat.reduceLeDiff, I.quiet, false_implies, implies_true, -List.reduceReplicate, hval]; refine RO_callvS (f26_ok) ?_; simp only [SX, Nat.reduceEqDiff, ↓reduceIte, Nat.reduceSub, Nat.reduceAdd, Nat.reduceLT, Nat.reduceLeDiff, I.quiet, false_implies, implies_true, -List.reduceReplicate, hval]; exact hkk) ?_)
  refine EX.condF rfl ?_
  (refine EX.skip ?_; (with_reducible repeat first|apply nA|apply nB|apply nC|apply nD|apply nE|apply nF|apply nG (by decide)|apply nH|apply nI|apply nJ))
  (refine EX.rg (by intro KK hkk; unfold f29_r3; simp only [SX, Nat.reduceEqDiff, ↓reduceIte, Nat.reduceSub, Nat.reduceAdd, Nat.reduceLT, Nat.reduceLeDiff, I.quiet, false_implies, implies_true, -List.reduceReplicate]; refine RO_callvS (c61) ?_; simp only [SX, Nat.reduceEqDiff, ↓reduceIte, Nat.reduceSub, Nat.reduceAdd, Nat.reduceLT, Nat.reduceLeDiff, I.quiet, false_implies, implies_true, -List.reduceReplicate]; exact hkk) ?_)
  (refine EX.rg (by intro KK hkk; unfold f29_r4; simp only [SX, Nat.reduceEqDiff, ↓reduceIte, Nat.reduceSub, Nat.reduceAdd, Nat.reduceLT, Nat.reduceLeDiff, I.quiet, false_implies, implies_true, -List.reduceReplicate, show decide ((os.length : Int) ≠ (full.length : Int)) = false from decide_eq_false (by omega)]; exact hkk) ?_)
  refine EX.condF rfl ?_
  (refine EX.skip ?_; (with_reducible repeat first|apply nA|apply nB|apply nC|apply nD|apply nE|apply nF|apply nG (by decide)|apply nH|apply nI|apply nJ))
  (refine EX.rg (by intro KK hkk; unfold f29_r6; simp only [SX, Nat.reduceEqDiff, ↓reduceIte, Nat.reduceSub, Nat.reduceAdd, Nat.reduceLT, Nat.reduceLeDiff, I.quiet, false_implies, implies_true, -List.reduceReplicate]; exact hkk) ?_)
  (with_reducible repeat first|apply EX.seq|apply EX.blk)
  refine EX.loop (σ := Nat) (fun i => upd (upd (upd (upd TE 5 (L full)) 24 (L os)) 25 (.int .i64 os.length)) 26 (.int .i64 (i : Nat))) (fun _ => h) (fun i => i ≤ os.length) (fun i => os.length - i) 0 (Nat.zero_le _) (Less.wk (by (repeat refine Less.upd ?_ (by rfl)); exact Less.nil)) ?_
  intro i hi
  (refine EX.rg (by intro KK hkk; unfold f29_r7; simp only [SX, Nat.reduceEqDiff, ↓reduceIte, Nat.reduceSub, Nat.reduceAdd, Nat.reduceLT, Nat.reduceLeDiff, I.quiet, false_implies, implies_true, -List.reduceReplicate, lt_nat]; exact hkk) ?_)
  (with_reducible repeat first|apply EX.seq|apply EX.blk)
  refine EX.dec rfl (fun hlt => ?_) (fun hlt => ?_)
  · (refine EX.skip ?_; (with_reducible repeat first|apply nA|apply nB|apply nC|apply nD|apply nE|apply nF|apply nG (by decide)|apply nH|apply nI|apply nJ))
    have hlf : i < full.length := by omega
    have ok := hok i hlt hlf
    have hef : lds1 2 (ef os i 0) h = some (.agg #[.int .i64 os[i].res, L os[i].uses], h) := by
      rw [lds1_ef hlt (Nat.le_refl 2), rd_eq hlt]; rfl
    (refine EX.rg (by intro KK hkk; unfold f29_r8; simp only [SX, Nat.reduceEqDiff, ↓reduceIte, Nat.reduceSub, Nat.reduceAdd, Nat.reduceLT, Nat.reduceLeDiff, I.quiet, false_implies, implies_true, -List.reduceReplicate, hlt, wordr, hef, new_app hw, hw.roi, stAt_all, Nat.le_refl, hw.ro0]; exact hkk) ?_)
    generalize hoi : os[i] = o at *
    generalize hfi : full[i] = f at *
    have c63 := f63_ok (h := h.app [some (.row 45 0 [.int .i64 o.res, L o.uses])]) (xs := o.uses)
    simp only [app_new, app_next, List.length_cons, List.length_nil, List.cons_append, List.nil_append, Nat.zero_add] at c63
    obtain ⟨_, _, c62, zs, rfl, rfl, hperm, hsrt⟩ := f62_ok (h := h.app [some (.row 45 0 [.int .i64 o.res, L o.uses]), some (.row 43 0 [L o.uses])]) (B := h.next + 1) (xs := o.uses) (t := 43) (by have := hw.ro; show h.ro ≤ h.next + 2; omega) (by rw [app_get]; rfl) hw.roi ok.len ok.ne
    obtain rfl : zs = f.uses := perm_sorted (hperm.trans ok.perm) hsrt ok.srt
    simp only [app_new, app_next, List.length_cons, List.length_nil, List.cons_append, List.nil_append, Nat.zero_add, Nat.reduceAdd] at c62
    refine EX.rg (by intro KK hkk; unfold f29_r9; simp only [SX, Nat.reduceEqDiff, ↓reduceIte, Nat.reduceSub, Nat.reduceAdd, Nat.reduceLT, Nat.reduceLeDiff, I.quiet, false_implies, implies_true, -List.reduceReplicate]; refine RO_callE (c63) ?_; refine RO_callE (c62) ?_; simp only [SX, Nat.reduceEqDiff, ↓reduceIte, Nat.reduceSub, Nat.reduceAdd, Nat.reduceLT, Nat.reduceLeDiff, I.quiet, false_implies, implies_true, -List.reduceReplicate]; exact hkk) ?_
    have e0 : vbin .neq 0 [] (.int .i64 o.res) (.int .i64 f.res) = some (.bool false) := by rw [ok.res]; simp [vbin, ibin]
    have hlf2 : f.uses.length = o.uses.length := ok.perm.length_eq.symm
    have c65 := f65_ok (h := h.app [some (.row 45 0 [.int .i64 o.res, L o.uses]), some (.row 43 0 [L o.uses]), some (.row 48 2 (F f.uses))]) (B := h.next + 2) (xs := f.uses) (ys := f.uses) (n := o.uses.length) (by rw [app_get]; rfl) hlf2 (by have := ok.len; omega) (by have := ok.len; omega)
    rw [decide_eq_true rfl] at c65
    refine EX.dg (by intro KK hkk; unfold f29_r10; simp only [SX, Nat.reduceEqDiff, ↓reduceIte, Nat.reduceSub, Nat.reduceAdd, Nat.reduceLT, Nat.reduceLeDiff, I.quiet, false_implies, implies_true, -List.reduceReplicate, hlf, wordr, ld1_ef hlf (show 0 < Enc.w Ordr from Nat.succ_pos 1), ld1_ef hlf (show 1 < Enc.w Ordr from Nat.lt_succ_self 1), rd_eq hlf, hfi, cells_ordr, show decide (o.res ≠ f.res) = false from decide_eq_false (fun e => e ok.res)]; refine RD_callvS (c65) ?_; simp only [SX, Nat.reduceEqDiff, ↓reduceIte, Nat.reduceSub, Nat.reduceAdd, Nat.reduceLT, Nat.reduceLeDiff, I.quiet, false_implies, implies_true, -List.reduceReplicate]; exact hkk) ?_
    (with_reducible repeat first|apply EX.seq|apply EX.blk)
    refine EX.condF rfl ?_
    (refine EX.skip ?_; (with_reducible repeat first|apply nA|apply nB|apply nC|apply nD|apply nE|apply nF|apply nG (by decide)|apply nH|apply nI|apply nJ))
    (refine EX.rg (by intro KK hkk; unfold f29_r12; simp only [SX, Nat.reduceEqDiff, ↓reduceIte, Nat.reduceSub, Nat.reduceAdd, Nat.reduceLT, Nat.reduceLeDiff, I.quiet, false_implies, implies_true, -List.reduceReplicate]; exact hkk) ?_)
    (refine EX.rg (by intro KK hkk; unfold f29_r13; simp only [SX, Nat.reduceEqDiff, ↓reduceIte, Nat.reduceSub, Nat.reduceAdd, Nat.reduceLT, Nat.reduceLeDiff, I.quiet, false_implies, implies_true, -List.reduceReplicate]; exact hkk) ?_)
    have hol := ok.len
    refine EX.cutR (F := fun T1 H1 => T1 5 = L full ∧ T1 24 = L os ∧ T1 25 = .int .i64 os.length ∧ T1 26 = .int .i64 (i : Nat) ∧ ∃ bs, H1 = h.app bs) ?_ ?_
    · (with_reducible repeat first|apply EX.seq|apply EX.blk)
      refine EX.loop (σ := Nat × List (Option Blk) × List (Int × Value)) (fun s => upd (upd (upd (upd (upd (upd (upd (upd TE 5 (L full)) 9 (.map (some (h.next + 3)))) 24 (L os)) 25 (.int .i64 os.length)) 26 (.int .i64 (i : Nat))) 55 (L o.uses)) 56 (.int .i64 o.uses.length)) 57 (.int .i64 (s.1 : Nat))) (fun s => h.app s.2.1)
        (fun s => s.1 ≤ o.uses.length ∧ s.2.1[3]? = some (some (.map (mE s.2.2))) ∧ ∀ p ∈ s.2.2, ∃ q, q < s.1 ∧ (rd o.uses q).1 = p.1 ∧ p.2 = .int .i64 (rd o.uses q).2) (fun s => o.uses.length - s.1) (0, [some (.row 45 0 [.int .i64 o.res, L o.uses]), some (.row 43 0 [L o.uses]), some (.row 48 2 (F f.uses)), some (.map [])], []) ⟨Nat.zero_le _, rfl, by simp⟩ (Less.wk (by (repeat refine Less.upd ?_ (by rfl)); exact Less.nil)) ?_
      rintro ⟨j, bs, K⟩ ⟨hj, hM, hK⟩
      simp only at hj hM hK
      (refine EX.rg (by intro KK hkk; unfold f29_r14; simp only [SX, Nat.reduceEqDiff, ↓reduceIte, Nat.reduceSub, Nat.reduceAdd, Nat.reduceLT, Nat.reduceLeDiff, I.quiet, false_implies, implies_true, -List.reduceReplicate, lt_nat]; exact hkk) ?_)
      (with_reducible repeat first|apply EX.seq|apply EX.blk)
      refine EX.dec rfl (fun hlj => ?_) (fun hlj => ?_)
      · (refine EX.skip ?_; (with_reducible repeat first|apply nA|apply nB|apply nC|apply nD|apply nE|apply nF|apply nG (by decide)|apply nH|apply nI|apply nJ))
        have hml := getElem?_lt hM
        have he2 : ∀ H : AH, lds1 2 (ef o.uses j 0) H = some (.agg #[.int .i64 (rd o.uses j).1, .int .i64 (rd o.uses j).2], H) := fun H => by rw [lds1_ef hlj (Nat.le_refl 2)]; rfl
        (refine EX.rg (by intro KK hkk; unfold f29_r15; simp only [SX, Nat.reduceEqDiff, ↓reduceIte, Nat.reduceSub, Nat.reduceAdd, Nat.reduceLT, Nat.reduceLeDiff, I.quiet, false_implies, implies_true, -List.reduceReplicate, hlj, wref, he2, hw.roi, stAt_all, get_last, set_last, lt_last]; exact hkk) ?_)
        generalize hu : rd o.uses j = u at *
        have hM2 : (bs ++ [some (Blk.row 48 0 [.int .i64 u.1, .int .i64 u.2])])[3]? = some (some (.map (mE K))) := (List.getElem?_append_left hml).trans hM
        have hb : (bs ++ [some (Blk.row 48 0 [.int .i64 u.1, .int .i64 u.2])])[bs.length]? = some (some (Blk.row 48 0 [.int .i64 u.1, .int .i64 u.2])) := get_last
        have hml2 := getElem?_lt hM2
        have hMg : (h.app (bs ++ [some (Blk.row 48 0 [.int .i64 u.1, .int .i64 u.2])])).get (h.next + 3) = some (.map (mE K)) := by rw [app_get, hM2]; rfl
        refine EX.cut (F := fun T2 H2 => T2 5 = L full ∧ T2 9 = .map (some (h.next + 3)) ∧ T2 11 = .pointer (some ⟨h.next + bs.length, 0, none⟩) ∧ T2 24 = L os ∧ T2 25 = .int .i64 os.length ∧ T2 26 = .int .i64 (i : Nat) ∧ T2 55 = L o.uses ∧ T2 56 = .int .i64 o.uses.length ∧ T2 57 = .int .i64 (j : Nat) ∧ H2 = h.app ((bs ++ [some (Blk.row 48 0 [.int .i64 u.1, .int .i64 u.2])]).set 3 (some (.map (mE (putK K u.1 (.int .i64 u.2))))))) ?_ ?_
        · have hmu := mup1_mE (v := .int .i64 u.2) (x := u.1) hMg hw.roi rfl
          rcases lkV_mE (x := u.1) (z := .int .i64 0) hMg with hl | ⟨p, hpK, hpx, hl⟩
          · (refine EX.rg (by intro KK hkk; unfold f29_r16; simp only [SX, Nat.reduceEqDiff, ↓reduceIte, Nat.reduceSub, Nat.reduceAdd, Nat.reduceLT, Nat.reduceLeDiff, I.quiet, false_implies, implies_true, -List.reduceReplicate, hb, run_lk, hl]; exact hkk) ?_)
            (refine EX.rg (by intro KK hkk; unfold f29_r17; simp only [SX, Nat.reduceEqDiff, ↓reduceIte, Nat.reduceSub, Nat.reduceAdd, Nat.reduceLT, Nat.reduceLeDiff, I.quiet, false_implies, implies_true, -List.reduceReplicate]; exact hkk) ?_)
            (with_reducible repeat first|apply EX.seq|apply EX.blk)
            refine EX.condF rfl ?_
            (refine EX.skip ?_; (with_reducible repeat first|apply nA|apply nB|apply nC|apply nD|apply nE|apply nF|apply nG (by decide)|apply nH|apply nI|apply nJ))
            refine EX.rg (by intro KK hkk; unfold f29_r19; simp only [SX, Nat.reduceEqDiff, ↓reduceIte, Nat.reduceSub, Nat.reduceAdd, Nat.reduceLT, Nat.reduceLeDiff, I.quiet, false_implies, implies_true, -List.reduceReplicate, hb, run_mup, hmu, hml2]; exact hkk) ?_
            exact ⟨rfl, rfl, rfl, rfl, rfl, rfl, rfl, rfl, rfl, rfl, rfl⟩
          · obtain ⟨q, hq1, hq2, hq3⟩ := hK p hpK
            have hasc := ok.asc q j hq1 hlj (by rw [hq2, hpx, hu])
            rw [hu] at hasc
            rw [hq3] at hl
            (refine EX.rg (by intro KK hkk; unfold f29_r16; simp only [SX, Nat.reduceEqDiff, ↓reduceIte, Nat.reduceSub, Nat.reduceAdd, Nat.reduceLT, Nat.reduceLeDiff, I.quiet, false_implies, implies_true, -List.reduceReplicate, hb, run_lk, hl]; exact hkk) ?_)
            (refine EX.rg (by intro KK hkk; unfold f29_r17; simp only [SX, Nat.reduceEqDiff, ↓reduceIte, Nat.reduceSub, Nat.reduceAdd, Nat.reduceLT, Nat.reduceLeDiff, I.quiet, false_implies, implies_true, -List.reduceReplicate, hb, show decide (u.2 ≤ (rd o.uses q).2) = false from decide_eq_false (by omega)]; exact hkk) ?_)
            (with_reducible repeat first|apply EX.seq|apply EX.blk)
            refine EX.condF rfl ?_
            (refine EX.skip ?_; (with_reducible repeat first|apply nA|apply nB|apply nC|apply nD|apply nE|apply nF|apply nG (by decide)|apply nH|apply nI|apply nJ))
            refine EX.rg (by intro KK hkk; unfold f29_r19; simp only [SX, Nat.reduceEqDiff, ↓reduceIte, Nat.reduceSub, Nat.reduceAdd, Nat.reduceLT, Nat.reduceLeDiff, I.quiet, false_implies, implies_true, -List.reduceReplicate, hb, run_mup, hmu, hml2]; exact hkk) ?_
            exact ⟨rfl, rfl, rfl, rfl, rfl, rfl, rfl, rfl, rfl, rfl, rfl⟩
        · rintro T2 H2 ⟨u5, u9, u11, u24, u25, u26, u55, u56, u57, rfl⟩
          (with_reducible repeat first|apply nA|apply nB|apply nC|apply nD|apply nE|apply nF|apply nG (by decide)|apply nH|apply nI|apply nJ)
          (refine EX.rg (by intro KK hkk; unfold f29_r20; simp only [SX, Nat.reduceEqDiff, ↓reduceIte, Nat.reduceSub, Nat.reduceAdd, Nat.reduceLT, Nat.reduceLeDiff, I.quiet, false_implies, implies_true, -List.reduceReplicate, u57, wrap_nat (show j < 4611686018427387904 by omega)]; exact hkk) ?_)
          refine ⟨(j + 1, (bs ++ [some (Blk.row 48 0 [.int .i64 u.1, .int .i64 u.2])]).set 3 (some (.map (mE (putK K u.1 (.int .i64 u.2))))), putK K u.1 (.int .i64 u.2)), ⟨by show j + 1 ≤ _; omega, List.getElem?_set_self hml2, fun p hp => ?_⟩, by show _ - (j + 1) < _ - j; omega, Less.wk ?_⟩
          · rcases mem_putK hp with hp | rfl
            · obtain ⟨q, h1, h2, h3⟩ := hK p hp
              exact ⟨q, by show q < j + 1; omega, h2, h3⟩
            · exact ⟨j, Nat.lt_succ_self j, by rw [hu], by rw [hu]⟩
          · refine Less.upd (Less.upd (Less.upd (Less.upd (Less.upd (Less.upd (Less.upd (Less.upd Less.nil ?_) ?_) ?_) ?_) ?_) ?_) ?_) ?_ <;> simp [upd, u5, u9, u24, u25, u26, u55, u56]
      · (refine EX.exit ?_; (with_reducible repeat first|apply nA|apply nB|apply nC|apply nD|apply nE|apply nF|apply nG (by decide)|apply nH|apply nI|apply nJ))
        exact ⟨rfl, rfl, rfl, rfl, bs, rfl⟩
    · rintro T1 H1 ⟨t5, t24, t25, t26, bs, rfl⟩
      (with_reducible repeat first|apply nA|apply nB|apply nC|apply nD|apply nE|apply nF|apply nG (by decide)|apply nH|apply nI|apply nJ)
      (refine EX.rg (by intro KK hkk; unfold f29_r21; simp only [SX, Nat.reduceEqDiff, ↓reduceIte, Nat.reduceSub, Nat.reduceAdd, Nat.reduceLT, Nat.reduceLeDiff, I.quiet, false_implies, implies_true, -List.reduceReplicate, t26, wrap_nat (show i < 4611686018427387904 by omega)]; exact hkk) ?_)
      refine ⟨i + 1, by omega, by omega, Wk.app0 hw (RVs.updc (RVs.updc (RVs.updc (RVs.updc RVs.nil L_cl ?_) L_cl ?_) Cl.int ?_) Cl.int ?_)⟩ <;> simp [upd, t5, t24, t25]
  · (refine EX.exit ?_; (with_reducible repeat first|apply nA|apply nB|apply nC|apply nD|apply nE|apply nF|apply nG (by decide)|apply nH|apply nI|apply nJ))
    (refine EX.rg (by intro KK hkk; unfold f29_r22; simp only [SX, Nat.reduceEqDiff, ↓reduceIte, Nat.reduceSub, Nat.reduceAdd, Nat.reduceLT, Nat.reduceLeDiff, I.quiet, false_implies, implies_true, -List.reduceReplicate]; exact hkk) ?_)
    ((with_reducible repeat first|apply EX.seq|apply EX.blk); refine EX.ret ?_; (with_reducible repeat first|apply nA|apply nB|apply nC|apply nD|apply nE|apply nF|apply nG (by decide)|apply nH|apply nI|apply nJ); refine ⟨_, rfl, ?_⟩; simp only [packV, upd, Nat.reduceEqDiff, reduceIte, if_true, if_false, Nat.one_ne_zero, Nat.zero_ne_one])
    exact ⟨trivial, [], (app_nil hw).symm⟩
end
end Go.Proofs.Ythofdojknjhpgaa
set_option linter.unusedVariables false
set_option linter.unusedSimpArgs false
namespace Go.Proofs.Ythofdojknjhpgaa
open Go
theorem pathsA_of {ps : List (List Stg)} (h : validB ps = true) : PathsA ps := by
  simp only [validB, Bool.and_eq_true, decide_eq_true_eq, List.all_eq_true] at h
  obtain ⟨⟨h1, h2⟩, _⟩ := h
  refine ⟨h1, fun p hp => ?_⟩
  have := h2 p hp
  simp only [pathB, Bool.and_eq_true, decide_eq_true_eq, List.all_eq_true, List.mem_range] at this
  obtain ⟨⟨_, h3⟩, h4⟩ := this
  refine ⟨h3, fun g hg => ?_⟩
  obtain ⟨k, hk, rfl⟩ := List.getElem_of_mem hg
  have := h4 k hk
  simp only [stOk, List.getElem?_eq_getElem hk, Bool.and_eq_true] at this
  have hs := this.1
  simp only [stageB, Bool.and_eq_true, decide_eq_true_eq, List.all_eq_true, resB] at hs
  obtain ⟨⟨⟨⟨⟨a1, _⟩, a2⟩, a3⟩, _⟩, _⟩ := hs
  refine ⟨⟨by omega, by omega⟩, a3, fun x hx => ?_⟩
  have := (a1 x hx).1
  omega
def ex2Ps : List (List Stg) := [[⟨1, [], 0, 0⟩, ⟨2, [], 0, 0⟩], [⟨2, [], 0, 0⟩, ⟨1, [], 0, 0⟩]]
def ex2O : List Ordr := [⟨1, [(1, 1), (0, 0)]⟩, ⟨2, [(1, 0), (0, 1)]⟩]
def ex2F : List Ordr := [⟨1, [(0, 0), (1, 1)]⟩, ⟨2, [(0, 1), (1, 0)]⟩]
theorem ex2_valid : validB ex2Ps = true := by decide +kernel
theorem ex2_full : allTo (lsA ex2Ps ex2Ps.length) 144 = ex2F := by decide +kernel
instance (a b : Int × Int) : Decidable (rlt a b) := by unfold rlt; infer_instance
instance (a b : Int × Int) : Decidable (rle a b) := by unfold rle; infer_instance
theorem ordOk_of {o f : Ordr} (h1 : o.res = f.res) (h2 : o.uses ≠ []) (h3 : o.uses.length ≤ 12) (h4 : o.uses.Perm f.uses) (h5 : (List.range f.uses.length).all (fun q => (List.range q).all fun p => decide (rle (rd f.uses p) (rd f.uses q))) = true)
    (h6 : (List.range o.uses.length).all (fun q => (List.range q).all fun p => decide ((rd o.uses p).1 = (rd o.uses q).1 → (rd o.uses p).2 < (rd o.uses q).2)) = true) : OrdOk o f := by
  refine ⟨h1, h2, h3, h4, fun p q hpq hq => ?_, fun p q hpq hq => ?_⟩
  · have := List.all_eq_true.1 (List.all_eq_true.1 h5 q (List.mem_range.2 hq)) p (List.mem_range.2 hpq)
    exact of_decide_eq_true this
  · have := List.all_eq_true.1 (List.all_eq_true.1 h6 q (List.mem_range.2 hq)) p (List.mem_range.2 hpq)
    exact of_decide_eq_true this
theorem ex2_ok0 : OrdOk ⟨1, [(1, 1), (0, 0)]⟩ ⟨1, [(0, 0), (1, 1)]⟩ := ordOk_of rfl (by decide) (by decide) (by decide) (by decide +kernel) (by decide +kernel)
theorem ex2_ok1 : OrdOk ⟨2, [(1, 0), (0, 1)]⟩ ⟨2, [(0, 1), (1, 0)]⟩ := ordOk_of rfl (by decide) (by decide) (by decide) (by decide +kernel) (by decide +kernel)
theorem ex2_ok : ∀ (i : Nat) (h1 : i < ex2O.length) (h2 : i < ex2F.length), OrdOk ex2O[i] ex2F[i] := by
  intro i h1 h2
  match i, h1, h2 with
  | 0, _, _ => exact ex2_ok0
  | 1, _, _ => exact ex2_ok1
section
variable {h : AH}
theorem ex2_check : AC Go.Proofs.Try.prog 29 [L ex2Ps, L ex2O] h (.bool true) h := f29_ok ex2_valid (pathsA_of ex2_valid) ex2_full rfl ex2_ok
end
end Go.Proofs.Ythofdojknjhpgaa
set_option linter.unusedVariables false
set_option linter.unusedSimpArgs false
namespace Go.Proofs.Ythofdojknjhpgaa
open Go
section
variable {h : AH} {B : Nat} {first : List Int} {v1 v2 : Value}
/-- 'graph.number'. -/
theorem f102_ok {t : Nat} {k : Int} (hw : Wf h) (hB : h.get B = some (.row 110 0 [L first, v1, v2])) (hlt : B < h.next) (ht : t < first.length) (h0 : 0 ≤ first[t] + k) (h1 : first[t] + k < 4611686018427387904) : AC Go.Proofs.Try.prog 102 [.pointer (some ⟨B, 0, none⟩), rvA ((t : Int), k)] h (.int .i64 (first[t] + k)) h := by
  refine AC.of_app hw Cl.int ?_
  refine EC.intro f102_is ?_
  unfold f102_c rvA
  have hg : (h.app [some (.row 48 0 [.int .i64 (t : Nat), .int .i64 k])]).get B = some (.row 110 0 [L first, v1, v2]) := by rw [app_get_lt hlt]; exact hB
  (refine EX.rg (by intro KK hkk; unfold f102_r0; simp only [SX, Nat.reduceEqDiff, ↓reduceIte, Nat.reduceSub, Nat.reduceAdd, Nat.reduceLT, Nat.reduceLeDiff, I.quiet, false_implies, implies_true, -List.reduceReplicate, new_app hw]; exact hkk) ?_)
  (refine EX.dg (by intro KK hkk; unfold f102_r1; simp only [SX, Nat.reduceEqDiff, ↓reduceIte, Nat.reduceSub, Nat.reduceAdd, Nat.reduceLT, Nat.reduceLeDiff, I.quiet, false_implies, implies_true, -List.reduceReplicate, hg, ht, ld1_ef ht o1i, rd_eq ht, show IntKind.wrap .i64 (first[t] + k) = first[t] + k from wrap_id (by omega) (by omega)]; exact hkk) ?_)
  ((with_reducible repeat first|apply EX.seq|apply EX.blk); refine EX.ret ?_; (with_reducible repeat first|apply nA|apply nB|apply nC|apply nD|apply nE|apply nF|apply nG (by decide)|apply nH|apply nI|apply nJ); refine ⟨_, rfl, ?_⟩; simp only [packV, upd, Nat.reduceEqDiff, reduceIte, if_true, if_false, Nat.one_ne_zero, Nat.zero_ne_one])
  exact ⟨trivial, _, rfl⟩
end
end Go.Proofs.Ythofdojknjhpgaa
