/- Own texts, merged: a part of the proof that is told in the last text of this claim. -/
import Derived.Test.YthofdojknjhpgaaCMXp
import Derived.Test.YthofdojknjhpgaaLawPUN
set_option linter.unnecessarySimpa false
set_option linter.unusedSectionVars false
set_option linter.defProp false
set_option linter.unusedVariables false
set_option linter.unusedSimpArgs false
namespace Go.Proofs.Ythofdojknjhpgaa
open Go
def doneL (ev : List (Int × Int)) (at' : List Int) : List Bool := ev.map fun e => decide (e.2 ≤ rd at' e.1.toNat)
theorem zeros_false (n : Nat) : zerosN [.bool false] n = F (List.replicate n false) := by
  induction n with
  | zero => rfl
  | succ n ih => rw [zerosN, ih, List.replicate_succ, F_cons]; rfl
/-- A graph that nobody changes. -/
def gV (first : List Int) (ev : List (Int × Int)) (ins : List (List Int)) : Value := fp [L first, L ev, L ins]
theorem gV_cl {first : List Int} {ev : List (Int × Int)} {ins : List (List Int)} : Cl (gV first ev ins) := Cl.fp fun v hv => by
  simp only [List.mem_cons, List.not_mem_nil, or_false] at hv
  rcases hv with rfl | rfl | rfl <;> exact L_cl
section
variable {h : AH} {B : Nat} {first : List Int} {ev : List (Int × Int)} {ins : List (List Int)} {at' : List Int}
theorem fa1_fp {off : Nat} {cs : List Value} : fa1 off (fp cs) h = some (fp (cs.drop off), h) := nr (by simp [fa1, fp])
theorem ld1_fp {v : Value} {cs : List Value} : ld1 (fp (v :: cs)) h = some (v, h) := nr (by simp [ld1, fp, opt1])
theorem nil1_gV : nil1 (gV first ev ins) h = some (gV first ev ins, h) := nr rfl
theorem fa1_gV1 : fa1 1 (gV first ev ins) h = some (fp [L ev, L ins], h) := nr (by rw [gV, fa1_fp]; rfl)
theorem fa1_gV2 : fa1 2 (gV first ev ins) h = some (fp [L ins], h) := nr (by rw [gV, fa1_fp]; rfl)
theorem ias1_own {n e j : Nat} {k : IntKind} (hj : j < n) : ias1 e (.slice (some ⟨B, 0, none⟩) n n) (.int k (j : Nat)) h = some (.pointer (some ⟨B, j * e, none⟩), h) := by
  simp only [ias1, Int.toNat_natCast]
  rw [if_pos ⟨by omega, by omega⟩, Nat.zero_add]
theorem lds_ref {xs : List (Int × Int)} {j : Nat} (hj : j < xs.length) : lds1 2 (ef xs j 0) h = some (.agg #[.int .i64 (rd xs j).1, .int .i64 (rd xs j).2], h) := by
  rw [lds1_ef hj (show 0 + 2 ≤ Enc.w (Int × Int) from Nat.le_refl 2)]; rfl
theorem rd_nat {xs : List Int} {x : Int} (h0 : 0 ≤ x) : ∃ k : Nat, x = (k : Int) ∧ x.toNat = k := ⟨x.toNat, by omega, rfl⟩
/-- 'graph.happened'. -/
theorem f75_ok (hl : ev.length ≤ 100000) (hat : ∀ e ∈ ev, 0 ≤ e.1 ∧ e.1.toNat < at'.length) : AC Go.Proofs.Try.prog 75 [gV first ev ins, L at'] h (.slice (some ⟨h.next, 0, none⟩) ev.length ev.length) (h.new (.row 4 1 (F (doneL ev at')))) := by
  refine AC.wf fun hw => ?_
  suffices k : EC Go.Proofs.Try.prog 75 [gV first ev ins, L at'] h fun r h' => r = .slice (some ⟨h.next, 0, none⟩) ev.length ev.length ∧ h' = h.app [some (.row 4 1 (F (doneL ev at')))] by
    obtain ⟨_, _, k, rfl, rfl⟩ := k
    rw [new_app hw]; exact k
  refine EC.intro f75_is ?_
  unfold f75_c
  (refine EX.rg (by intro KK hkk; unfold f75_r0; simp only [SX, Nat.reduceEqDiff, ↓reduceIte, Nat.reduceSub, Nat.reduceAdd, Nat.reduceLT, Nat.reduceLeDiff, I.quiet, false_implies, implies_true, -List.reduceReplicate]; exact hkk) ?_)
  (refine EX.rg (by intro KK hkk; unfold f75_r1; simp only [SX, Nat.reduceEqDiff, ↓reduceIte, Nat.reduceSub, Nat.reduceAdd, Nat.reduceLT, Nat.reduceLeDiff, I.quiet, false_implies, implies_true, -List.reduceReplicate, nil1_gV, fa1_gV1, ld1_fp, run_mks, mks1_nat (show 1 * ev.length ≤ 281474976710656 by omega) (show ev.length ≤ 4611686018427387904 by omega), zeros_false, new_app hw]; exact hkk) ?_)
  (refine EX.rg (by intro KK hkk; unfold f75_r2; simp only [SX, Nat.reduceEqDiff, ↓reduceIte, Nat.reduceSub, Nat.reduceAdd, Nat.reduceLT, Nat.reduceLeDiff, I.quiet, false_implies, implies_true, -List.reduceReplicate, nil1_gV, fa1_gV1, ld1_fp]; exact hkk) ?_)
  (with_reducible repeat first|apply EX.seq|apply EX.blk)
  refine EX.loop (σ := Nat) (fun i => upd (upd (upd (upd (upd TE 1 (L at')) 5 (.slice (some ⟨h.next, 0, none⟩) ev.length ev.length)) 17 (L ev)) 18 (.int .i64 ev.length)) 19 (.int .i64 (i : Nat))) (fun i => h.app [some (.row 4 1 (F ((doneL ev at').take i ++ List.replicate (ev.length - i) false)))]) (fun i => i ≤ ev.length) (fun i => ev.length - i) 0 (Nat.zero_le _) (by rw [List.take_zero, List.nil_append, Nat.sub_zero]; exact Less.wk (by (repeat refine Less.upd ?_ (by rfl)); exact Less.nil)) ?_
  intro i hi
  (refine EX.rg (by intro KK hkk; unfold f75_r3; simp only [SX, Nat.reduceEqDiff, ↓reduceIte, Nat.reduceSub, Nat.reduceAdd, Nat.reduceLT, Nat.reduceLeDiff, I.quiet, false_implies, implies_true, -List.reduceReplicate, lt_nat]; exact hkk) ?_)
  (with_reducible repeat first|apply EX.seq|apply EX.blk)
  refine EX.dec rfl (fun hlt => ?_) (fun hlt => ?_)
  · (refine EX.skip ?_; (with_reducible repeat first|apply nA|apply nB|apply nC|apply nD|apply nE|apply nF|apply nG (by decide)|apply nH|apply nI|apply nJ))
    have hdl : (doneL ev at').length = ev.length := by simp [doneL]
    have hei := rd_mem hlt
    obtain ⟨e0, e1⟩ := hat _ hei
    have hii : i < ((doneL ev at').take i ++ List.replicate (ev.length - i) false).length := by simp; omega
    have hset : ((doneL ev at').take i ++ List.replicate (ev.length - i) false).set i (decide ((rd ev i).2 ≤ rd at' (rd ev i).1.toNat)) = (doneL ev at').take (i + 1) ++ List.replicate (ev.length - (i + 1)) false := by
      obtain ⟨m, hm⟩ : ∃ m, ev.length - i = m + 1 := ⟨ev.length - i - 1, by omega⟩
      rw [hm, show ev.length - (i + 1) = m by omega, List.replicate_succ, List.take_succ_eq_append_getElem (by omega), List.set_append_right _ _ (by simp; omega)]
      have : (i - (List.take i (doneL ev at')).length) = 0 := by simp; omega
      rw [this, List.set_cons_zero, List.append_assoc]
      simp [doneL, rd_eq hlt]
    (refine EX.rg (by intro KK hkk; unfold f75_r4; simp only [SX, Nat.reduceEqDiff, ↓reduceIte, Nat.reduceSub, Nat.reduceAdd, Nat.reduceLT, Nat.reduceLeDiff, I.quiet, false_implies, implies_true, -List.reduceReplicate, hlt, wref, lds_ref hlt, hw.roi, stAt_all]; exact hkk) ?_)
    generalize rd ev i = u at *
    obtain ⟨u1, u2⟩ := u
    obtain ⟨k, rfl, hk⟩ := rd_nat (xs := []) e0
    simp only [Int.toNat_natCast] at e1 hset
    (refine EX.dg (by intro KK hkk; unfold f75_r5; simp only [SX, Nat.reduceEqDiff, ↓reduceIte, Nat.reduceSub, Nat.reduceAdd, Nat.reduceLT, Nat.reduceLeDiff, I.quiet, false_implies, implies_true, -List.reduceReplicate, e1, ld1_ef e1 o1i, ias1_own hlt, hw.ro0, stAt_Fb, hii, hset, Nat.le_refl]; exact hkk) ?_)
    (refine EX.rg (by intro KK hkk; unfold f75_r6; simp only [SX, Nat.reduceEqDiff, ↓reduceIte, Nat.reduceSub, Nat.reduceAdd, Nat.reduceLT, Nat.reduceLeDiff, I.quiet, false_implies, implies_true, -List.reduceReplicate, wrap_nat (show i < 4611686018427387904 by omega)]; exact hkk) ?_)
    refine ⟨i + 1, hlt, by omega, Wk.app [0] hw (by decide) (AppOk.some rfl RB.F AppOk.nil) (by (repeat (first | exact RVs.nil | refine RVs.updc ?_ Cl.int rfl | refine RVs.updc ?_ L_cl rfl | refine RVs.updc ?_ Cl.bool rfl | refine RVs.upd ?_ (RV.ptr (rnm_00 rfl) (by simp only [List.length_cons, List.length_nil]; omega)) | refine RVs.upd ?_ (RV.ptr (rnm_ij rfl) (by simp only [List.length_cons, List.length_nil]; omega)) | refine RVs.upd ?_ (RV.ptr (rnm_i0 rfl) (by simp only [List.length_cons, List.length_nil]; omega)) | refine RVs.upd ?_ (RV.ptr (rnm_0j rfl) (by simp only [List.length_cons, List.length_nil]; omega)) | refine RVs.upd ?_ (RV.slice (rnm_00 rfl) (by simp only [List.length_cons, List.length_nil]; omega)) | refine RVs.upd ?_ (RV.slice (rnm_ij rfl) (by simp only [List.length_cons, List.length_nil]; omega)) | refine RVs.upd ?_ (RV.slice (rnm_i0 rfl) (by simp only [List.length_cons, List.length_nil]; omega)) | refine RVs.upd ?_ (RV.slice (rnm_0j rfl) (by simp only [List.length_cons, List.length_nil]; omega)) | refine RVs.updc ?_ Cl.slice0 rfl | refine RVs.upd ?_ (RV.map (rnm_00 rfl) (by simp only [List.length_cons, List.length_nil]; omega)) | refine RVs.upd ?_ (RV.map (rnm_ij rfl) (by simp only [List.length_cons, List.length_nil]; omega)))))⟩
  · (refine EX.exit ?_; (with_reducible repeat first|apply nA|apply nB|apply nC|apply nD|apply nE|apply nF|apply nG (by decide)|apply nH|apply nI|apply nJ))
    obtain rfl : i = ev.length := by omega
    (refine EX.rg (by intro KK hkk; unfold f75_r7; simp only [SX, Nat.reduceEqDiff, ↓reduceIte, Nat.reduceSub, Nat.reduceAdd, Nat.reduceLT, Nat.reduceLeDiff, I.quiet, false_implies, implies_true, -List.reduceReplicate]; exact hkk) ?_)
    ((with_reducible repeat first|apply EX.seq|apply EX.blk); refine EX.ret ?_; (with_reducible repeat first|apply nA|apply nB|apply nC|apply nD|apply nE|apply nF|apply nG (by decide)|apply nH|apply nI|apply nJ); refine ⟨_, rfl, ?_⟩; simp only [packV, upd, Nat.reduceEqDiff, reduceIte, if_true, if_false, Nat.one_ne_zero, Nat.zero_ne_one])
    refine ⟨trivial, ?_⟩
    rw [Nat.sub_self, List.replicate_zero, List.append_nil, List.take_of_length_le (by simp [doneL])]
/-- The closures of 'line' and 'open'. -/
def notD (dn : List Bool) (k : Int) : Bool := !rd dn k.toNat
theorem f105_ok {dn : List Bool} {t t2 : TypeId} {e e2 D n : Nat} {k : Int} (hB : h.get B = some (.row t e [.slice (some ⟨D, 0, none⟩) n n])) (hD : h.get D = some (.row t2 e2 (F dn))) (hn : dn.length = n) (h0 : 0 ≤ k) (h1 : k.toNat < n) : AC Go.Proofs.Try.prog 105 [.int .i64 k, .pointer (some ⟨B, 0, none⟩)] h (.bool (notD dn k)) h := by
  obtain ⟨j, rfl, hj⟩ := rd_nat (xs := []) h0
  simp only [Int.toNat_natCast] at h1
  have hj2 : j < dn.length := by omega
  refine AC.of_ec (EC.intro f105_is ?_)
  unfold f105_c
  (refine EX.rg (by intro KK hkk; unfold f105_r0; simp only [SX, Nat.reduceEqDiff, ↓reduceIte, Nat.reduceSub, Nat.reduceAdd, Nat.reduceLT, Nat.reduceLeDiff, I.quiet, false_implies, implies_true, -List.reduceReplicate]; exact hkk) ?_)
  (refine EX.rg (by intro KK hkk; unfold f105_r1; simp only [SX, Nat.reduceEqDiff, ↓reduceIte, Nat.reduceSub, Nat.reduceAdd, Nat.reduceLT, Nat.reduceLeDiff, I.quiet, false_implies, implies_true, -List.reduceReplicate, hB, ias1_own h1, hD, F_getb hj2]; exact hkk) ?_)
  ((with_reducible repeat first|apply EX.seq|apply EX.blk); refine EX.ret ?_; (with_reducible repeat first|apply nA|apply nB|apply nC|apply nD|apply nE|apply nF|apply nG (by decide)|apply nH|apply nI|apply nJ); refine ⟨_, rfl, ?_⟩; simp only [packV, upd, Nat.reduceEqDiff, reduceIte, if_true, if_false, Nat.one_ne_zero, Nat.zero_ne_one])
  exact ⟨by simp [notD], trivial⟩
theorem f116_ok {dn : List Bool} {t t2 : TypeId} {e e2 D n : Nat} {k : Int} (hB : h.get B = some (.row t e [.slice (some ⟨D, 0, none⟩) n n])) (hD : h.get D = some (.row t2 e2 (F dn))) (hn : dn.length = n) (h0 : 0 ≤ k) (h1 : k.toNat < n) : AC Go.Proofs.Try.prog 116 [.int .i64 k, .pointer (some ⟨B, 0, none⟩)] h (.bool (notD dn k)) h := by
  obtain ⟨j, rfl, hj⟩ := rd_nat (xs := []) h0
  simp only [Int.toNat_natCast] at h1
  have hj2 : j < dn.length := by omega
  refine AC.of_ec (EC.intro f116_is ?_)
  unfold f116_c
  (refine EX.rg (by intro KK hkk; unfold f116_r0; simp only [SX, Nat.reduceEqDiff, ↓reduceIte, Nat.reduceSub, Nat.reduceAdd, Nat.reduceLT, Nat.reduceLeDiff, I.quiet, false_implies, implies_true, -List.reduceReplicate]; exact hkk) ?_)
  (refine EX.rg (by intro KK hkk; unfold f116_r1; simp only [SX, Nat.reduceEqDiff, ↓reduceIte, Nat.reduceSub, Nat.reduceAdd, Nat.reduceLT, Nat.reduceLeDiff, I.quiet, false_implies, implies_true, -List.reduceReplicate, hB, ias1_own h1, hD, F_getb hj2]; exact hkk) ?_)
  ((with_reducible repeat first|apply EX.seq|apply EX.blk); refine EX.ret ?_; (with_reducible repeat first|apply nA|apply nB|apply nC|apply nD|apply nE|apply nF|apply nG (by decide)|apply nH|apply nI|apply nJ); refine ⟨_, rfl, ?_⟩; simp only [packV, upd, Nat.reduceEqDiff, reduceIte, if_true, if_false, Nat.one_ne_zero, Nat.zero_ne_one])
  exact ⟨by simp [notD], trivial⟩
end
end Go.Proofs.Ythofdojknjhpgaa
set_option linter.unusedVariables false
set_option linter.unusedSimpArgs false
namespace Go.Proofs.Ythofdojknjhpgaa
open Go
theorem OwnG.retR {α : Type} [Enc α] {t : TypeId} {h : AH} {bs : List (Option Blk)} {v : Value} {xs : List α} {T : Tm} {r : Nat} (hw : Wf h) (o : OwnG t h.next bs v xs) (hl : xs.length < 4611686018427387904) (h2 : T r = v) : Wk h.next (upd TE r (L xs)) h T (h.app bs) := by
  rcases o with ⟨rfl, rfl⟩ | ⟨j, rfl, _, hj⟩
  · exact Wk.app0 hw (RVs.upd RVs.nil (by rw [h2]; exact RV.nilL))
  · refine Wk.trans (Wk.frzApp (T0 := upd TE r (L xs)) (bs' := List.replicate bs.length none) hw hj (by simp) ?_ ?_) (Wk.app0 hw (RVs.updc RVs.nil L_cl (by simp [Go.Proofs.Ythofdojknjhpgaa.upd])))
    · intro i b0 hi
      rw [List.getElem?_replicate] at hi
      split at hi <;> cases hi
    · intro i
      unfold Go.Proofs.Ythofdojknjhpgaa.upd; split
      · rename_i e; subst e
        rw [h2]
        refine .inr (.inr (.inr ⟨0, xs.length, xs.length, hl, by rw [F_len]; omega, rfl, ?_⟩))
        rw [List.drop_zero, List.take_of_length_le (by rw [F_len]; omega)]
        rfl
      · exact .inl rfl
section
variable {h : AH} {B : Nat} {first : List Int} {ev : List (Int × Int)} {ins : List (List Int)} {at' : List Int}
/-- 'slices.IndexFunc' over numbers. -/
def ixF (xs : List Int) (p : Int → Bool) : Int := match xs.findIdx? p with | some i => (i : Nat) | none => -1
theorem f78_ok {xs : List Int} {f : FuncId} {cs : List Value} {p : Int → Bool} (hf : okF Go.Proofs.Try.prog f = true) (hp : ∀ x ∈ xs, AC Go.Proofs.Try.prog f (.int .i64 x :: cs) h (.bool (p x)) h) : AC Go.Proofs.Try.prog 78 [L xs, .func (.func f) #[] cs.toArray] h (.int .i64 (ixF xs p)) h := by
  refine AC.bd 0 rfl fun bx => ?_
  have lx := bx.1
  refine AC.of_ec (EC.intro f78_is ?_)
  unfold f78_c
  (refine EX.rg (by intro KK hkk; unfold f78_r0; simp only [SX, Nat.reduceEqDiff, ↓reduceIte, Nat.reduceSub, Nat.reduceAdd, Nat.reduceLT, Nat.reduceLeDiff, I.quiet, false_implies, implies_true, -List.reduceReplicate]; exact hkk) ?_)
  (refine EX.rg (by intro KK hkk; unfold f78_r1; simp only [SX, Nat.reduceEqDiff, ↓reduceIte, Nat.reduceSub, Nat.reduceAdd, Nat.reduceLT, Nat.reduceLeDiff, I.quiet, false_implies, implies_true, -List.reduceReplicate]; exact hkk) ?_)
  (with_reducible repeat first|apply EX.seq|apply EX.blk)
  refine EX.loop (σ := Nat) (fun i => upd (upd (upd (upd TE 0 (L xs)) 1 (.func (.func f) #[] cs.toArray)) 7 (.int .i64 xs.length)) 8 (.int .i64 (i : Nat))) (fun _ => h) (fun i => i ≤ xs.length ∧ ∀ j, j < i → p (rd xs j) = false) (fun i => xs.length - i) 0 ⟨Nat.zero_le _, fun j hj => by omega⟩ (Less.wk (by (repeat refine Less.upd ?_ (by rfl)); exact Less.nil)) ?_
  rintro i ⟨hi, hn⟩
  (refine EX.rg (by intro KK hkk; unfold f78_r2; simp only [SX, Nat.reduceEqDiff, ↓reduceIte, Nat.reduceSub, Nat.reduceAdd, Nat.reduceLT, Nat.reduceLeDiff, I.quiet, false_implies, implies_true, -List.reduceReplicate, lt_nat]; exact hkk) ?_)
  (with_reducible repeat first|apply EX.seq|apply EX.blk)
  refine EX.dec rfl (fun hlt => ?_) (fun hlt => ?_)
  · (refine EX.skip ?_; (with_reducible repeat first|apply nA|apply nB|apply nC|apply nD|apply nE|apply nF|apply nG (by decide)|apply nH|apply nI|apply nJ))
    have hx := hp _ (rd_mem hlt)
    (refine EX.rg (by intro KK hkk; unfold f78_r3; simp only [SX, Nat.reduceEqDiff, ↓reduceIte, Nat.reduceSub, Nat.reduceAdd, Nat.reduceLT, Nat.reduceLeDiff, I.quiet, false_implies, implies_true, -List.reduceReplicate]; exact hkk) ?_)
    refine EX.rg (by intro KK hkk; unfold f78_r4; simp only [SX, Nat.reduceEqDiff, ↓reduceIte, Nat.reduceSub, Nat.reduceAdd, Nat.reduceLT, Nat.reduceLeDiff, I.quiet, false_implies, implies_true, -List.reduceReplicate, hlt, ld1_ef hlt o1i]; refine RO_calldE (f := f) (xs := #[]) (cs := cs.toArray) (v := .bool (p (rd xs i))) (h' := h) ?_ hf ?_ ?_; (exact rfl); (simpa [SX, Nat.reduceEqDiff, ↓reduceIte, Nat.reduceSub, Nat.reduceAdd, Nat.reduceLT, Nat.reduceLeDiff, I.quiet, false_implies, implies_true, -List.reduceReplicate, Opd.ev, upd] using hx); exact hkk) ?_
    refine EX.ite rfl (fun hc => ?_) (fun hc => ?_)
    · (refine EX.rg (by intro KK hkk; unfold f78_r5; simp only [SX, Nat.reduceEqDiff, ↓reduceIte, Nat.reduceSub, Nat.reduceAdd, Nat.reduceLT, Nat.reduceLeDiff, I.quiet, false_implies, implies_true, -List.reduceReplicate]; exact hkk) ?_)
      ((with_reducible repeat first|apply EX.seq|apply EX.blk); refine EX.ret ?_; (with_reducible repeat first|apply nA|apply nB|apply nC|apply nD|apply nE|apply nF|apply nG (by decide)|apply nH|apply nI|apply nJ); refine ⟨_, rfl, ?_⟩; simp only [packV, upd, Nat.reduceEqDiff, reduceIte, if_true, if_false, Nat.one_ne_zero, Nat.zero_ne_one])
      refine ⟨?_, trivial⟩
      have : xs.findIdx? p = some i := List.findIdx?_eq_some_iff_getElem.2 ⟨hlt, by rw [← rd_eq hlt]; exact hc, fun j hj => by rw [← rd_eq]; simp [hn j hj]⟩
      simp only [ixF, this]
    · (refine EX.skip ?_; (with_reducible repeat first|apply nA|apply nB|apply nC|apply nD|apply nE|apply nF|apply nG (by decide)|apply nH|apply nI|apply nJ))
      (refine EX.rg (by intro KK hkk; unfold f78_r6; simp only [SX, Nat.reduceEqDiff, ↓reduceIte, Nat.reduceSub, Nat.reduceAdd, Nat.reduceLT, Nat.reduceLeDiff, I.quiet, false_implies, implies_true, -List.reduceReplicate, wrap_nat (show i < 4611686018427387904 by omega)]; exact hkk) ?_)
      refine ⟨i + 1, ⟨hlt, fun j hj => ?_⟩, by omega, Less.wk (by (repeat refine Less.upd ?_ (by rfl)); exact Less.nil)⟩
      rcases Nat.lt_or_ge j i with h1 | h1
      · exact hn j h1
      · obtain rfl : j = i := by omega
        exact hc
  · (refine EX.exit ?_; (with_reducible repeat first|apply nA|apply nB|apply nC|apply nD|apply nE|apply nF|apply nG (by decide)|apply nH|apply nI|apply nJ))
    obtain rfl : i = xs.length := by omega
    (refine EX.rg (by intro KK hkk; unfold f78_r7; simp only [SX, Nat.reduceEqDiff, ↓reduceIte, Nat.reduceSub, Nat.reduceAdd, Nat.reduceLT, Nat.reduceLeDiff, I.quiet, false_implies, implies_true, -List.reduceReplicate]; exact hkk) ?_)
    ((with_reducible repeat first|apply EX.seq|apply EX.blk); refine EX.ret ?_; (with_reducible repeat first|apply nA|apply nB|apply nC|apply nD|apply nE|apply nF|apply nG (by decide)|apply nH|apply nI|apply nJ); refine ⟨_, rfl, ?_⟩; simp only [packV, upd, Nat.reduceEqDiff, reduceIte, if_true, if_false, Nat.one_ne_zero, Nat.zero_ne_one])
    refine ⟨?_, trivial⟩
    have : xs.findIdx? p = none := List.findIdx?_eq_none_iff.2 fun x hx => by
      obtain ⟨j, hj, rfl⟩ := List.getElem_of_mem hx
      rw [← rd_eq hj]; exact hn j hj
    simp only [ixF, this]
theorem ixF_any {xs : List Int} {p : Int → Bool} : decide (0 ≤ ixF xs p) = xs.any p := by
  unfold ixF
  cases hf : xs.findIdx? p with
  | none =>
    have := List.findIdx?_eq_none_iff.1 hf
    simp only
    rw [decide_eq_false (by decide)]
    symm
    rw [List.any_eq_false]
    intro x hx; simp [this x hx]
  | some i =>
    obtain ⟨hi, h1, _⟩ := List.findIdx?_eq_some_iff_getElem.1 hf
    simp only
    rw [decide_eq_true (by omega)]
    symm
    exact List.any_eq_true.2 ⟨_, List.getElem_mem hi, h1⟩
theorem f104_ok {xs : List Int} {f : FuncId} {cs : List Value} {p : Int → Bool} (hf : okF Go.Proofs.Try.prog f = true) (hp : ∀ x ∈ xs, AC Go.Proofs.Try.prog f (.int .i64 x :: cs) h (.bool (p x)) h) : AC Go.Proofs.Try.prog 104 [L xs, .func (.func f) #[] cs.toArray] h (.bool (xs.any p)) h := by
  refine AC.of_ec (EC.intro f104_is ?_)
  unfold f104_c
  (refine EX.rg (by intro KK hkk; unfold f104_r0; simp only [SX, Nat.reduceEqDiff, ↓reduceIte, Nat.reduceSub, Nat.reduceAdd, Nat.reduceLT, Nat.reduceLeDiff, I.quiet, false_implies, implies_true, -List.reduceReplicate]; exact hkk) ?_)
  (refine EX.rg (by intro KK hkk; unfold f104_r1; simp only [SX, Nat.reduceEqDiff, ↓reduceIte, Nat.reduceSub, Nat.reduceAdd, Nat.reduceLT, Nat.reduceLeDiff, I.quiet, false_implies, implies_true, -List.reduceReplicate]; refine RO_callvS (f78_ok hf hp) ?_; simp only [SX, Nat.reduceEqDiff, ↓reduceIte, Nat.reduceSub, Nat.reduceAdd, Nat.reduceLT, Nat.reduceLeDiff, I.quiet, false_implies, implies_true, -List.reduceReplicate]; exact hkk) ?_)
  ((with_reducible repeat first|apply EX.seq|apply EX.blk); refine EX.ret ?_; (with_reducible repeat first|apply nA|apply nB|apply nC|apply nD|apply nE|apply nF|apply nG (by decide)|apply nH|apply nI|apply nJ); refine ⟨_, rfl, ?_⟩; simp only [packV, upd, Nat.reduceEqDiff, reduceIte, if_true, if_false, Nat.one_ne_zero, Nat.zero_ne_one])
  refine ⟨?_, trivial⟩
  rw [← ixF_any]
theorem okF105 : okF Go.Proofs.Try.prog 105 = true := by decide +kernel
theorem okF116 : okF Go.Proofs.Try.prog 116 = true := by decide +kernel
/-- What waits: an event that has not happened, or waits for one. -/
def waits (ins : List (List Int)) (dn : List Bool) (i : Nat) : Bool := rd dn i || (rd ins i).any (notD dn)
def nextD (ins : List (List Int)) (dn : List Bool) : Option Nat := (List.range dn.length).find? fun i => !waits ins dn i
def lineD (ins : List (List Int)) : Nat → List Bool → List Int
  | 0, _ => []
  | n + 1, dn => match nextD ins dn with | none => [] | some i => (i : Int) :: lineD ins n (dn.set i true)
theorem nextD_lt {ins : List (List Int)} {dn : List Bool} {i : Nat} (h : nextD ins dn = some i) : i < dn.length ∧ rd dn i = false := by
  have h1 := List.mem_of_find?_eq_some h
  have h2 := List.find?_some h
  simp only [waits, Bool.not_eq_true', Bool.or_eq_false_iff] at h2
  exact ⟨List.mem_range.1 h1, h2.1⟩
theorem lineD_none {ins : List (List Int)} {dn : List Bool} (h : nextD ins dn = none) (m : Nat) : lineD ins m dn = [] := by
  cases m with
  | zero => rfl
  | succ m => rw [lineD, h]
structure GOk (ev : List (Int × Int)) (ins : List (List Int)) : Prop where
  len : ins.length = ev.length
  small : ev.length ≤ 100000
  rng : ∀ l ∈ ins, ∀ k ∈ l, 0 ≤ k ∧ k.toNat < ev.length
/-- 'graph.line'. -/
theorem f76_ok (hg : GOk ev ins) (hat : ∀ e ∈ ev, 0 ≤ e.1 ∧ e.1.toNat < at'.length) : AC Go.Proofs.Try.prog 76 [gV first ev ins, L at'] h (L (lineD ins ev.length (doneL ev at'))) h := by
  obtain ⟨hil, hsm, hrg⟩ := hg
  refine AC.wf fun hw => AC.of_app hw L_cl ?_
  refine EC.intro f76_is ?_
  unfold f76_c
  have c75 := f75_ok (h := h) (first := first) (ins := ins) hsm hat
  have hd0 : (doneL ev at').length = ev.length := by simp [doneL]
  generalize hdn0 : doneL ev at' = dn0 at *
  (refine EX.rg (by intro KK hkk; unfold f76_r0; simp only [SX, Nat.reduceEqDiff, ↓reduceIte, Nat.reduceSub, Nat.reduceAdd, Nat.reduceLT, Nat.reduceLeDiff, I.quiet, false_implies, implies_true, -List.reduceReplicate]; exact hkk) ?_)
  refine EX.rg (by intro KK hkk; unfold f76_r1; simp only [SX, Nat.reduceEqDiff, ↓reduceIte, Nat.reduceSub, Nat.reduceAdd, Nat.reduceLT, Nat.reduceLeDiff, I.quiet, false_implies, implies_true, -List.reduceReplicate]; refine RO_callE (c75) ?_; simp only [SX, Nat.reduceEqDiff, ↓reduceIte, Nat.reduceSub, Nat.reduceAdd, Nat.reduceLT, Nat.reduceLeDiff, I.quiet, false_implies, implies_true, -List.reduceReplicate, new_app hw, hw.roi, stAt_row, Nat.lt_succ_self]; exact hkk) ?_
  (refine EX.rg (by intro KK hkk; unfold f76_r2; simp only [SX, Nat.reduceEqDiff, ↓reduceIte, Nat.reduceSub, Nat.reduceAdd, Nat.reduceLT, Nat.reduceLeDiff, I.quiet, false_implies, implies_true, -List.reduceReplicate]; exact hkk) ?_)
  (refine EX.rg (by intro KK hkk; unfold f76_r3; simp only [SX, Nat.reduceEqDiff, ↓reduceIte, Nat.reduceSub, Nat.reduceAdd, Nat.reduceLT, Nat.reduceLeDiff, I.quiet, false_implies, implies_true, -List.reduceReplicate]; exact hkk) ?_)
  (with_reducible repeat first|apply EX.seq|apply EX.blk)
  refine EX.loop (σ := Bool × List Bool × List Int × Value × List (Option Blk)) (fun s => upd (upd (upd (upd TE 0 (gV first ev ins)) 5 (.pointer (some ⟨h.next + 1, 0, none⟩))) 6 s.2.2.2.1) 7 (.bool s.1)) (fun s => h.app s.2.2.2.2)
    (fun s => s.2.1.length = ev.length ∧ s.2.2.2.2[0]? = some (some (.row 4 1 (F s.2.1))) ∧ s.2.2.2.2[1]? = some (some (.row 116 0 [.slice (some ⟨h.next, 0, none⟩) ev.length ev.length])) ∧ OwnG 3 h.next s.2.2.2.2 s.2.2.2.1 s.2.2.1 ∧ s.2.2.1.length + s.2.1.count false ≤ ev.length ∧
      (s.1 = true → ∃ m, lineD ins ev.length dn0 = s.2.2.1 ++ lineD ins m s.2.1 ∧ s.2.1.count false ≤ m) ∧ (s.1 = false → lineD ins ev.length dn0 = s.2.2.1))
    (fun s => 2 * s.2.1.count false + s.1.toNat) (true, dn0, [], .slice none 0 0, [some (.row 4 1 (F dn0)), some (.row 116 0 [.slice (some ⟨h.next, 0, none⟩) ev.length ev.length])])
    ⟨hd0, rfl, rfl, .inl ⟨rfl, rfl⟩, by rw [List.length_nil, Nat.zero_add, ← hd0]; exact List.count_le_length, fun _ => ⟨ev.length, rfl, by rw [← hd0]; exact List.count_le_length⟩, fun e => by cases e⟩ (Less.wk (by (repeat refine Less.upd ?_ (by rfl)); exact Less.nil)) ?_
  rintro ⟨ag, dn, lst, v, bs⟩ ⟨hdl, hb0, hb1, hov, hcn, hT, hF⟩
  simp only at hdl hb0 hb1 hov hcn hT hF
  (refine EX.rg (by intro KK hkk; unfold f76_r4; simp only [SX, Nat.reduceEqDiff, ↓reduceIte, Nat.reduceSub, Nat.reduceAdd, Nat.reduceLT, Nat.reduceLeDiff, I.quiet, false_implies, implies_true, -List.reduceReplicate]; exact hkk) ?_)
  (with_reducible repeat first|apply EX.seq|apply EX.blk)
  refine EX.ite rfl (fun hag => ?_) (fun hag => ?_)
  · (refine EX.skip ?_; (with_reducible repeat first|apply nA|apply nB|apply nC|apply nD|apply nE|apply nF|apply nG (by decide)|apply nH|apply nI|apply nJ))
    subst hag
    obtain ⟨m, hline, hm⟩ := hT rfl
    clear hT hF
    (refine EX.rg (by intro KK hkk; unfold f76_r5; simp only [SX, Nat.reduceEqDiff, ↓reduceIte, Nat.reduceSub, Nat.reduceAdd, Nat.reduceLT, Nat.reduceLeDiff, I.quiet, false_implies, implies_true, -List.reduceReplicate]; exact hkk) ?_)
    (refine EX.rg (by intro KK hkk; unfold f76_r6; simp only [SX, Nat.reduceEqDiff, ↓reduceIte, Nat.reduceSub, Nat.reduceAdd, Nat.reduceLT, Nat.reduceLeDiff, I.quiet, false_implies, implies_true, -List.reduceReplicate, nil1_gV, fa1_gV1, ld1_fp]; exact hkk) ?_)
    (with_reducible repeat first|apply EX.seq|apply EX.blk)
    refine EX.loop (σ := Nat) (fun i => upd (upd (upd (upd (upd (upd TE 0 (gV first ev ins)) 5 (.pointer (some ⟨h.next + 1, 0, none⟩))) 6 v) 7 (.bool false)) 17 (.int .i64 ev.length)) 18 (.int .i64 (i : Nat))) (fun _ => h.app bs) (fun i => i ≤ ev.length ∧ ∀ j, j < i → waits ins dn j = true) (fun i => ev.length - i) 0 ⟨Nat.zero_le _, fun j hj => by omega⟩ (Less.wk (by (repeat refine Less.upd ?_ (by rfl)); exact Less.nil)) ?_
    rintro i ⟨hi, hn⟩
    (refine EX.rg (by intro KK hkk; unfold f76_r7; simp only [SX, Nat.reduceEqDiff, ↓reduceIte, Nat.reduceSub, Nat.reduceAdd, Nat.reduceLT, Nat.reduceLeDiff, I.quiet, false_implies, implies_true, -List.reduceReplicate, lt_nat]; exact hkk) ?_)
    (with_reducible repeat first|apply EX.seq|apply EX.blk)
    refine EX.dec rfl (fun hlt => ?_) (fun hlt => ?_)
    · (refine EX.skip ?_; (with_reducible repeat first|apply nA|apply nB|apply nC|apply nD|apply nE|apply nF|apply nG (by decide)|apply nH|apply nI|apply nJ))
      (refine EX.rg (by intro KK hkk; unfold f76_r8; simp only [SX, Nat.reduceEqDiff, ↓reduceIte, Nat.reduceSub, Nat.reduceAdd, Nat.reduceLT, Nat.reduceLeDiff, I.quiet, false_implies, implies_true, -List.reduceReplicate]; exact hkk) ?_)
      have hid : i < dn.length := by omega
      have hii : i < ins.length := by omega
      have c104 : AC Go.Proofs.Try.prog 104 [L (rd ins i), .func (.func 105) #[] [.pointer (some ⟨h.next + 1, 0, none⟩)].toArray] (h.app bs) (.bool ((rd ins i).any (notD dn))) (h.app bs) := f104_ok okF105 fun x hx => by
        obtain ⟨x0, x1⟩ := hrg _ (rd_mem hii) x hx
        exact f105_ok (by rw [app_get, hb1]; rfl) (by rw [app_get0, hb0]; rfl) hdl x0 x1
      have hn1 : ∀ b, waits ins dn i = b → b = true → ∀ j, j < i + 1 → waits ins dn j = true := fun b h1 h2 j hj => by
        rcases Nat.lt_or_ge j i with h3 | h3
        · exact hn j h3
        · obtain rfl : j = i := by omega
          rw [h1, h2]
      cases hb : rd dn i with
      | true =>
        (refine EX.rg (by intro KK hkk; unfold f76_r9; simp only [SX, Nat.reduceEqDiff, ↓reduceIte, Nat.reduceSub, Nat.reduceAdd, Nat.reduceLT, Nat.reduceLeDiff, I.quiet, false_implies, implies_true, -List.reduceReplicate, hb0, hb1, ias1_own hlt, F_getb hid, hb]; exact hkk) ?_)
        refine EX.condT rfl ?_
        (refine EX.exit ?_; (with_reducible repeat first|apply nA|apply nB|apply nC|apply nD|apply nE|apply nF|apply nG (by decide)|apply nH|apply nI|apply nJ))
        (refine EX.rg (by intro KK hkk; unfold f76_r12; simp only [SX, Nat.reduceEqDiff, ↓reduceIte, Nat.reduceSub, Nat.reduceAdd, Nat.reduceLT, Nat.reduceLeDiff, I.quiet, false_implies, implies_true, -List.reduceReplicate, wrap_nat (show i < 4611686018427387904 by omega)]; exact hkk) ?_)
        exact ⟨i + 1, ⟨hlt, hn1 true (by simp [waits, hb]) rfl⟩, by omega, Less.wk (by (repeat refine Less.upd ?_ (by rfl)); exact Less.nil)⟩
      | false =>
        refine EX.rg (by intro KK hkk; unfold f76_r9; simp only [SX, Nat.reduceEqDiff, ↓reduceIte, Nat.reduceSub, Nat.reduceAdd, Nat.reduceLT, Nat.reduceLeDiff, I.quiet, false_implies, implies_true, -List.reduceReplicate, hb0, hb1, ias1_own hlt, F_getb hid, hb, nil1_gV, fa1_gV2, ld1_fp, hii, ld1_ef hii o1l]; refine RO_callvS c104 ?_; simp only [SX, Nat.reduceEqDiff, ↓reduceIte, Nat.reduceSub, Nat.reduceAdd, Nat.reduceLT, Nat.reduceLeDiff, I.quiet, false_implies, implies_true, -List.reduceReplicate]; exact hkk) ?_
        refine EX.ite rfl (fun hc => ?_) (fun hc => ?_)
        · (refine EX.exit ?_; (with_reducible repeat first|apply nA|apply nB|apply nC|apply nD|apply nE|apply nF|apply nG (by decide)|apply nH|apply nI|apply nJ))
          (refine EX.rg (by intro KK hkk; unfold f76_r12; simp only [SX, Nat.reduceEqDiff, ↓reduceIte, Nat.reduceSub, Nat.reduceAdd, Nat.reduceLT, Nat.reduceLeDiff, I.quiet, false_implies, implies_true, -List.reduceReplicate, wrap_nat (show i < 4611686018427387904 by omega)]; exact hkk) ?_)
          exact ⟨i + 1, ⟨hlt, hn1 true (by rw [waits, hb, hc]; rfl) rfl⟩, by omega, Less.wk (by (repeat refine Less.upd ?_ (by rfl)); exact Less.nil)⟩
        · (refine EX.skip ?_; (with_reducible repeat first|apply nA|apply nB|apply nC|apply nD|apply nE|apply nF|apply nG (by decide)|apply nH|apply nI|apply nJ))
          have hnx : nextD ins dn = some i := by
            unfold nextD
            rw [List.find?_range_eq_some]
            refine ⟨by rw [waits, hb, hc]; rfl, List.mem_range.2 hid, fun j hj => by simp [hn j hj]⟩
          have hcs : (dn.set i true).count false + 1 = dn.count false := by
            have := List.count_set (a := true) (b := false) hid
            have hge : 0 < dn.count false := List.count_pos_iff.2 (by rw [← hb, rd_eq hid]; exact List.getElem_mem hid)
            rw [← rd_eq hid, hb] at this
            simp at this
            omega
          obtain ⟨m', rfl⟩ : ∃ m', m = m' + 1 := ⟨m - 1, by omega⟩
          rw [lineD, hnx] at hline
          have hbl0 := getElem?_lt hb0
          have hov1 : OwnG 3 h.next (bs.set 0 (some (.row 4 1 (F (dn.set i true))))) v lst := hov.keep fun k c hk => by
            rw [List.getElem?_set, if_neg (by rintro rfl; rw [hb0] at hk; cases hk)]; exact hk
          have hb01 : (bs.set 0 (some (Blk.row 4 1 (F (dn.set i true)))))[0]? = some (some (.row 4 1 (F (dn.set i true)))) := List.getElem?_set_self hbl0
          have hb11 : (bs.set 0 (some (Blk.row 4 1 (F (dn.set i true)))))[1]? = some (some (.row 116 0 [.slice (some ⟨h.next, 0, none⟩) ev.length ev.length])) := by
            rw [List.getElem?_set, if_neg (by decide)]; exact hb1
          (refine EX.rg (by intro KK hkk; unfold f76_r10; simp only [SX, Nat.reduceEqDiff, ↓reduceIte, Nat.reduceSub, Nat.reduceAdd, Nat.reduceLT, Nat.reduceLeDiff, I.quiet, false_implies, implies_true, -List.reduceReplicate, hb0, hb1, ias1_own hlt, hw.ro0, stAt_Fb, hid, hbl0]; exact hkk) ?_)
          generalize bs.set 0 (some (Blk.row 4 1 (F (dn.set i true)))) = bs1 at *
          obtain ⟨bs2, ap, hov2, keep⟩ := hov1.push (x := (i : Int)) (e := 1) (bytes := 8) rfl hw (by omega) (by omega)
          rw [cells_int] at ap
          (refine EX.rg (by intro KK hkk; unfold f76_r11; simp only [SX, Nat.reduceEqDiff, ↓reduceIte, Nat.reduceSub, Nat.reduceAdd, Nat.reduceLT, Nat.reduceLeDiff, I.quiet, false_implies, implies_true, -List.reduceReplicate, ap]; exact hkk) ?_)
          (refine EX.exit ?_; (with_reducible repeat first|apply nA|apply nB|apply nC|apply nD|apply nE|apply nF|apply nG (by decide)|apply nH|apply nI|apply nJ))
          refine ⟨(true, dn.set i true, lst ++ [(i : Int)], _, bs2), ⟨by simpa using hdl, keep _ _ hb01 (by intro c e; cases e), keep _ _ hb11 (by intro c e; cases e), hov2, by simp; omega, fun _ => ⟨m', by rw [hline, List.append_assoc]; rfl, by show (dn.set i true).count false ≤ m'; omega⟩, fun e => by cases e⟩, by show 2 * (dn.set i true).count false + 1 < 2 * dn.count false + 1; omega, ?_⟩
          refine Less.wk ?_
          refine Less.upd (Less.upd (Less.upd (Less.upd Less.nil ?_) ?_) ?_) ?_ <;> simp [upd]
    · (refine EX.exit ?_; (with_reducible repeat first|apply nA|apply nB|apply nC|apply nD|apply nE|apply nF|apply nG (by decide)|apply nH|apply nI|apply nJ))
      obtain rfl : i = ev.length := by omega
      have hnx : nextD ins dn = none := by
        unfold nextD
        rw [List.find?_eq_none]
        intro j hj
        rw [List.mem_range] at hj
        simp [hn j (by omega)]
      refine ⟨(false, dn, lst, v, bs), ⟨hdl, hb0, hb1, hov, hcn, (fun e => by cases e), fun _ => by rw [hline, lineD_none hnx, List.append_nil]⟩, by show 2 * dn.count false + 0 < 2 * dn.count false + 1; omega, ?_⟩
      exact Less.wk (by (repeat refine Less.upd ?_ (by rfl)); exact Less.nil)
  · (refine EX.exit ?_; (with_reducible repeat first|apply nA|apply nB|apply nC|apply nD|apply nE|apply nF|apply nG (by decide)|apply nH|apply nI|apply nJ))
    subst hag
    rw [hF rfl]
    (refine EX.rg (by intro KK hkk; unfold f76_r13; simp only [SX, Nat.reduceEqDiff, ↓reduceIte, Nat.reduceSub, Nat.reduceAdd, Nat.reduceLT, Nat.reduceLeDiff, I.quiet, false_implies, implies_true, -List.reduceReplicate]; exact hkk) ?_)
    refine EX.wk ?_ (hov.retR (r := 4) hw (by omega) rfl)
    ((with_reducible repeat first|apply EX.seq|apply EX.blk); refine EX.ret ?_; (with_reducible repeat first|apply nA|apply nB|apply nC|apply nD|apply nE|apply nF|apply nG (by decide)|apply nH|apply nI|apply nJ); refine ⟨_, rfl, ?_⟩; simp only [packV, upd, Nat.reduceEqDiff, reduceIte, if_true, if_false, Nat.one_ne_zero, Nat.zero_ne_one])
    exact ⟨trivial, [], (app_nil hw).symm⟩
end
end Go.Proofs.Ythofdojknjhpgaa
set_option linter.unusedVariables false
set_option linter.unusedSimpArgs false
namespace Go.Proofs.Ythofdojknjhpgaa
open Go
section
variable {h : AH} {B : Nat} {first : List Int} {ev : List (Int × Int)} {ins : List (List Int)} {at' : List Int}
def openD (ins : List (List Int)) (dn : List Bool) : Bool := (List.range dn.length).any fun i => rd dn i && (rd ins i).any (notD dn)
/-- 'graph.open'. -/
theorem f103_ok (hg : GOk ev ins) (hat : ∀ e ∈ ev, 0 ≤ e.1 ∧ e.1.toNat < at'.length) : AC Go.Proofs.Try.prog 103 [gV first ev ins, L at'] h (.bool (openD ins (doneL ev at'))) h := by
  obtain ⟨hil, hsm, hrg⟩ := hg
  refine AC.wf fun hw => AC.of_app hw Cl.bool ?_
  refine EC.intro f103_is ?_
  unfold f103_c
  have c75 := f75_ok (h := h) (first := first) (ins := ins) hsm hat
  have hdl : (doneL ev at').length = ev.length := by simp [doneL]
  generalize hdn0 : doneL ev at' = dn at *
  (refine EX.rg (by intro KK hkk; unfold f103_r0; simp only [SX, Nat.reduceEqDiff, ↓reduceIte, Nat.reduceSub, Nat.reduceAdd, Nat.reduceLT, Nat.reduceLeDiff, I.quiet, false_implies, implies_true, -List.reduceReplicate]; exact hkk) ?_)
  refine EX.rg (by intro KK hkk; unfold f103_r1; simp only [SX, Nat.reduceEqDiff, ↓reduceIte, Nat.reduceSub, Nat.reduceAdd, Nat.reduceLT, Nat.reduceLeDiff, I.quiet, false_implies, implies_true, -List.reduceReplicate]; refine RO_callE (c75) ?_; simp only [SX, Nat.reduceEqDiff, ↓reduceIte, Nat.reduceSub, Nat.reduceAdd, Nat.reduceLT, Nat.reduceLeDiff, I.quiet, false_implies, implies_true, -List.reduceReplicate, new_app hw, hw.roi, stAt_row, Nat.lt_succ_self]; exact hkk) ?_
  (refine EX.rg (by intro KK hkk; unfold f103_r2; simp only [SX, Nat.reduceEqDiff, ↓reduceIte, Nat.reduceSub, Nat.reduceAdd, Nat.reduceLT, Nat.reduceLeDiff, I.quiet, false_implies, implies_true, -List.reduceReplicate, nil1_gV, fa1_gV1, ld1_fp]; exact hkk) ?_)
  (with_reducible repeat first|apply EX.seq|apply EX.blk)
  refine EX.loop (σ := Nat) (fun i => upd (upd (upd (upd TE 0 (gV first ev ins)) 5 (.pointer (some ⟨h.next + 1, 0, none⟩))) 14 (.int .i64 ev.length)) 15 (.int .i64 (i : Nat))) (fun _ => h.app [some (.row 4 1 (F dn)), some (.row 116 0 [.slice (some ⟨h.next, 0, none⟩) ev.length ev.length])])
    (fun i => i ≤ ev.length ∧ ∀ j, j < i → (rd dn j && (rd ins j).any (notD dn)) = false) (fun i => ev.length - i) 0 ⟨Nat.zero_le _, fun j hj => by omega⟩ (Less.wk (by (repeat refine Less.upd ?_ (by rfl)); exact Less.nil)) ?_
  rintro i ⟨hi, hn⟩
  (refine EX.rg (by intro KK hkk; unfold f103_r3; simp only [SX, Nat.reduceEqDiff, ↓reduceIte, Nat.reduceSub, Nat.reduceAdd, Nat.reduceLT, Nat.reduceLeDiff, I.quiet, false_implies, implies_true, -List.reduceReplicate, lt_nat]; exact hkk) ?_)
  (with_reducible repeat first|apply EX.seq|apply EX.blk)
  refine EX.dec rfl (fun hlt => ?_) (fun hlt => ?_)
  · (refine EX.skip ?_; (with_reducible repeat first|apply nA|apply nB|apply nC|apply nD|apply nE|apply nF|apply nG (by decide)|apply nH|apply nI|apply nJ))
    (refine EX.rg (by intro KK hkk; unfold f103_r4; simp only [SX, Nat.reduceEqDiff, ↓reduceIte, Nat.reduceSub, Nat.reduceAdd, Nat.reduceLT, Nat.reduceLeDiff, I.quiet, false_implies, implies_true, -List.reduceReplicate]; exact hkk) ?_)
    have hid : i < dn.length := by omega
    have hii : i < ins.length := by omega
    have c104 : AC Go.Proofs.Try.prog 104 [L (rd ins i), .func (.func 116) #[] [.pointer (some ⟨h.next + 1, 0, none⟩)].toArray] (h.app [some (.row 4 1 (F dn)), some (.row 116 0 [.slice (some ⟨h.next, 0, none⟩) ev.length ev.length])]) (.bool ((rd ins i).any (notD dn))) (h.app [some (.row 4 1 (F dn)), some (.row 116 0 [.slice (some ⟨h.next, 0, none⟩) ev.length ev.length])]) := f104_ok okF116 fun x hx => by
      obtain ⟨x0, x1⟩ := hrg _ (rd_mem hii) x hx
      exact f116_ok (by rw [app_get]; rfl) (by rw [app_get0]; rfl) hdl x0 x1
    have hn1 : (rd dn i && (rd ins i).any (notD dn)) = false → ∀ j, j < i + 1 → (rd dn j && (rd ins j).any (notD dn)) = false := fun h1 j hj => by
      rcases Nat.lt_or_ge j i with h3 | h3
      · exact hn j h3
      · obtain rfl : j = i := by omega
        exact h1
    cases hb : rd dn i with
    | false =>
      (refine EX.rg (by intro KK hkk; unfold f103_r5; simp only [SX, Nat.reduceEqDiff, ↓reduceIte, Nat.reduceSub, Nat.reduceAdd, Nat.reduceLT, Nat.reduceLeDiff, I.quiet, false_implies, implies_true, -List.reduceReplicate, ias1_own hlt, F_getb hid, hb]; exact hkk) ?_)
      refine EX.condF rfl ?_
      (refine EX.skip ?_; (with_reducible repeat first|apply nA|apply nB|apply nC|apply nD|apply nE|apply nF|apply nG (by decide)|apply nH|apply nI|apply nJ))
      (refine EX.rg (by intro KK hkk; unfold f103_r7; simp only [SX, Nat.reduceEqDiff, ↓reduceIte, Nat.reduceSub, Nat.reduceAdd, Nat.reduceLT, Nat.reduceLeDiff, I.quiet, false_implies, implies_true, -List.reduceReplicate, wrap_nat (show i < 4611686018427387904 by omega)]; exact hkk) ?_)
      exact ⟨i + 1, ⟨hlt, hn1 (by simp [hb])⟩, by omega, Less.wk (by (repeat refine Less.upd ?_ (by rfl)); exact Less.nil)⟩
    | true =>
      refine EX.rg (by intro KK hkk; unfold f103_r5; simp only [SX, Nat.reduceEqDiff, ↓reduceIte, Nat.reduceSub, Nat.reduceAdd, Nat.reduceLT, Nat.reduceLeDiff, I.quiet, false_implies, implies_true, -List.reduceReplicate, ias1_own hlt, F_getb hid, hb, nil1_gV, fa1_gV2, ld1_fp, hii, ld1_ef hii o1l]; refine RO_callvS c104 ?_; simp only [SX, Nat.reduceEqDiff, ↓reduceIte, Nat.reduceSub, Nat.reduceAdd, Nat.reduceLT, Nat.reduceLeDiff, I.quiet, false_implies, implies_true, -List.reduceReplicate]; exact hkk) ?_
      refine EX.ite rfl (fun hc => ?_) (fun hc => ?_)
      · (refine EX.rg (by intro KK hkk; unfold f103_r6; simp only [SX, Nat.reduceEqDiff, ↓reduceIte, Nat.reduceSub, Nat.reduceAdd, Nat.reduceLT, Nat.reduceLeDiff, I.quiet, false_implies, implies_true, -List.reduceReplicate]; exact hkk) ?_)
        ((with_reducible repeat first|apply EX.seq|apply EX.blk); refine EX.ret ?_; (with_reducible repeat first|apply nA|apply nB|apply nC|apply nD|apply nE|apply nF|apply nG (by decide)|apply nH|apply nI|apply nJ); refine ⟨_, rfl, ?_⟩; simp only [packV, upd, Nat.reduceEqDiff, reduceIte, if_true, if_false, Nat.one_ne_zero, Nat.zero_ne_one])
        refine ⟨?_, _, rfl⟩
        have : openD ins dn = true := List.any_eq_true.2 ⟨i, List.mem_range.2 hid, by rw [hb, hc]; rfl⟩
        rw [this]
      · (refine EX.skip ?_; (with_reducible repeat first|apply nA|apply nB|apply nC|apply nD|apply nE|apply nF|apply nG (by decide)|apply nH|apply nI|apply nJ))
        (refine EX.rg (by intro KK hkk; unfold f103_r7; simp only [SX, Nat.reduceEqDiff, ↓reduceIte, Nat.reduceSub, Nat.reduceAdd, Nat.reduceLT, Nat.reduceLeDiff, I.quiet, false_implies, implies_true, -List.reduceReplicate, wrap_nat (show i < 4611686018427387904 by omega)]; exact hkk) ?_)
        exact ⟨i + 1, ⟨hlt, hn1 (by rw [hb, hc]; rfl)⟩, by omega, Less.wk (by (repeat refine Less.upd ?_ (by rfl)); exact Less.nil)⟩
  · (refine EX.exit ?_; (with_reducible repeat first|apply nA|apply nB|apply nC|apply nD|apply nE|apply nF|apply nG (by decide)|apply nH|apply nI|apply nJ))
    obtain rfl : i = ev.length := by omega
    (refine EX.rg (by intro KK hkk; unfold f103_r8; simp only [SX, Nat.reduceEqDiff, ↓reduceIte, Nat.reduceSub, Nat.reduceAdd, Nat.reduceLT, Nat.reduceLeDiff, I.quiet, false_implies, implies_true, -List.reduceReplicate]; exact hkk) ?_)
    ((with_reducible repeat first|apply EX.seq|apply EX.blk); refine EX.ret ?_; (with_reducible repeat first|apply nA|apply nB|apply nC|apply nD|apply nE|apply nF|apply nG (by decide)|apply nH|apply nI|apply nJ); refine ⟨_, rfl, ?_⟩; simp only [packV, upd, Nat.reduceEqDiff, reduceIte, if_true, if_false, Nat.one_ne_zero, Nat.zero_ne_one])
    refine ⟨?_, _, rfl⟩
    have : openD ins dn = false := List.any_eq_false.2 fun j hj => by
      rw [hn j (by have := List.mem_range.1 hj; omega)]; decide
    rw [this]
/-- 'graph.order'. -/
theorem f70_ok (hg : GOk ev ins) (hat : ∀ e ∈ ev, 0 ≤ e.1 ∧ e.1.toNat < at'.length) : AC Go.Proofs.Try.prog 70 [gV first ev ins, L at'] h (.tuple #[L (lineD ins ev.length (doneL ev at')), .bool (decide ((lineD ins ev.length (doneL ev at')).length = (doneL ev at').count false) && !openD ins (doneL ev at'))]) h := by
  have hsm := hg.small
  have hcl : Cl (.tuple #[L (lineD ins ev.length (doneL ev at')), .bool (decide ((lineD ins ev.length (doneL ev at')).length = (doneL ev at').count false) && !openD ins (doneL ev at'))]) := Cl.tuple (vs := [_, _]) (by
    intro v hv
    simp only [List.mem_cons, List.not_mem_nil, or_false] at hv
    rcases hv with rfl | rfl
    · exact L_cl
    · exact Cl.bool)
  refine AC.wf fun hw => AC.of_app hw hcl ?_
  refine EC.intro f70_is ?_
  unfold f70_c
  have c75 := f75_ok (h := h) (first := first) (ins := ins) hsm hat
  have c76 := fun H : AH => f76_ok (h := H) (first := first) hg hat
  have c103 := fun H : AH => f103_ok (h := H) (first := first) hg hat
  have hdl : (doneL ev at').length = ev.length := by simp [doneL]
  generalize hdn0 : doneL ev at' = dn at *
  have hll : (lineD ins ev.length dn).length = (lineD ins ev.length dn).length := rfl
  generalize lineD ins ev.length dn = lst at *
  (refine EX.rg (by intro KK hkk; unfold f70_r0; simp only [SX, Nat.reduceEqDiff, ↓reduceIte, Nat.reduceSub, Nat.reduceAdd, Nat.reduceLT, Nat.reduceLeDiff, I.quiet, false_implies, implies_true, -List.reduceReplicate]; exact hkk) ?_)
  (refine EX.rg (by intro KK hkk; unfold f70_r1; simp only [SX, Nat.reduceEqDiff, ↓reduceIte, Nat.reduceSub, Nat.reduceAdd, Nat.reduceLT, Nat.reduceLeDiff, I.quiet, false_implies, implies_true, -List.reduceReplicate]; exact hkk) ?_)
  refine EX.rg (by intro KK hkk; unfold f70_r2; simp only [SX, Nat.reduceEqDiff, ↓reduceIte, Nat.reduceSub, Nat.reduceAdd, Nat.reduceLT, Nat.reduceLeDiff, I.quiet, false_implies, implies_true, -List.reduceReplicate]; refine RO_callE (c75) ?_; simp only [SX, Nat.reduceEqDiff, ↓reduceIte, Nat.reduceSub, Nat.reduceAdd, Nat.reduceLT, Nat.reduceLeDiff, I.quiet, false_implies, implies_true, -List.reduceReplicate, new_app hw]; exact hkk) ?_
  (with_reducible repeat first|apply EX.seq|apply EX.blk)
  refine EX.loop (σ := Nat) (fun i => upd (upd (upd (upd (upd (upd TE 0 (gV first ev ins)) 1 (L at')) 6 (.int .i64 ((dn.take i).count false : Nat))) 12 (.slice (some ⟨h.next, 0, none⟩) ev.length ev.length)) 13 (.int .i64 ev.length)) 14 (.int .i64 (i : Nat))) (fun _ => h.app [some (.row 4 1 (F dn))])
    (fun i => i ≤ ev.length) (fun i => ev.length - i) 0 (Nat.zero_le _) (by simp only [List.take_zero, List.count_nil]; exact Less.wk (by (repeat refine Less.upd ?_ (by rfl)); exact Less.nil)) ?_
  intro i hi
  (refine EX.rg (by intro KK hkk; unfold f70_r3; simp only [SX, Nat.reduceEqDiff, ↓reduceIte, Nat.reduceSub, Nat.reduceAdd, Nat.reduceLT, Nat.reduceLeDiff, I.quiet, false_implies, implies_true, -List.reduceReplicate, lt_nat]; exact hkk) ?_)
  (with_reducible repeat first|apply EX.seq|apply EX.blk)
  refine EX.dec rfl (fun hlt => ?_) (fun hlt => ?_)
  · (refine EX.skip ?_; (with_reducible repeat first|apply nA|apply nB|apply nC|apply nD|apply nE|apply nF|apply nG (by decide)|apply nH|apply nI|apply nJ))
    have hid : i < dn.length := by omega
    have hcl : (dn.take i).count false ≤ i := Nat.le_trans List.count_le_length (by simp; omega)
    have htk : dn.take (i + 1) = dn.take i ++ [rd dn i] := by rw [List.take_succ_eq_append_getElem hid, rd_eq hid]
    (refine EX.rg (by intro KK hkk; unfold f70_r4; simp only [SX, Nat.reduceEqDiff, ↓reduceIte, Nat.reduceSub, Nat.reduceAdd, Nat.reduceLT, Nat.reduceLeDiff, I.quiet, false_implies, implies_true, -List.reduceReplicate, ias1_own hlt, F_getb hid]; exact hkk) ?_)
    (refine EX.rg (by intro KK hkk; unfold f70_r5; simp only [SX, Nat.reduceEqDiff, ↓reduceIte, Nat.reduceSub, Nat.reduceAdd, Nat.reduceLT, Nat.reduceLeDiff, I.quiet, false_implies, implies_true, -List.reduceReplicate]; exact hkk) ?_)
    cases hb : rd dn i with
    | true =>
      refine EX.condF rfl ?_
      (refine EX.skip ?_; (with_reducible repeat first|apply nA|apply nB|apply nC|apply nD|apply nE|apply nF|apply nG (by decide)|apply nH|apply nI|apply nJ))
      (refine EX.rg (by intro KK hkk; unfold f70_r7; simp only [SX, Nat.reduceEqDiff, ↓reduceIte, Nat.reduceSub, Nat.reduceAdd, Nat.reduceLT, Nat.reduceLeDiff, I.quiet, false_implies, implies_true, -List.reduceReplicate, wrap_nat (show i < 4611686018427387904 by omega)]; exact hkk) ?_)
      refine ⟨i + 1, hlt, by omega, ?_⟩
      rw [htk, hb]
      simp only [List.count_append, List.count_cons, List.count_nil]
      exact Less.wk (by (repeat refine Less.upd ?_ (by rfl)); exact Less.nil)
    | false =>
      refine EX.condT rfl ?_
      (refine EX.rg (by intro KK hkk; unfold f70_r6; simp only [SX, Nat.reduceEqDiff, ↓reduceIte, Nat.reduceSub, Nat.reduceAdd, Nat.reduceLT, Nat.reduceLeDiff, I.quiet, false_implies, implies_true, -List.reduceReplicate, wrap_nat (show (dn.take i).count false < 4611686018427387904 by omega)]; exact hkk) ?_)
      (refine EX.rg (by intro KK hkk; unfold f70_r7; simp only [SX, Nat.reduceEqDiff, ↓reduceIte, Nat.reduceSub, Nat.reduceAdd, Nat.reduceLT, Nat.reduceLeDiff, I.quiet, false_implies, implies_true, -List.reduceReplicate, wrap_nat (show i < 4611686018427387904 by omega)]; exact hkk) ?_)
      refine ⟨i + 1, hlt, by omega, ?_⟩
      rw [htk, hb]
      simp only [List.count_append, List.count_cons, List.count_nil]
      exact Less.wk (by (repeat refine Less.upd ?_ (by rfl)); exact Less.nil)
  · (refine EX.exit ?_; (with_reducible repeat first|apply nA|apply nB|apply nC|apply nD|apply nE|apply nF|apply nG (by decide)|apply nH|apply nI|apply nJ))
    obtain rfl : i = ev.length := by omega
    rw [List.take_of_length_le (by omega)]
    (refine EX.rg (by intro KK hkk; unfold f70_r8; simp only [SX, Nat.reduceEqDiff, ↓reduceIte, Nat.reduceSub, Nat.reduceAdd, Nat.reduceLT, Nat.reduceLeDiff, I.quiet, false_implies, implies_true, -List.reduceReplicate]; refine RO_callvS (c76 _) ?_; simp only [SX, Nat.reduceEqDiff, ↓reduceIte, Nat.reduceSub, Nat.reduceAdd, Nat.reduceLT, Nat.reduceLeDiff, I.quiet, false_implies, implies_true, -List.reduceReplicate]; exact hkk) ?_)
    cases hd : decide (lst.length = dn.count false) with
    | false =>
      (refine EX.rg (by intro KK hkk; unfold f70_r9; simp only [SX, Nat.reduceEqDiff, ↓reduceIte, Nat.reduceSub, Nat.reduceAdd, Nat.reduceLT, Nat.reduceLeDiff, I.quiet, false_implies, implies_true, -List.reduceReplicate, eq_nat, hd]; exact hkk) ?_)
      ((with_reducible repeat first|apply EX.seq|apply EX.blk); refine EX.ret ?_; (with_reducible repeat first|apply nA|apply nB|apply nC|apply nD|apply nE|apply nF|apply nG (by decide)|apply nH|apply nI|apply nJ); refine ⟨_, rfl, ?_⟩; simp only [packV, upd, Nat.reduceEqDiff, reduceIte, if_true, if_false, Nat.one_ne_zero, Nat.zero_ne_one])
      refine ⟨?_, _, rfl⟩
      rw [Bool.false_and]
    | true =>
      (refine EX.rg (by intro KK hkk; unfold f70_r9; simp only [SX, Nat.reduceEqDiff, ↓reduceIte, Nat.reduceSub, Nat.reduceAdd, Nat.reduceLT, Nat.reduceLeDiff, I.quiet, false_implies, implies_true, -List.reduceReplicate, eq_nat, hd]; refine RO_callvS (c103 _) ?_; simp only [SX, Nat.reduceEqDiff, ↓reduceIte, Nat.reduceSub, Nat.reduceAdd, Nat.reduceLT, Nat.reduceLeDiff, I.quiet, false_implies, implies_true, -List.reduceReplicate, eq_nat, hd]; exact hkk) ?_)
      ((with_reducible repeat first|apply EX.seq|apply EX.blk); refine EX.ret ?_; (with_reducible repeat first|apply nA|apply nB|apply nC|apply nD|apply nE|apply nF|apply nG (by decide)|apply nH|apply nI|apply nJ); refine ⟨_, rfl, ?_⟩; simp only [packV, upd, Nat.reduceEqDiff, reduceIte, if_true, if_false, Nat.one_ne_zero, Nat.zero_ne_one])
      refine ⟨?_, _, rfl⟩
      rw [Bool.true_and]
end
end Go.Proofs.Ythofdojknjhpgaa
set_option linter.unusedVariables false
set_option linter.unusedSimpArgs false
namespace Go.Proofs.Ythofdojknjhpgaa
open Go
/-- An arc of 'precedence'. -/
structure PArc where
  f : Int × Int
  t : Int × Int
deriving Inhabited, DecidableEq
instance : Enc PArc where
  w := 4
  cells a := [.int .i64 a.f.1, .int .i64 a.f.2, .int .i64 a.t.1, .int .i64 a.t.2]
  bd _ := True
  len _ := rfl
  pos := by decide
  one _ := rfl
  cl a v hv := by
    simp only [List.mem_cons, List.not_mem_nil, or_false] at hv
    rcases hv with rfl | rfl | rfl | rfl <;> exact Cl.int
  vbd _ _ _ _ _ := trivial
theorem warc : Enc.w PArc = 4 := rfl
theorem cells_arc {a : PArc} : Enc.cells a = [.int .i64 a.f.1, .int .i64 a.f.2, .int .i64 a.t.1, .int .i64 a.t.2] := nr rfl
def stP (ps : List (List Stg)) (u : Int × Int) : Stg := rd (rd ps u.1.toNat) u.2.toNat
def endM (ps : List (List Stg)) (r : Int) (u : Int × Int) : Int := if (stP ps u).sec = r then u.2 + 1 else u.2
def arcsI (ps : List (List Stg)) (r : Int) (u : Int × Int) (vs : List (Int × Int)) : Nat → List PArc
  | 0 => []
  | j + 1 => arcsI ps r u vs j ++ if (rd vs j).1 ≠ u.1 then [⟨(u.1, endM ps r u), rd vs j⟩] else []
def arcsO (ps : List (List Stg)) (o : Ordr) : Nat → List PArc
  | 0 => []
  | i + 1 => arcsO ps o i ++ arcsI ps o.res (rd o.uses i) (o.uses.drop (i + 1)) (o.uses.drop (i + 1)).length
instance : Inhabited Ordr := ⟨⟨0, []⟩⟩
def arcsA (ps : List (List Stg)) (os : List Ordr) : Nat → List PArc
  | 0 => []
  | k + 1 => arcsA ps os k ++ arcsO ps (rd os k) (rd os k).uses.length
def UseOk (ps : List (List Stg)) (u : Int × Int) : Prop := 0 ≤ u.1 ∧ u.1.toNat < ps.length ∧ 0 ≤ u.2 ∧ u.2.toNat < (rd ps u.1.toNat).length
structure OsA (ps : List (List Stg)) (os : List Ordr) : Prop where
  len : os.length ≤ 144
  ul : ∀ o ∈ os, o.uses.length ≤ 2000
  ok : ∀ o ∈ os, ∀ u ∈ o.uses, UseOk ps u
theorem arcsI_len {ps : List (List Stg)} {r : Int} {u : Int × Int} {vs : List (Int × Int)} : ∀ j, (arcsI ps r u vs j).length ≤ j
  | 0 => Nat.le_refl _
  | j + 1 => by have := arcsI_len (ps := ps) (r := r) (u := u) (vs := vs) j; rw [arcsI, List.length_append]; split <;> simp <;> omega
theorem arcsO_len {ps : List (List Stg)} {o : Ordr} (ho : o.uses.length ≤ 2000) : ∀ i, (arcsO ps o i).length ≤ i * 2000
  | 0 => Nat.le_refl _
  | i + 1 => by
    have := arcsO_len (ps := ps) ho i
    have h2 := arcsI_len (ps := ps) (r := o.res) (u := rd o.uses i) (vs := o.uses.drop (i + 1)) (o.uses.drop (i + 1)).length
    rw [arcsO, List.length_append]
    have : (o.uses.drop (i + 1)).length ≤ 2000 := by simp; omega
    omega
theorem arcsA_len {ps : List (List Stg)} {os : List Ordr} (ho : ∀ o ∈ os, o.uses.length ≤ 2000) : ∀ k, k ≤ os.length → (arcsA ps os k).length ≤ k * 4000000
  | 0, _ => Nat.le_refl _
  | k + 1, hk => by
    have h1 := arcsA_len (ps := ps) ho k (by omega)
    have hm := ho _ (rd_mem (show k < os.length by omega))
    have h2 := arcsO_len (ps := ps) hm (rd os k).uses.length
    rw [arcsA, List.length_append]
    have : (rd os k).uses.length * 2000 ≤ 4000000 := by omega
    omega
theorem RD_ldsfw {P : Program} {T : Tm} {h : AH} {K : Tm → AH → Prop} {ds : List DOp} {x : Opd} {hs : List AH} {pd : List Pend} {n f s : Nat} : RD P (⟨⟨some n, none, .ins (.ld (some s) x)⟩, 0, f + 1⟩ :: ds) hs pd T h K = thenI ((I.ld (some s) x).run T h) fun v h1 => RD P ds hs ((f + 1, ⟨some n, none, .ins (.ld (some s) x)⟩, T, v) :: pd) (upd T n v) h1 K := RD_fwq rfl
theorem fill_2a {a b x0 x1 x2 x3 : Value} : fill1 [x0, x1, x2, x3] 0 2 (.agg [a, b].toArray) = some [a, b, x2, x3] := nr (by simp [fill1, cellsOf, splice, isK])
theorem fill_2b {a b x0 x1 x2 x3 : Value} : fill1 [x0, x1, x2, x3] 2 2 (.agg [a, b].toArray) = some [x0, x1, a, b] := nr (by simp [fill1, cellsOf, splice, isK])
section
variable {h : AH} {bs : List (Option Blk)} {T : Tm}
theorem OwnG.ext {α : Type} [Enc α] {t : TypeId} {n : Nat} {l : List (Option Blk)} {v : Value} {xs : List α} (o : OwnG t n bs v xs) : OwnG t n (bs ++ l) v xs := o.keep fun _ _ hk => (List.getElem?_append_left (getElem?_lt hk)).trans hk
theorem get_ext {l : List (Option Blk)} {i : Nat} {b : Option Blk} (hb : bs[i]? = some b) : (bs ++ l)[i]? = some b := (List.getElem?_append_left (getElem?_lt hb)).trans hb
theorem use_nat {ps : List (List Stg)} {u : Int × Int} (hu : UseOk ps u) : ∃ t k : Nat, u = ((t : Int), (k : Int)) ∧ t < ps.length ∧ k < (rd ps t).length := by
  obtain ⟨h1, h2, h3, h4⟩ := hu
  obtain ⟨a, b⟩ := u
  simp only at h1 h2 h3 h4
  exact ⟨a.toNat, b.toNat, by rw [Int.toNat_of_nonneg h1, Int.toNat_of_nonneg h3], h2, h4⟩
theorem f85_ok' {ps : List (List Stg)} {r : Int} {u : Int × Int} (hu : UseOk ps u) : AC Go.Proofs.Try.prog 85 [L ps, .int .i64 r, rvA u] h (.int .i64 (endM ps r u)) h := by
  obtain ⟨t, k, rfl, ht, hk⟩ := use_nat hu
  rw [rd_eq ht] at hk
  have := f85_ok (h := h) (r := r) ht hk
  have e : endM ps r ((t : Int), (k : Int)) = if ps[t][k].sec = r then (k : Int) + 1 else (k : Int) := by
    simp only [endM, stP, Int.toNat_natCast, rd_eq ht, rd_eq hk]
  rw [e]; exact this
/-- 'arcs', its drawn region. -/
theorem f101_r8_ok {m n0 i7 i9 : Nat} {ps : List (List Stg)} {o : Ordr} {u : Int × Int} {Q : Exit → Tm → AH → Prop} (hw : Wf h) (hu : UseOk ps u) (b7 : bs[i7]? = some (some (.row 45 0 [.int .i64 o.res, L o.uses]))) (b9 : bs[i9]? = some (some (.row 48 0 [.int .i64 u.1, .int .i64 u.2])))
    (t0 : T 0 = L ps) (t7 : T 7 = .pointer (some ⟨h.next + i7, 0, none⟩)) (t9 : T 9 = .pointer (some ⟨h.next + i9, 0, none⟩))
    (k : ∀ T2 : Tm, (∀ j, j < 10 ∨ (10 < j ∧ j < 27) ∨ 34 < j → T2 j = T j) → T2 10 = .pointer (some ⟨h.next + bs.length, 0, none⟩) → Q .normal T2 (h.app (bs ++ [some (.row 48 0 [.int .i64 u.1, .int .i64 (endM ps o.res u)])]))) : EX Go.Proofs.Try.prog m n0 (.drw f101_r8) T (h.app bs) Q := by
  have c85 := fun H : AH => f85_ok' (h := H) (r := o.res) hu
  refine EX.drwx (by
    intro KK hkk; unfold f101_r8
    simp only [SX, Nat.reduceEqDiff, ↓reduceIte, Nat.reduceSub, Nat.reduceAdd, Nat.reduceLT, Nat.reduceLeDiff, I.quiet, false_implies, implies_true, -List.reduceReplicate, t0, t7, t9, RD_ldfw, RD_ldsfw, b7, b9, ldsAt_row, Nat.le_refl]
    refine RD_callqS (c85 _) (fun g _ => c85 g) ?_
    simp only [SX, Nat.reduceEqDiff, ↓reduceIte, Nat.reduceSub, Nat.reduceAdd, Nat.reduceLT, Nat.reduceLeDiff, I.quiet, false_implies, implies_true, -List.reduceReplicate, t0, t7, t9, decP_1, List.mem_cons, List.not_mem_nil, or_false, forall_eq_or_imp, forall_eq, step_ins, step_callq, run_ld, run_lds, get_ext b7, get_ext b9, ldsAt_row, Nat.le_refl, hw.roi, stAt_all, get_last, set_last, lt_last]
    exact ⟨by simp, ⟨⟨c85 _, trivial⟩, trivial⟩, by simp, hkk⟩) ?_
  refine k _ (fun j hj => ?_) rfl
  simp only [upd]
  repeat rw [if_neg (by omega)]
/-- 'arcs'. -/
theorem f101_ok {ps : List (List Stg)} {os : List Ordr} (hp : PathsA ps) (ho : OsA ps os) : AC Go.Proofs.Try.prog 101 [L ps, L os] h (L (arcsA ps os os.length)) h := by
  have lo := ho.len
  refine AC.wf fun hw => AC.of_app hw L_cl ?_
  refine EC.intro f101_is ?_
  unfold f101_c
  (refine EX.rg (by intro KK hkk; unfold f101_r0; simp only [SX, Nat.reduceEqDiff, ↓reduceIte, Nat.reduceSub, Nat.reduceAdd, Nat.reduceLT, Nat.reduceLeDiff, I.quiet, false_implies, implies_true, -List.reduceReplicate]; exact hkk) ?_)
  (refine EX.rg (by intro KK hkk; unfold f101_r1; simp only [SX, Nat.reduceEqDiff, ↓reduceIte, Nat.reduceSub, Nat.reduceAdd, Nat.reduceLT, Nat.reduceLeDiff, I.quiet, false_implies, implies_true, -List.reduceReplicate]; exact hkk) ?_)
  (refine EX.rg (by intro KK hkk; unfold f101_r2; simp only [SX, Nat.reduceEqDiff, ↓reduceIte, Nat.reduceSub, Nat.reduceAdd, Nat.reduceLT, Nat.reduceLeDiff, I.quiet, false_implies, implies_true, -List.reduceReplicate]; exact hkk) ?_)
  (with_reducible repeat first|apply EX.seq|apply EX.blk)
  refine EX.loop (σ := Nat × Value × List (Option Blk)) (fun s => upd (upd (upd (upd (upd TE 0 (L ps)) 5 s.2.1) 13 (L os)) 14 (.int .i64 os.length)) 15 (.int .i64 (s.1 : Nat))) (fun s => h.app s.2.2)
    (fun s => s.1 ≤ os.length ∧ OwnG 140 h.next s.2.2 s.2.1 (arcsA ps os s.1)) (fun s => os.length - s.1) (0, .slice none 0 0, []) ⟨Nat.zero_le _, .inl ⟨rfl, rfl⟩⟩ (by rw [app_nil hw]; exact Less.wk (by (repeat refine Less.upd ?_ (by rfl)); exact Less.nil)) ?_
  rintro ⟨k, v, bs⟩ ⟨hk, hov⟩
  simp only at hk hov
  (refine EX.rg (by intro KK hkk; unfold f101_r3; simp only [SX, Nat.reduceEqDiff, ↓reduceIte, Nat.reduceSub, Nat.reduceAdd, Nat.reduceLT, Nat.reduceLeDiff, I.quiet, false_implies, implies_true, -List.reduceReplicate, lt_nat]; exact hkk) ?_)
  (with_reducible repeat first|apply EX.seq|apply EX.blk)
  refine EX.dec rfl (fun hlt => ?_) (fun hlt => ?_)
  · (refine EX.skip ?_; (with_reducible repeat first|apply nA|apply nB|apply nC|apply nD|apply nE|apply nF|apply nG (by decide)|apply nH|apply nI|apply nJ))
    have hom := rd_mem hlt
    have hul := ho.ul _ hom
    have huo := ho.ok _ hom
    have hal := arcsA_len (ps := ps) ho.ul k hk
    have hef : ∀ H : AH, lds1 2 (ef os k 0) H = some (.agg #[.int .i64 (rd os k).res, L (rd os k).uses], H) := fun H => by
      rw [lds1_ef hlt (Nat.le_refl 2)]; rfl
    have hnx : arcsA ps os (k + 1) = arcsA ps os k ++ arcsO ps (rd os k) (rd os k).uses.length := rfl
    (refine EX.rg (by intro KK hkk; unfold f101_r4; simp only [SX, Nat.reduceEqDiff, ↓reduceIte, Nat.reduceSub, Nat.reduceAdd, Nat.reduceLT, Nat.reduceLeDiff, I.quiet, false_implies, implies_true, -List.reduceReplicate, hlt, wordr, hef, hw.roi, stAt_all, get_last, set_last, lt_last]; exact hkk) ?_)
    generalize rd os k = o at *
    have b7 : (bs ++ [some (Blk.row 45 0 [.int .i64 o.res, L o.uses])])[bs.length]? = some (some (.row 45 0 [.int .i64 o.res, L o.uses])) := get_last
    have hov1 := hov.ext (l := [some (Blk.row 45 0 [.int .i64 o.res, L o.uses])])
    generalize hbs1 : bs ++ [some (Blk.row 45 0 [.int .i64 o.res, L o.uses])] = bs1 at *
    generalize hi7 : bs.length = i7 at *
    (refine EX.rg (by intro KK hkk; unfold f101_r5; simp only [SX, Nat.reduceEqDiff, ↓reduceIte, Nat.reduceSub, Nat.reduceAdd, Nat.reduceLT, Nat.reduceLeDiff, I.quiet, false_implies, implies_true, -List.reduceReplicate, b7]; exact hkk) ?_)
    refine EX.cutR (F := fun T1 H1 => ∃ v2 bs2, T1 0 = L ps ∧ T1 5 = v2 ∧ T1 13 = L os ∧ T1 14 = .int .i64 os.length ∧ T1 15 = .int .i64 (k : Nat) ∧ H1 = h.app bs2 ∧ OwnG 140 h.next bs2 v2 (arcsA ps os (k + 1))) ?_ ?_
    · (with_reducible repeat first|apply EX.seq|apply EX.blk)
      refine EX.loop (σ := Nat × Value × List (Option Blk)) (fun s => upd (upd (upd (upd (upd (upd (upd (upd (upd TE 0 (L ps)) 5 s.2.1) 7 (.pointer (some ⟨h.next + i7, 0, none⟩))) 13 (L os)) 14 (.int .i64 os.length)) 15 (.int .i64 (k : Nat))) 20 (L o.uses)) 21 (.int .i64 o.uses.length)) 22 (.int .i64 (s.1 : Nat))) (fun s => h.app s.2.2)
        (fun s => s.1 ≤ o.uses.length ∧ OwnG 140 h.next s.2.2 s.2.1 (arcsA ps os k ++ arcsO ps o s.1) ∧ s.2.2[i7]? = some (some (.row 45 0 [.int .i64 o.res, L o.uses]))) (fun s => o.uses.length - s.1) (0, v, bs1) ⟨Nat.zero_le _, by rw [arcsO, List.append_nil]; exact hov1, b7⟩ (Less.wk (by (repeat refine Less.upd ?_ (by rfl)); exact Less.nil)) ?_
      rintro ⟨i, v3, bs3⟩ ⟨hi, hov3, c7⟩
      simp only at hi hov3 c7
      (refine EX.rg (by intro KK hkk; unfold f101_r6; simp only [SX, Nat.reduceEqDiff, ↓reduceIte, Nat.reduceSub, Nat.reduceAdd, Nat.reduceLT, Nat.reduceLeDiff, I.quiet, false_implies, implies_true, -List.reduceReplicate, lt_nat]; exact hkk) ?_)
      (with_reducible repeat first|apply EX.seq|apply EX.blk)
      refine EX.dec rfl (fun hli => ?_) (fun hli => ?_)
      · (refine EX.skip ?_; (with_reducible repeat first|apply nA|apply nB|apply nC|apply nD|apply nE|apply nF|apply nG (by decide)|apply nH|apply nI|apply nJ))
        have huu := huo _ (rd_mem hli)
        have hnu : arcsO ps o (i + 1) = arcsO ps o i ++ arcsI ps o.res (rd o.uses i) (o.uses.drop (i + 1)) (o.uses.drop (i + 1)).length := rfl
        have hol := arcsO_len (ps := ps) hul i
        (refine EX.rg (by intro KK hkk; unfold f101_r7; simp only [SX, Nat.reduceEqDiff, ↓reduceIte, Nat.reduceSub, Nat.reduceAdd, Nat.reduceLT, Nat.reduceLeDiff, I.quiet, false_implies, implies_true, -List.reduceReplicate, hli, wref, lds_ref hli, hw.roi, stAt_all, get_last, set_last, lt_last]; exact hkk) ?_)
        generalize hu : rd o.uses i = u at *
        have b9 : (bs3 ++ [some (Blk.row 48 0 [.int .i64 u.1, .int .i64 u.2])])[bs3.length]? = some (some (.row 48 0 [.int .i64 u.1, .int .i64 u.2])) := get_last
        (with_reducible repeat first|apply EX.seq|apply EX.blk)
        refine f101_r8_ok hw huu (get_ext c7) b9 rfl rfl rfl (fun T2 hT u10 => ?_)
        have u0 := (hT 0 (.inl (by decide))).trans rfl
        have u5 := (hT 5 (.inl (by decide))).trans rfl
        have u7 := (hT 7 (.inl (by decide))).trans rfl
        have u8 := (hT 8 (.inl (by decide))).trans rfl
        have u9 := (hT 9 (.inl (by decide))).trans rfl
        have u13 := (hT 13 (.inr (.inl (by decide)))).trans rfl
        have u14 := (hT 14 (.inr (.inl (by decide)))).trans rfl
        have u15 := (hT 15 (.inr (.inl (by decide)))).trans rfl
        have u20 := (hT 20 (.inr (.inl (by decide)))).trans rfl
        have u21 := (hT 21 (.inr (.inl (by decide)))).trans rfl
        have u22 := (hT 22 (.inr (.inl (by decide)))).trans rfl
        simp only [upd, Nat.reduceEqDiff, reduceIte] at u0 u5 u7 u8 u9 u13 u14 u15 u20 u21 u22
        clear hT
        (with_reducible repeat first|apply nA|apply nB|apply nC|apply nD|apply nE|apply nF|apply nG (by decide)|apply nH|apply nI|apply nJ)
        have c7' := get_ext (l := [some (Blk.row 48 0 [.int .i64 u.1, .int .i64 (endM ps o.res u)])]) (get_ext (l := [some (Blk.row 48 0 [.int .i64 u.1, .int .i64 u.2])]) c7)
        have c9' := get_ext (l := [some (Blk.row 48 0 [.int .i64 u.1, .int .i64 (endM ps o.res u)])]) b9
        have c10' : ((bs3 ++ [some (Blk.row 48 0 [.int .i64 u.1, .int .i64 u.2])]) ++ [some (Blk.row 48 0 [.int .i64 u.1, .int .i64 (endM ps o.res u)])])[(bs3 ++ [some (Blk.row 48 0 [.int .i64 u.1, .int .i64 u.2])]).length]? = some (some (.row 48 0 [.int .i64 u.1, .int .i64 (endM ps o.res u)])) := get_last
        have hov4 := (hov3.ext (l := [some (Blk.row 48 0 [.int .i64 u.1, .int .i64 u.2])])).ext (l := [some (Blk.row 48 0 [.int .i64 u.1, .int .i64 (endM ps o.res u)])])
        generalize (bs3 ++ [some (Blk.row 48 0 [.int .i64 u.1, .int .i64 u.2])]) ++ [some (Blk.row 48 0 [.int .i64 u.1, .int .i64 (endM ps o.res u)])] = bs4 at *
        generalize (bs3 ++ [some (Blk.row 48 0 [.int .i64 u.1, .int .i64 u.2])]).length = i10 at *
        generalize bs3.length = i9 at *
        have hw1 : IntKind.wrap .i64 ((i : Int) + 1) = ((i + 1 : Nat) : Int) := wrap_nat (by omega)
        have hsl : ∀ H : AH, sls1 2 (L o.uses) (some (.int .i64 ((i + 1 : Nat) : Int))) none H = some (L (o.uses.drop (i + 1)), H) := fun H => by
          have := sls1_Lr (h := H) (xs := o.uses) (e := 2) (k := .i64) (j := ((i + 1 : Nat) : Int)) rfl (by omega) (by omega)
          simpa only [Int.toNat_natCast] using this
        (refine EX.rg (by intro KK hkk; unfold f101_r9; simp only [SX, Nat.reduceEqDiff, ↓reduceIte, Nat.reduceSub, Nat.reduceAdd, Nat.reduceLT, Nat.reduceLeDiff, I.quiet, false_implies, implies_true, -List.reduceReplicate, u7, u8, c7', hw1, hsl]; exact hkk) ?_)
        have hdl : (o.uses.drop (i + 1)).length ≤ 2000 := by simp; omega
        have hdm : ∀ x ∈ o.uses.drop (i + 1), x ∈ o.uses := fun x hx => List.mem_of_mem_drop hx
        generalize o.uses.drop (i + 1) = vs at *
        refine EX.cutR (F := fun T1 H1 => ∃ v5 bs5, T1 0 = L ps ∧ T1 5 = v5 ∧ T1 7 = .pointer (some ⟨h.next + i7, 0, none⟩) ∧ T1 13 = L os ∧ T1 14 = .int .i64 os.length ∧ T1 15 = .int .i64 (k : Nat) ∧ T1 20 = L o.uses ∧ T1 21 = .int .i64 o.uses.length ∧ T1 22 = .int .i64 (i : Nat) ∧ H1 = h.app bs5 ∧ OwnG 140 h.next bs5 v5 (arcsA ps os k ++ arcsO ps o (i + 1)) ∧ bs5[i7]? = some (some (.row 45 0 [.int .i64 o.res, L o.uses]))) ?_ ?_
        · (with_reducible repeat first|apply EX.seq|apply EX.blk)
          refine EX.loop (σ := Nat × Value × List (Option Blk)) (fun s => upd (upd (upd (upd (upd (upd (upd (upd (upd (upd (upd (upd (upd (upd TE 0 (L ps)) 5 s.2.1) 7 (.pointer (some ⟨h.next + i7, 0, none⟩))) 9 (.pointer (some ⟨h.next + i9, 0, none⟩))) 10 (.pointer (some ⟨h.next + i10, 0, none⟩))) 13 (L os)) 14 (.int .i64 os.length)) 15 (.int .i64 (k : Nat))) 20 (L o.uses)) 21 (.int .i64 o.uses.length)) 22 (.int .i64 (i : Nat))) 39 (L vs)) 40 (.int .i64 vs.length)) 41 (.int .i64 (s.1 : Nat))) (fun s => h.app s.2.2)
            (fun s => s.1 ≤ vs.length ∧ OwnG 140 h.next s.2.2 s.2.1 (arcsA ps os k ++ (arcsO ps o i ++ arcsI ps o.res u vs s.1)) ∧ s.2.2[i7]? = some (some (.row 45 0 [.int .i64 o.res, L o.uses])) ∧ s.2.2[i9]? = some (some (.row 48 0 [.int .i64 u.1, .int .i64 u.2])) ∧ s.2.2[i10]? = some (some (.row 48 0 [.int .i64 u.1, .int .i64 (endM ps o.res u)]))) (fun s => vs.length - s.1) (0, v3, bs4) ⟨Nat.zero_le _, by rw [arcsI, List.append_nil]; exact hov4, c7', c9', c10'⟩ ?_ ?_
          · refine Less.wk ?_
            refine Less.upd (Less.upd (Less.upd (Less.upd (Less.upd (Less.upd (Less.upd (Less.upd (Less.upd (Less.upd (Less.upd (Less.upd (Less.upd (Less.upd Less.nil ?_) ?_) ?_) ?_) ?_) ?_) ?_) ?_) ?_) ?_) ?_) ?_) ?_) ?_ <;> simp [upd, u0, u5, u7, u9, u10, u13, u14, u15, u20, u21, u22]
          rintro ⟨j, v5, bs5⟩ ⟨hj, hov5, d7, d9, d10⟩
          simp only at hj hov5 d7 d9 d10
          (refine EX.rg (by intro KK hkk; unfold f101_r10; simp only [SX, Nat.reduceEqDiff, ↓reduceIte, Nat.reduceSub, Nat.reduceAdd, Nat.reduceLT, Nat.reduceLeDiff, I.quiet, false_implies, implies_true, -List.reduceReplicate, lt_nat]; exact hkk) ?_)
          (with_reducible repeat first|apply EX.seq|apply EX.blk)
          refine EX.dec rfl (fun hlj => ?_) (fun hlj => ?_)
          · (refine EX.skip ?_; (with_reducible repeat first|apply nA|apply nB|apply nC|apply nD|apply nE|apply nF|apply nG (by decide)|apply nH|apply nI|apply nJ))
            have hvv := rd_mem hlj
            have hil := arcsI_len (ps := ps) (r := o.res) (u := u) (vs := vs) j
            have hni : arcsI ps o.res u vs (j + 1) = arcsI ps o.res u vs j ++ if (rd vs j).1 ≠ u.1 then [⟨(u.1, endM ps o.res u), rd vs j⟩] else [] := rfl
            (refine EX.rg (by intro KK hkk; unfold f101_r11; simp only [SX, Nat.reduceEqDiff, ↓reduceIte, Nat.reduceSub, Nat.reduceAdd, Nat.reduceLT, Nat.reduceLeDiff, I.quiet, false_implies, implies_true, -List.reduceReplicate, hlj, wref, lds_ref hlj, hw.roi, stAt_all, get_last, set_last, lt_last]; exact hkk) ?_)
            generalize rd vs j = x at *
            have e7 := get_ext (l := [some (Blk.row 48 0 [.int .i64 x.1, .int .i64 x.2])]) d7
            have e9 := get_ext (l := [some (Blk.row 48 0 [.int .i64 x.1, .int .i64 x.2])]) d9
            have e10 := get_ext (l := [some (Blk.row 48 0 [.int .i64 x.1, .int .i64 x.2])]) d10
            have e12 : (bs5 ++ [some (Blk.row 48 0 [.int .i64 x.1, .int .i64 x.2])])[bs5.length]? = some (some (.row 48 0 [.int .i64 x.1, .int .i64 x.2])) := get_last
            have hov6 := hov5.ext (l := [some (Blk.row 48 0 [.int .i64 x.1, .int .i64 x.2])])
            generalize bs5 ++ [some (Blk.row 48 0 [.int .i64 x.1, .int .i64 x.2])] = bs6 at *
            generalize bs5.length = i12 at *
            (refine EX.rg (by intro KK hkk; unfold f101_r12; simp only [SX, Nat.reduceEqDiff, ↓reduceIte, Nat.reduceSub, Nat.reduceAdd, Nat.reduceLT, Nat.reduceLeDiff, I.quiet, false_implies, implies_true, -List.reduceReplicate, e12, e9]; exact hkk) ?_)
            (with_reducible repeat first|apply EX.seq|apply EX.blk)
            refine EX.dec rfl (fun hd => ?_) (fun hd => ?_)
            · obtain ⟨bs7, ap, hov7, keep⟩ := hov6.push (x := (⟨(u.1, endM ps o.res u), x⟩ : PArc)) (e := 4) (bytes := 32) rfl hw (by simp only [List.length_append]; omega) (by simp only [List.length_append]; omega)
              rw [cells_arc] at ap
              (refine EX.rg (by intro KK hkk; unfold f101_r13; simp only [SX, Nat.reduceEqDiff, ↓reduceIte, Nat.reduceSub, Nat.reduceAdd, Nat.reduceLT, Nat.reduceLeDiff, I.quiet, false_implies, implies_true, -List.reduceReplicate, e12, e10, ldsAt_row, Nat.le_refl, fill_2a, fill_2b, fill1_agg, ap]; exact hkk) ?_)
              (refine EX.rg (by intro KK hkk; unfold f101_r14; simp only [SX, Nat.reduceEqDiff, ↓reduceIte, Nat.reduceSub, Nat.reduceAdd, Nat.reduceLT, Nat.reduceLeDiff, I.quiet, false_implies, implies_true, -List.reduceReplicate, wrap_nat (show j < 4611686018427387904 by omega)]; exact hkk) ?_)
              refine ⟨(j + 1, _, bs7), ⟨hlj, by rw [hni, if_pos hd, ← List.append_assoc (arcsO ps o i), ← List.append_assoc (arcsA ps os k)]; exact hov7, keep _ _ e7 (by intro c e; cases e), keep _ _ e9 (by intro c e; cases e), keep _ _ e10 (by intro c e; cases e)⟩, by show vs.length - (j + 1) < vs.length - j; omega, Less.wk (by (repeat refine Less.upd ?_ (by rfl)); exact Less.nil)⟩
            · (refine EX.skip ?_; (with_reducible repeat first|apply nA|apply nB|apply nC|apply nD|apply nE|apply nF|apply nG (by decide)|apply nH|apply nI|apply nJ))
              (refine EX.rg (by intro KK hkk; unfold f101_r14; simp only [SX, Nat.reduceEqDiff, ↓reduceIte, Nat.reduceSub, Nat.reduceAdd, Nat.reduceLT, Nat.reduceLeDiff, I.quiet, false_implies, implies_true, -List.reduceReplicate, wrap_nat (show j < 4611686018427387904 by omega)]; exact hkk) ?_)
              refine ⟨(j + 1, v5, bs6), ⟨hlj, by rw [hni, if_neg hd, List.append_nil]; exact hov6, e7, e9, e10⟩, by show vs.length - (j + 1) < vs.length - j; omega, Less.wk (by (repeat refine Less.upd ?_ (by rfl)); exact Less.nil)⟩
          · (refine EX.exit ?_; (with_reducible repeat first|apply nA|apply nB|apply nC|apply nD|apply nE|apply nF|apply nG (by decide)|apply nH|apply nI|apply nJ))
            obtain rfl : j = vs.length := by omega
            exact ⟨v5, bs5, rfl, rfl, rfl, rfl, rfl, rfl, rfl, rfl, rfl, rfl, by rw [hnu]; exact hov5, d7⟩
        · rintro T1 H1 ⟨v5, bs5, t0, t5, t7, t13, t14, t15, t20, t21, t22, rfl, hov5, d7⟩
          (with_reducible repeat first|apply nA|apply nB|apply nC|apply nD|apply nE|apply nF|apply nG (by decide)|apply nH|apply nI|apply nJ)
          (refine EX.rg (by intro KK hkk; unfold f101_r15; simp only [SX, Nat.reduceEqDiff, ↓reduceIte, Nat.reduceSub, Nat.reduceAdd, Nat.reduceLT, Nat.reduceLeDiff, I.quiet, false_implies, implies_true, -List.reduceReplicate, t22, wrap_nat (show i < 4611686018427387904 by omega)]; exact hkk) ?_)
          refine ⟨(i + 1, v5, bs5), ⟨hli, hov5, d7⟩, by show o.uses.length - (i + 1) < o.uses.length - i; omega, Less.wk ?_⟩
          refine Less.upd (Less.upd (Less.upd (Less.upd (Less.upd (Less.upd (Less.upd (Less.upd (Less.upd Less.nil ?_) ?_) ?_) ?_) ?_) ?_) ?_) ?_) ?_ <;> simp [upd, t0, t5, t7, t13, t14, t15, t20, t21]
      · (refine EX.exit ?_; (with_reducible repeat first|apply nA|apply nB|apply nC|apply nD|apply nE|apply nF|apply nG (by decide)|apply nH|apply nI|apply nJ))
        obtain rfl : i = o.uses.length := by omega
        exact ⟨v3, bs3, rfl, rfl, rfl, rfl, rfl, rfl, by rw [hnx]; exact hov3⟩
    · rintro T1 H1 ⟨v2, bs2, t0, t5, t13, t14, t15, rfl, hov2⟩
      (with_reducible repeat first|apply nA|apply nB|apply nC|apply nD|apply nE|apply nF|apply nG (by decide)|apply nH|apply nI|apply nJ)
      (refine EX.rg (by intro KK hkk; unfold f101_r16; simp only [SX, Nat.reduceEqDiff, ↓reduceIte, Nat.reduceSub, Nat.reduceAdd, Nat.reduceLT, Nat.reduceLeDiff, I.quiet, false_implies, implies_true, -List.reduceReplicate, t15, wrap_nat (show k < 4611686018427387904 by omega)]; exact hkk) ?_)
      refine ⟨(k + 1, v2, bs2), ⟨hlt, hov2⟩, by show os.length - (k + 1) < os.length - k; omega, Less.wk ?_⟩
      refine Less.upd (Less.upd (Less.upd (Less.upd (Less.upd Less.nil ?_) ?_) ?_) ?_) ?_ <;> simp [upd, t0, t5, t13, t14]
  · (refine EX.exit ?_; (with_reducible repeat first|apply nA|apply nB|apply nC|apply nD|apply nE|apply nF|apply nG (by decide)|apply nH|apply nI|apply nJ))
    obtain rfl : k = os.length := by omega
    have hal := arcsA_len (ps := ps) ho.ul os.length (Nat.le_refl _)
    (refine EX.rg (by intro KK hkk; unfold f101_r17; simp only [SX, Nat.reduceEqDiff, ↓reduceIte, Nat.reduceSub, Nat.reduceAdd, Nat.reduceLT, Nat.reduceLeDiff, I.quiet, false_implies, implies_true, -List.reduceReplicate]; exact hkk) ?_)
    (with_reducible repeat first|apply EX.seq|apply EX.blk)
    refine EX.wk ?_ (hov.retR (r := 4) hw (by omega) rfl)
    ((with_reducible repeat first|apply EX.seq|apply EX.blk); refine EX.ret ?_; (with_reducible repeat first|apply nA|apply nB|apply nC|apply nD|apply nE|apply nF|apply nG (by decide)|apply nH|apply nI|apply nJ); refine ⟨_, rfl, ?_⟩; simp only [packV, upd, Nat.reduceEqDiff, reduceIte, if_true, if_false, Nat.one_ne_zero, Nat.zero_ne_one])
    exact ⟨trivial, [], (app_nil hw).symm⟩
end
end Go.Proofs.Ythofdojknjhpgaa
set_option linter.unusedVariables false
set_option linter.unusedSimpArgs false
namespace Go.Proofs.Ythofdojknjhpgaa
open Go
/-- A value told otherwise, wherever it stands. -/
def GV (v0 v : Value) : Prop := ∀ (φ : Phi) (n : Nat) (c : Value), VR φ n v c → VR φ n v0 c
theorem GV.any {v : Value} : GV (.tuple #[]) v := fun _ _ _ _ => .any _
theorem GV.same {v : Value} : GV v v := fun _ _ _ h => h
theorem GV.nilL {α : Type} [Enc α] : GV (L ([] : List α)) (.slice none 0 0) := fun φ n c h => by
  cases h; exact .fz0 _ (.inl rfl)
theorem Wk.tell {n0 : Nat} {T T0 : Tm} {h h0 : AH} (hn : h0.next = h.next) (hr0 : h0.ro = h.ro) (ht : ∀ i, GV (T0 i) (T i)) (hg : ∀ C b0, h0.get C = some b0 → ∃ b, h.get C = some b ∧ RB GV b0 b) : Wk n0 T0 h0 T h := by
  intro base w0 φ m a w hn' hst
  have hr := hst.hr
  have hrow : ∀ C t e cs0, h0.get C = some (.row t e cs0) → ∃ cs, h.get C = some (.row t e cs) ∧ ∀ (i : Nat) (v0 : Value), cs0[i]? = some v0 → ∃ v, cs[i]? = some v ∧ GV v0 v := by
    intro C t e cs0 hC
    obtain ⟨b, hb, hrb⟩ := hg C _ hC
    cases b with
    | row t' e' cs => obtain ⟨rfl, rfl, hc⟩ := hrb; exact ⟨cs, hb, hc⟩
    | map es => exact hrb.elim
  have hmap : ∀ C es0, h0.get C = some (.map es0) → ∃ es, h.get C = some (.map es) ∧ es0.length = es.length ∧ ∀ (i : Nat) (k0 v0 : Value), es0[i]? = some (k0, v0) → ∃ v, es[i]? = some (k0, v) ∧ GV v0 v := by
    intro C es0 hC
    obtain ⟨b, hb, hrb⟩ := hg C _ hC
    cases b with
    | row t' e' cs => exact hrb.elim
    | map es => exact ⟨es, hb, hrb⟩
  refine ⟨φ, Agr.refl _ _, by omega, ⟨hr.below, hr.bs, fun C b hC => ?_, ?_, ?_, ?_, ?_, ?_, by rw [hr0, hn]; exact hr.ron, fun b C hb => ⟨(hr.frz b C hb).1, fun D bl hroD hD => ?_⟩⟩, fun i => by rw [hn]; exact ht i _ _ _ (hst.tr i), hst.df, hst.sz⟩
  · obtain ⟨b, hb, _⟩ := hg C _ hC
    rw [hn]; exact hr.lt C b hb
  · intro C t e cs0 hC
    obtain ⟨cs, hb, hc⟩ := hrow C t e cs0 hC
    obtain ⟨g1, c, t', fr, g2, g3⟩ := hr.rows C t e cs hb
    refine ⟨g1, c, t', fr, g2, fun i v0 hi => ?_⟩
    obtain ⟨v, hv, hf⟩ := hc i v0 hi
    obtain ⟨u, q1, q2, q3⟩ := g3 i v hv
    exact ⟨u, q1, by rw [hn]; exact hf _ _ _ q2, q3⟩
  · intro C t e cs0 hroC hC
    obtain ⟨cs, hb, hc⟩ := hrow C t e cs0 hC
    exact hr.wr C t e cs (by rw [hr0] at hroC; exact hroC) hb
  · intro C es0 hC
    obtain ⟨es, hb, hl, hc⟩ := hmap C es0 hC
    obtain ⟨g1, g2, E, cl, g3, g4, g5⟩ := hr.maps C es hb
    rw [hr0]
    refine ⟨g1, g2, E, cl, g3, by rw [hl]; exact g4, fun i k0 v0 hi => ?_⟩
    obtain ⟨v, hv, hf⟩ := hc i k0 v0 hi
    obtain ⟨x, q1, q2, q3⟩ := g5 i k0 v hv
    exact ⟨x, q1, q2, by rw [hn]; exact hf _ _ _ q3⟩
  · intro C t e cs0 hroC hC
    obtain ⟨cs, hb, hc⟩ := hrow C t e cs0 hC
    exact hr.old C t e cs (by rw [hr0] at hroC; exact hroC) hb
  · intro C D b b' h1 h2 hC hD heq
    obtain ⟨b1, hb1, _⟩ := hg C _ hC
    obtain ⟨b2, hb2, _⟩ := hg D _ hD
    exact hr.inj C D b1 b2 (by rw [hr0] at h1; exact h1) (by rw [hr0] at h2; exact h2) hb1 hb2 heq
  · obtain ⟨b1, hb1, _⟩ := hg D _ hD
    exact (hr.frz b C hb).2 D b1 (by rw [hr0] at hroD; exact hroD) hb1
theorem RB.set {R : Value → Value → Prop} (hR : ∀ v, R v v) {t : TypeId} {e o : Nat} {cs : List Value} {v0 v : Value} (hc : cs[o]? = some v) (hv : R v0 v) : RB R (.row t e (cs.set o v0)) (.row t e cs) := by
  refine ⟨rfl, rfl, fun i u hi => ?_⟩
  rw [List.getElem?_set] at hi
  split at hi
  · rename_i e1; subst e1
    split at hi
    · cases hi; exact ⟨v, hc, hv⟩
    · cases hi
  · exact ⟨u, hi, hR u⟩
section
variable {h : AH} {bs : List (Option Blk)} {v : Value} {α : Type} [Enc α] {xs : List α} {t tr : TypeId}
/-- A list in a cell becomes such that nobody changes. -/
theorem OwnG.frzCell {a o er : Nat} {cs : List Value} {T T0 : Tm} (hw : Wf h) (ho : OwnG t h.next bs v xs) (ha : bs[a]? = some (some (.row tr er cs))) (hc : cs[o]? = some v) (hne : tr ≠ t) (hl : xs.length < 4611686018427387904) (ht : ∀ i, T0 i = .tuple #[] ∨ T0 i = T i) :
    ∃ bs' : List (Option Blk), bs'.length = bs.length ∧ bs'[a]? = some (some (.row tr er (cs.set o (L xs)))) ∧ (∀ (k : Nat) (b : Blk), k ≠ a → bs[k]? = some (some b) → (∀ x y, v ≠ .slice (some ⟨h.next + k, 0, none⟩) x y) → bs'[k]? = some (some b)) ∧ Wk h.next T0 (h.app bs') T (h.app bs) := by
  have hal := getElem?_lt ha
  rcases ho with ⟨rfl, rfl⟩ | ⟨i, rfl, hx, hi⟩
  · refine ⟨bs.set a (some (.row tr er (cs.set o (L ([] : List α))))), by simp, List.getElem?_set_self hal, fun k b hk hb _ => by rw [List.getElem?_set, if_neg (fun e => hk e.symm)]; exact hb, ?_⟩
    refine Wk.tell (by rw [app_next, app_next]; simp) rfl (fun i => ?_) fun C b0 hC => ?_
    · rcases ht i with e | e
      · rw [e]; exact GV.any
      · rw [e]; exact GV.same
    · rcases Nat.lt_or_ge C h.next with h1 | h1
      · rw [app_get_lt h1] at hC
        exact ⟨b0, by rw [app_get_lt h1]; exact hC, RB.same fun _ => GV.same⟩
      · obtain ⟨j, rfl⟩ : ∃ j, C = h.next + j := ⟨C - h.next, by omega⟩
        rw [app_get] at hC ⊢
        rw [List.getElem?_set] at hC
        split at hC
        · rename_i e1; subst e1
          cases hC
          exact ⟨_, by rw [ha]; rfl, RB.set (fun _ => GV.same) hc GV.nilL⟩
        · exact ⟨b0, hC, RB.same fun _ => GV.same⟩
  · have hil := getElem?_lt hi
    have hia : i ≠ a := by rintro rfl; rw [ha] at hi; cases hi; exact hne rfl
    refine ⟨(bs.set i none).set a (some (.row tr er (cs.set o (L xs)))), by simp, List.getElem?_set_self (by simpa using hal), fun k b hk hb hv => ?_, ?_⟩
    · rw [List.getElem?_set, if_neg (fun e => hk e.symm), List.getElem?_set, if_neg (by rintro rfl; exact hv _ _ rfl)]; exact hb
    · refine Wk.frzApp hw hi (by simp) (fun j b0 hj => ?_) (fun j => ?_)
      · rw [List.getElem?_set] at hj
        split at hj
        · rename_i e1; subst e1
          rw [if_pos (by simpa using hal)] at hj
          cases hj
          refine ⟨fun e => hia e.symm, _, ha, RB.set (fun _ => FV.same) hc ?_⟩
          refine .inr (.inr (.inr ⟨0, xs.length, xs.length, hl, by rw [F_len]; omega, rfl, ?_⟩))
          rw [List.drop_zero, List.take_of_length_le (by rw [F_len]; omega)]
          rfl
        · rw [List.getElem?_set] at hj
          split at hj
          · cases hj
          · rename_i e2
            exact ⟨fun e => e2 e.symm, b0, hj, RB.same fun _ => FV.same⟩
      · rcases ht j with e | e
        · rw [e]; exact .inl rfl
        · rw [e]; exact FV.same
/-- One more element; where things lie then. -/
theorem OwnG.push2 {e bytes : Nat} {x : α} (he : Enc.w α = e) (hw : Wf h) (o : OwnG t h.next bs v xs) (hb : (xs.length + 1) * bytes ≤ 140737488355328) (hb2 : xs.length + 1 ≤ 9223372036854775807) : ∃ bs2 : List (Option Blk), app1 t e bytes v (.slice (some ⟨h.next + bs.length, 0, none⟩) 1 1) (h.app (bs ++ [some (.row t e (Enc.cells x))])) = some (.slice (some ⟨h.next + (bs.length + 1), 0, none⟩) (xs.length + 1) (xs.length + 1), h.app bs2) ∧ bs2.length = bs.length + 2 ∧
    bs2[bs.length + 1]? = some (some (.row t (Enc.w α) (F (xs ++ [x])))) ∧ ∀ (k : Nat) (b : Blk), bs[k]? = some (some b) → (∀ x y, v ≠ .slice (some ⟨h.next + k, 0, none⟩) x y) → bs2[k]? = some (some b) := by
  subst he
  have hx := Enc.len x
  have hpos := Enc.pos (α := α)
  have hs : (h.app (bs ++ [some (.row t (Enc.w α) (Enc.cells x))])).src (Enc.w α) (.slice (some ⟨h.next + bs.length, 0, none⟩) 1 1) = some (Enc.cells x) := by
    simp only [AH.src, AH.row?, app_get, List.getElem?_append_right (Nat.le_refl _), Nat.sub_self, List.getElem?_cons_zero, Option.join_some]
    rw [if_neg (by decide), if_pos (by omega), List.drop_zero, List.take_of_length_le (by omega)]
  have ho1 : (Enc.cells x).all one = true := Enc.one x
  rcases o with ⟨rfl, rfl⟩ | ⟨i, rfl, hne, h2⟩
  · refine ⟨(bs ++ [some (Blk.row t (Enc.w α) (Enc.cells x))]) ++ [some (Blk.row t (Enc.w α) (Enc.cells x))], ?_, by simp, ?_, ?_⟩
    · simp only [app1, hs, lenV, app_new]
      rw [if_neg (by decide), if_pos ⟨by simpa using hb, by simp, ho1⟩]
      simp [app_next]
    · rw [List.getElem?_append_right (by simp)]; simp [F]
    · intro k b hk _
      rw [List.append_assoc, List.getElem?_append_left (getElem?_lt hk)]; exact hk
  · have hi := getElem?_lt h2
    have hlen : (F xs).length = xs.length * Enc.w α := F_len
    have hg : (h.app (bs ++ [some (.row t (Enc.w α) (Enc.cells x))])).row? (h.next + i) = some (t, Enc.w α, F xs) := by
      simp only [AH.row?, app_get, List.getElem?_append_left hi, h2]; rfl
    have ht : (F xs).take (xs.length * Enc.w α) = F xs := List.take_of_length_le (by omega)
    refine ⟨((bs ++ [some (Blk.row t (Enc.w α) (Enc.cells x))]) ++ [some (Blk.row t (Enc.w α) (F (xs ++ [x])))]).set i none, ?_, by simp, ?_, ?_⟩
    · simp only [app1, hs, lenV, hg, ht, app_new]
      have ho : (F xs).all one = true := F_one
      have hro := hw.ro
      rw [if_neg (by decide), if_pos ⟨hb, hb2, ho1⟩, if_pos ⟨by show h.ro ≤ _; omega, trivial, trivial, trivial, by omega, ho⟩, app_put (by simp; omega)]
      simp [app_next, F_append, F]
    · rw [List.getElem?_set, if_neg (by omega), List.getElem?_append_right (by simp)]; simp
    · intro k b hk hbn
      have := getElem?_lt hk
      have hki : k ≠ i := by rintro rfl; exact hbn _ _ rfl
      rw [List.getElem?_set, if_neg (fun e => hki e.symm), List.append_assoc, List.getElem?_append_left this]; exact hk
theorem OwnG.lt {n : Nat} (o : OwnG t n bs v xs) {B x y : Nat} (hv : v = .slice (some ⟨B, 0, none⟩) x y) : ∃ i, B = n + i ∧ bs[i]? = some (some (.row t (Enc.w α) (F xs))) := by
  rcases o with ⟨rfl, _⟩ | ⟨i, rfl, _, h2⟩
  · cases hv
  · cases hv; exact ⟨i, rfl, h2⟩
theorem OwnG.keep2 {n : Nat} {bs' : List (Option Blk)} (o : OwnG t n bs v xs) (hk : ∀ (i : Nat) (b : Blk), bs[i]? = some (some b) → (∃ x y, v = .slice (some ⟨n + i, 0, none⟩) x y) → bs'[i]? = some (some b)) : OwnG t n bs' v xs := by
  rcases o with o | ⟨i, h1, h2, h3⟩
  · exact .inl o
  · exact .inr ⟨i, h1, h2, hk _ _ h3 ⟨_, _, h1⟩⟩
/-- Block a holds slices that show lists of one's own. -/
structure OwnR (t tr : TypeId) (n : Nat) (bs : List (Option Blk)) (a : Nat) (cells : List Value) (ls : Nat → List α) : Prop where
  arr : bs[a]? = some (some (.row tr 1 cells))
  own : ∀ r, r < cells.length → ∃ v, cells[r]? = some v ∧ OwnG t n bs v (ls r)
  inj : ∀ (r r' B x y x' y' : Nat), cells[r]? = some (.slice (some ⟨B, 0, none⟩) x y) → cells[r']? = some (.slice (some ⟨B, 0, none⟩) x' y') → r = r'
variable {a : Nat} {cells : List Value} {ls : Nat → List α}
def addR (ls : Nat → List α) (r : Nat) (u : α) : Nat → List α := fun i => if i = r then ls i ++ [u] else ls i
theorem OwnR.push {e bytes r : Nat} {u : α} (he : Enc.w α = e) (hw : Wf h) (o : OwnR t tr h.next bs a cells ls) (htr : tr ≠ t) (hr : r < cells.length) (hb : ((ls r).length + 1) * bytes ≤ 140737488355328) (hb2 : (ls r).length + 1 ≤ 9223372036854775807) : ∃ (v : Value) (bs2 : List (Option Blk)) (v2 : Value), cells[r]? = some v ∧ app1 t e bytes v (.slice (some ⟨h.next + bs.length, 0, none⟩) 1 1) (h.app (bs ++ [some (.row t e (Enc.cells u))])) = some (v2, h.app bs2) ∧ one v2 = true ∧ bs2.length = bs.length + 2 ∧ bs2[a]? = some (some (.row tr 1 cells)) ∧
    OwnR t tr h.next (bs2.set a (some (.row tr 1 (cells.set r v2)))) a (cells.set r v2) (addR ls r u) ∧ ∀ (k : Nat) (b : Blk), bs[k]? = some (some b) → (∀ e c, b ≠ .row t e c) → bs2[k]? = some (some b) := by
  obtain ⟨v, hv, ov⟩ := o.own r hr
  obtain ⟨bs2, a1, a2, a3, a4⟩ := ov.push2 (x := u) he hw hb hb2
  have hal := getElem?_lt o.arr
  have keep : ∀ (k : Nat) (b : Blk), bs[k]? = some (some b) → (∀ e c, b ≠ .row t e c) → bs2[k]? = some (some b) := by
    intro k b hk hb
    refine a4 k b hk fun x y e => ?_
    obtain ⟨i, h1, h2⟩ := ov.lt e
    obtain rfl : k = i := by omega
    rw [h2] at hk; cases hk; exact hb _ _ rfl
  have harr := keep a _ o.arr (by intro e c e; cases e; exact htr rfl)
  refine ⟨v, bs2, _, hv, a1, rfl, a2, harr, ⟨List.getElem?_set_self (by omega), ?_, ?_⟩, keep⟩
  · intro r' hr'
    rw [List.length_set] at hr'
    have hna : ∀ (i : Nat) (b : Blk), bs2[i]? = some (some b) → (∀ c, b ≠ .row tr 1 c) → ∀ b', (bs2.set a b')[i]? = some (some b) := by
      intro i b hi hb b'
      have : a ≠ i := by rintro rfl; rw [harr] at hi; cases hi; exact hb _ rfl
      rw [List.getElem?_set, if_neg this]; exact hi
    by_cases e : r' = r
    · subst e
      refine ⟨_, List.getElem?_set_self hr, .inr ⟨bs.length + 1, ?_, ?_, ?_⟩⟩
      · simp [addR]
      · simp [addR]
      · have e1 : addR ls r' u r' = ls r' ++ [u] := by simp [addR]
        rw [e1]; exact hna _ _ a3 (fun c e => by injection e with e1; exact htr e1.symm) _
    · obtain ⟨v', hv', ov'⟩ := o.own r' hr'
      refine ⟨v', by rw [List.getElem?_set, if_neg (fun h => e h.symm)]; exact hv', ?_⟩
      have e1 : addR ls r u r' = ls r' := by simp [addR, e]
      rw [e1]
      rcases ov' with ov' | ⟨i, h1, h2, h3⟩
      · exact .inl ov'
      · refine .inr ⟨i, h1, h2, hna _ _ (a4 _ _ h3 fun x y => ?_) (fun c e => by injection e with e1; exact htr e1.symm) _⟩
        rintro rfl
        rw [h1] at hv'
        exact e (o.inj _ _ _ _ _ _ _ hv' hv)
  · intro r1 r2 B x y x' y' h1 h2
    rw [List.getElem?_set] at h1 h2
    have old : ∀ (r' x y : Nat), cells[r']? = some (.slice (some ⟨B, 0, none⟩) x y) → r' < cells.length ∧ B < h.next + bs.length := by
      intro r' x y hc
      have h3 := getElem?_lt hc
      obtain ⟨v', hv', ov'⟩ := o.own r' h3
      rw [hc] at hv'
      cases hv'
      obtain ⟨i, rfl, h4⟩ := ov'.lt rfl
      have := getElem?_lt h4
      exact ⟨h3, by omega⟩
    by_cases e1 : r = r1 <;> by_cases e2 : r = r2
    · omega
    · rw [if_pos e1, if_pos hr] at h1
      rw [if_neg e2] at h2
      cases h1
      have := (old r2 _ _ h2).2
      omega
    · rw [if_neg e1] at h1
      rw [if_pos e2, if_pos hr] at h2
      cases h2
      have := (old r1 _ _ h1).2
      omega
    · rw [if_neg e1] at h1
      rw [if_neg e2] at h2
      exact o.inj _ _ _ _ _ _ _ h1 h2
/-- All lists of such a row become such that nobody changes. -/
theorem OwnR.frz {T T0 : Tm} (hw : Wf h) (o : OwnR t tr h.next bs a cells ls) (htr : tr ≠ t) (hl : ∀ r, (ls r).length < 4611686018427387904) (ht : ∀ i, T0 i = .tuple #[] ∨ T0 i = T i) :
    ∃ bs' : List (Option Blk), bs'.length = bs.length ∧ bs'[a]? = some (some (.row tr 1 (F ((List.range cells.length).map ls)))) ∧ (∀ (k : Nat) (b : Blk), k ≠ a → bs[k]? = some (some b) → (∀ e c, b ≠ .row t e c) → bs'[k]? = some (some b)) ∧ Wk h.next T0 (h.app bs') T (h.app bs) := by
  have key : ∀ m, m ≤ cells.length → ∃ (bs' : List (Option Blk)) (cs : List Value), bs'.length = bs.length ∧ cs.length = cells.length ∧ bs'[a]? = some (some (.row tr 1 cs)) ∧ (∀ r, r < m → cs[r]? = some (L (ls r))) ∧ (∀ r, m ≤ r → cs[r]? = cells[r]?) ∧ (∀ r, m ≤ r → r < cells.length → ∃ v, cells[r]? = some v ∧ OwnG t h.next bs' v (ls r)) ∧
      (∀ (k : Nat) (b : Blk), k ≠ a → bs[k]? = some (some b) → (∀ e c, b ≠ .row t e c) → bs'[k]? = some (some b)) ∧ Wk h.next T0 (h.app bs') T (h.app bs) := by
    intro m
    induction m with
    | zero =>
      intro _
      refine ⟨bs, cells, rfl, rfl, o.arr, fun r hr => by omega, fun r _ => rfl, fun r _ hr => o.own r hr, fun k b _ hb _ => hb, ?_⟩
      refine Wk.tell rfl rfl (fun i => ?_) fun C b0 hC => ⟨b0, hC, RB.same fun _ => GV.same⟩
      rcases ht i with e | e
      · rw [e]; exact GV.any
      · rw [e]; exact GV.same
    | succ m ih =>
      intro hm
      obtain ⟨bs', cs, h1, h2, h3, h4, h5, h6, h7, h8⟩ := ih (by omega)
      obtain ⟨v, hv, ov⟩ := h6 m (Nat.le_refl _) (by omega)
      obtain ⟨bs2, k1, k2, k3, k4⟩ := ov.frzCell (T := T0) (T0 := T0) (o := m) hw h3 (by rw [h5 m (Nat.le_refl _)]; exact hv) htr (hl m) (fun i => .inr rfl)
      refine ⟨bs2, cs.set m (L (ls m)), by omega, by simpa using h2, k2, fun r hr => ?_, fun r hr => ?_, fun r hr hrl => ?_, fun k b hk hb hne => ?_, Wk.trans h8 k4⟩
      · rw [List.getElem?_set]
        split
        · rename_i e; subst e; rw [if_pos (by omega)]
        · exact h4 r (by omega)
      · rw [List.getElem?_set, if_neg (by omega)]; exact h5 r (by omega)
      · obtain ⟨v', hv', ov'⟩ := h6 r (by omega) hrl
        refine ⟨v', hv', ?_⟩
        rcases ov' with ov' | ⟨i, g1, g2, g3⟩
        · exact .inl ov'
        · refine .inr ⟨i, g1, g2, k3 i _ (by rintro rfl; rw [h3] at g3; injection g3 with g3; injection g3 with g3; injection g3 with e1; exact htr e1) g3 fun x y => ?_⟩
          rintro rfl
          rw [g1] at hv'
          have := o.inj _ _ _ _ _ _ _ hv hv'
          omega
      · refine k3 k b hk (h7 k b hk hb hne) fun x y e => ?_
        obtain ⟨i, g1, g2⟩ := ov.lt e
        obtain rfl : k = i := by omega
        have := h7 k b hk hb hne
        rw [g2] at this; cases this; exact hne _ _ rfl
  obtain ⟨bs', cs, h1, h2, h3, h4, h5, h6, h7, h8⟩ := key cells.length (Nat.le_refl _)
  refine ⟨bs', h1, ?_, h7, h8⟩
  have : cs = F ((List.range cells.length).map ls) := by
    apply List.ext_getElem?
    intro i
    by_cases hi : i < cells.length
    · rw [h4 i hi, F_getl (by simpa using hi), rd_eq (by simpa using hi)]
      simp
    · rw [List.getElem?_eq_none (by omega), List.getElem?_eq_none (by rw [F_len, w1l]; simp; omega)]
  rw [← this]; exact h3
end
end Go.Proofs.Ythofdojknjhpgaa
set_option linter.unusedVariables false
set_option linter.unusedSimpArgs false
namespace Go.Proofs.Ythofdojknjhpgaa
open Go
def evK (t k : Nat) : List (Int × Int) := (List.range k).map fun (i : Nat) => ((t : Int), (i : Int))
def evT (ps : List (List Stg)) : Nat → List (Int × Int)
  | 0 => []
  | t + 1 => evT ps t ++ evK t ((rd ps t).length + 1)
def firstT (ps : List (List Stg)) : Nat → List Int
  | 0 => []
  | t + 1 => firstT ps t ++ [((evT ps t).length : Int)]
def baseI (ev : List (Int × Int)) (i : Nat) : Nat → List Int := fun r => if r < i ∧ 0 < (rd ev r).2 then [(r : Int) - 1] else []
def numM (first : List Int) (e : Int × Int) : Int := rd first e.1.toNat + e.2
def insT (first : List Int) (arcs : List PArc) (base : Nat → List Int) : Nat → Nat → List Int
  | 0 => base
  | j + 1 => addR (insT first arcs base j) (numM first (rd arcs j).t).toNat (numM first (rd arcs j).f)
def evM (ps : List (List Stg)) : List (Int × Int) := evT ps ps.length
def firstM (ps : List (List Stg)) : List Int := firstT ps ps.length
def arcsM (ps : List (List Stg)) (os : List Ordr) : List PArc := arcsA ps os os.length
def insM (ps : List (List Stg)) (os : List Ordr) : List (List Int) := (List.range (evM ps).length).map (insT (firstM ps) (arcsM ps os) (baseI (evM ps) (evM ps).length) (arcsM ps os).length)
theorem rdq {α : Type} [Inhabited α] {xs : List α} {i : Nat} (h : i < xs.length) : rd xs i = xs[i] := by
  unfold rd; rw [List.getD_eq_getElem?_getD, List.getElem?_eq_getElem h]; rfl
theorem rd_append_l {α : Type} [Inhabited α] {xs ys : List α} {i : Nat} (h : i < xs.length) : rd (xs ++ ys) i = rd xs i := by
  rw [rdq (by simp; omega), rdq h, List.getElem_append_left h]
theorem rd_append_r {α : Type} [Inhabited α] {xs ys : List α} {i : Nat} (h : xs.length ≤ i) : rd (xs ++ ys) i = rd ys (i - xs.length) := by
  unfold rd
  rw [List.getD_eq_getElem?_getD, List.getD_eq_getElem?_getD, List.getElem?_append_right h]
theorem rd_map_range {α : Type} [Inhabited α] {f : Nat → α} {n i : Nat} (h : i < n) : rd ((List.range n).map f) i = f i := by
  rw [rdq (by simpa using h)]; simp
theorem evK_len {t k : Nat} : (evK t k).length = k := by simp [evK]
theorem evK_succ {t k : Nat} : evK t (k + 1) = evK t k ++ [((t : Int), (k : Int))] := by simp [evK, List.range_succ]
theorem evT_len {ps : List (List Stg)} (hp : PathsA ps) : ∀ t, t ≤ ps.length → (evT ps t).length ≤ 65 * t
  | 0, _ => Nat.le_refl _
  | t + 1, ht => by
    have h1 := evT_len hp t (by omega)
    have h2 := (hp.2 (rd ps t) (rd_mem (show t < ps.length by omega))).1
    rw [evT, List.length_append, evK_len]
    omega
theorem evM_len {ps : List (List Stg)} (hp : PathsA ps) : (evM ps).length ≤ 650 := by
  have h1 := evT_len hp ps.length (Nat.le_refl _)
  have := hp.1
  unfold evM; omega
theorem firstT_len {ps : List (List Stg)} : ∀ t, (firstT ps t).length = t
  | 0 => rfl
  | t + 1 => by rw [firstT, List.length_append, firstT_len t]; rfl
theorem firstT_at {ps : List (List Stg)} : ∀ T t, t < T → rd (firstT ps T) t = ((evT ps t).length : Int)
  | 0, t, h => by omega
  | T + 1, t, h => by
    rw [firstT]
    rcases Nat.lt_or_ge t T with h1 | h1
    · rw [rd_append_l (by rw [firstT_len]; exact h1), firstT_at T t h1]
    · obtain rfl : t = T := by omega
      rw [rd_append_r (by rw [firstT_len]; exact Nat.le_refl _), firstT_len, Nat.sub_self]
      rfl
theorem firstM_at {ps : List (List Stg)} {t : Nat} (ht : t < ps.length) : rd (firstM ps) t = ((evT ps t).length : Int) := firstT_at _ _ ht
theorem evT_mono {ps : List (List Stg)} {t : Nat} : ∀ T, t ≤ T → (evT ps t).length ≤ (evT ps T).length
  | 0, h => by obtain rfl : t = 0 := by omega
               exact Nat.le_refl _
  | T + 1, h => by
    rcases Nat.lt_or_ge t (T + 1) with h1 | h1
    · have := evT_mono (ps := ps) (t := t) T (by omega)
      rw [evT, List.length_append]; omega
    · obtain rfl : t = T + 1 := by omega
      exact Nat.le_refl _
theorem evM_room {ps : List (List Stg)} {t : Nat} (ht : t < ps.length) : (evT ps t).length + (rd ps t).length + 1 ≤ (evM ps).length := by
  have := evT_mono (ps := ps) (t := t + 1) ps.length ht
  rw [evT, List.length_append, evK_len] at this
  unfold evM; omega
theorem evT_pre {ps : List (List Stg)} {t k : Nat} (hk : k ≤ (rd ps t).length) : ∀ T, t < T → rd (evT ps T) ((evT ps t).length + k) = ((t : Int), (k : Int))
  | 0, h => by omega
  | T + 1, h => by
    rcases Nat.lt_or_ge t T with h1 | h1
    · rw [evT, rd_append_l, evT_pre hk T h1]
      have := evT_mono (ps := ps) (t := t + 1) T h1
      rw [evT, List.length_append, evK_len] at this
      omega
    · obtain rfl : t = T := by omega
      rw [evT, rd_append_r (by omega), evK, rd_map_range (by omega)]
      simp
theorem evM_at {ps : List (List Stg)} {t k : Nat} (ht : t < ps.length) (hk : k ≤ (rd ps t).length) : rd (evM ps) ((evT ps t).length + k) = ((t : Int), (k : Int)) := evT_pre hk _ ht
/-- What events are. -/
def EvtOk (ps : List (List Stg)) (e : Int × Int) : Prop := 0 ≤ e.1 ∧ e.1.toNat < ps.length ∧ 0 ≤ e.2 ∧ e.2.toNat ≤ (rd ps e.1.toNat).length
theorem evT_split {ps : List (List Stg)} {i : Nat} : ∀ T, i < (evT ps T).length → ∃ t k, t < T ∧ k ≤ (rd ps t).length ∧ i = (evT ps t).length + k
  | 0, h => by simp [evT] at h
  | T + 1, h => by
    rcases Nat.lt_or_ge i (evT ps T).length with h1 | h1
    · obtain ⟨t, k, a, b, c⟩ := evT_split T h1
      exact ⟨t, k, by omega, b, c⟩
    · rw [evT, List.length_append, evK_len] at h
      exact ⟨T, i - (evT ps T).length, by omega, by omega, by omega⟩
theorem evM_split {ps : List (List Stg)} {i : Nat} (h : i < (evM ps).length) : ∃ t k, t < ps.length ∧ k ≤ (rd ps t).length ∧ i = (evT ps t).length + k ∧ rd (evM ps) i = ((t : Int), (k : Int)) := by
  obtain ⟨t, k, a, b, rfl⟩ := evT_split _ h
  exact ⟨t, k, a, b, rfl, evM_at a b⟩
theorem evM_ok {ps : List (List Stg)} {e : Int × Int} (he : e ∈ evM ps) : EvtOk ps e := by
  obtain ⟨i, hi, rfl⟩ := List.getElem_of_mem he
  obtain ⟨t, k, a, b, _, d⟩ := evM_split hi
  rw [← rd_eq hi, d]
  exact ⟨by omega, by simpa using a, by omega, by simpa using b⟩
theorem numM_nat {ps : List (List Stg)} {t k : Nat} (ht : t < ps.length) : numM (firstM ps) ((t : Int), (k : Int)) = (((evT ps t).length + k : Nat) : Int) := by
  rw [numM, Int.toNat_natCast, firstM_at ht]; omega
theorem evt_nat {ps : List (List Stg)} {u : Int × Int} (hu : EvtOk ps u) : ∃ t k : Nat, u = ((t : Int), (k : Int)) ∧ t < ps.length ∧ k ≤ (rd ps t).length := by
  obtain ⟨h1, h2, h3, h4⟩ := hu
  obtain ⟨a, b⟩ := u
  simp only at h1 h2 h3 h4
  exact ⟨a.toNat, b.toNat, by rw [Int.toNat_of_nonneg h1, Int.toNat_of_nonneg h3], h2, h4⟩
theorem numM_ok {ps : List (List Stg)} {e : Int × Int} (he : EvtOk ps e) : 0 ≤ numM (firstM ps) e ∧ (numM (firstM ps) e).toNat < (evM ps).length := by
  obtain ⟨t, k, rfl, h1, h2⟩ := evt_nat he
  have := evM_room h1
  rw [numM_nat h1, Int.toNat_natCast]
  exact ⟨by omega, by omega⟩
theorem UseOk.evt {ps : List (List Stg)} {e : Int × Int} (h : UseOk ps e) : EvtOk ps e := ⟨h.1, h.2.1, h.2.2.1, Nat.le_of_lt h.2.2.2⟩
theorem endM_ok {ps : List (List Stg)} {r : Int} {u : Int × Int} (h : UseOk ps u) : EvtOk ps (u.1, endM ps r u) := by
  obtain ⟨t, k, rfl, h1, h2⟩ := use_nat h
  unfold endM EvtOk
  simp only [Int.toNat_natCast]
  split
  · exact ⟨by omega, h1, by omega, by omega⟩
  · exact ⟨by omega, h1, by omega, by omega⟩
def ArcOk (ps : List (List Stg)) (a : PArc) : Prop := EvtOk ps a.f ∧ UseOk ps a.t
theorem arcsI_ok {ps : List (List Stg)} {r : Int} {u : Int × Int} {vs : List (Int × Int)} (hu : UseOk ps u) (hv : ∀ v ∈ vs, UseOk ps v) : ∀ j, j ≤ vs.length → ∀ a ∈ arcsI ps r u vs j, ArcOk ps a
  | 0, _, a, ha => by simp [arcsI] at ha
  | j + 1, hj, a, ha => by
    rw [arcsI, List.mem_append] at ha
    rcases ha with ha | ha
    · exact arcsI_ok hu hv j (by omega) a ha
    · split at ha
      · rw [List.mem_singleton] at ha
        subst ha
        exact ⟨endM_ok hu, hv _ (rd_mem (by omega))⟩
      · cases ha
theorem arcsO_ok {ps : List (List Stg)} {o : Ordr} (ho : ∀ u ∈ o.uses, UseOk ps u) : ∀ i, i ≤ o.uses.length → ∀ a ∈ arcsO ps o i, ArcOk ps a
  | 0, _, a, ha => by simp [arcsO] at ha
  | i + 1, hi, a, ha => by
    rw [arcsO, List.mem_append] at ha
    rcases ha with ha | ha
    · exact arcsO_ok ho i (by omega) a ha
    · exact arcsI_ok (ho _ (rd_mem (by omega))) (fun v hv => ho v (List.mem_of_mem_drop hv)) _ (Nat.le_refl _) a ha
theorem arcsA_ok {ps : List (List Stg)} {os : List Ordr} (ho : OsA ps os) : ∀ k, k ≤ os.length → ∀ a ∈ arcsA ps os k, ArcOk ps a
  | 0, _, a, ha => by simp [arcsA] at ha
  | k + 1, hk, a, ha => by
    rw [arcsA, List.mem_append] at ha
    rcases ha with ha | ha
    · exact arcsA_ok ho k (by omega) a ha
    · exact arcsO_ok (ho.ok _ (rd_mem (by omega))) _ (Nat.le_refl _) a ha
theorem baseI_len {ev : List (Int × Int)} {i r : Nat} : (baseI ev i r).length ≤ 1 := by unfold baseI; split <;> simp
theorem insT_len {first : List Int} {arcs : List PArc} {base : Nat → List Int} (hb : ∀ r, (base r).length ≤ 1) : ∀ j r, (insT first arcs base j r).length ≤ 1 + j
  | 0, r => hb r
  | j + 1, r => by
    have := insT_len (first := first) (arcs := arcs) hb j r
    rw [insT, addR]; split
    · simp; omega
    · omega
theorem baseI_succ {ev : List (Int × Int)} {i : Nat} : baseI ev (i + 1) = if 0 < (rd ev i).2 then addR (baseI ev i) i ((i : Int) - 1) else baseI ev i := by
  split
  · rename_i h
    funext r
    unfold baseI addR
    by_cases e : r = i
    · subst e; simp [h]
    · have : (r < i + 1) = (r < i) := propext ⟨fun _ => by omega, fun _ => by omega⟩
      simp [e, this]
  · rename_i h
    funext r
    unfold baseI
    by_cases e : r = i
    · subst e; simp [h]
    · have : (r < i + 1) = (r < i) := propext ⟨fun _ => by omega, fun _ => by omega⟩
      simp [this]
theorem evM_pos {ps : List (List Stg)} {i : Nat} (h : i < (evM ps).length) (h2 : 0 < (rd (evM ps) i).2) : 1 ≤ i := by
  obtain ⟨t, k, a, b, c, d⟩ := evM_split h
  rw [d] at h2
  simp only at h2
  omega
theorem insT_rng {ps : List (List Stg)} {arcs : List PArc} (ha : ∀ a ∈ arcs, ArcOk ps a) : ∀ j, j ≤ arcs.length → ∀ r, r < (evM ps).length → ∀ x ∈ insT (firstM ps) arcs (baseI (evM ps) (evM ps).length) j r, 0 ≤ x ∧ x.toNat < (evM ps).length
  | 0, _, r, hr, x, hx => by
    simp only [insT, baseI] at hx
    split at hx
    · rename_i h
      rw [List.mem_singleton] at hx
      have := evM_pos hr h.2
      subst hx
      exact ⟨by omega, by omega⟩
    · cases hx
  | j + 1, hj, r, hr, x, hx => by
    rw [insT, addR] at hx
    split at hx
    · rw [List.mem_append, List.mem_singleton] at hx
      rcases hx with hx | rfl
      · exact insT_rng ha j (by omega) r hr x hx
      · exact numM_ok (ha _ (rd_mem (by omega))).1
    · exact insT_rng ha j (by omega) r hr x hx
theorem gOk {ps : List (List Stg)} {os : List Ordr} (hp : PathsA ps) (ho : OsA ps os) : GOk (evM ps) (insM ps os) where
  len := by simp [insM]
  small := by have := evM_len hp; omega
  rng := fun l hl k hk => by
    simp only [insM, List.mem_map, List.mem_range] at hl
    obtain ⟨r, hr, rfl⟩ := hl
    exact insT_rng (arcsA_ok ho _ (Nat.le_refl _)) _ (Nat.le_refl _) r hr k hk
theorem at_ok {ps : List (List Stg)} {at' : List Int} (h : at'.length = ps.length) : ∀ e ∈ evM ps, 0 ≤ e.1 ∧ e.1.toNat < at'.length := fun e he => by
  have := evM_ok he
  exact ⟨this.1, by rw [h]; exact this.2.1⟩
end Go.Proofs.Ythofdojknjhpgaa
set_option linter.unusedVariables false
set_option linter.unusedSimpArgs false
namespace Go.Proofs.Ythofdojknjhpgaa
open Go
theorem RD_ldb {P : Program} {T : Tm} {h : AH} {K : Tm → AH → Prop} {ds : List DOp} {s : Option Nat} {x : Opd} {hs : List AH} {pd : List Pend} {n b f : Nat} : RD P (⟨⟨some n, none, .ins (.ld s x)⟩, b + 1, f⟩ :: ds) hs pd T h K = thenI ((I.ld s x).run T h) fun v h1 => (∀ g ∈ hs.take (b + 1), (I.ld s x).run T g = some (v, g)) ∧ RD P ds hs (if f = 0 then pd else (f, ⟨some n, none, .ins (.ld s x)⟩, T, v) :: pd) (upd T n v) h1 K := propext <| by
  have hq' : (DOp.o ⟨⟨some n, none, .ins (.ld s x)⟩, b + 1, f⟩).quiet = true := rfl
  have hq : (I.ld s x).quiet = true := rfl
  simp only [RD]
  rw [if_pos hq']
  constructor
  · rintro ⟨v, h1, h2, h3⟩
    have h1' : (I.ld s x).run T h = some (v, h) := h1
    rw [h1']
    exact ⟨h2, h3⟩
  · intro k
    cases hr : (I.ld s x).run T h with
    | none => rw [hr] at k; exact k.elim
    | some r =>
      obtain ⟨v, h1⟩ := r
      rw [hr] at k
      obtain rfl := quiet_same hq hr
      exact ⟨v, hr, k.1, k.2⟩
section
variable {h : AH} {bs : List (Option Blk)} {T : Tm} {first : List Int} {ev : List (Int × Int)}
/-- The graph, given back. -/
theorem gV_ret {a n : Nat} {cells : List Value} {ls : Nat → List Int} (hw : Wf h) (b0 : bs[0]? = some (some (.row 110 0 [L first, L ev, .slice (some ⟨h.next + a, 0, none⟩) n n]))) (o : OwnR 3 22 h.next bs a cells ls) (hn : cells.length = n) (hl : ∀ r, (ls r).length < 4611686018427387904) (hs : n < 4611686018427387904) (t5 : T 5 = .pointer (some ⟨h.next, 0, none⟩)) :
    Wk h.next (upd TE 5 (gV first ev ((List.range n).map ls))) h T (h.app bs) := by
  subst hn
  have hla : (F ((List.range cells.length).map ls)).length = cells.length := by rw [F_len]; simp [w1l]
  generalize hins : (List.range cells.length).map ls = ins at *
  have hil : ins.length = cells.length := by rw [← hins]; simp
  have ha0 : 0 ≠ a := by rintro rfl; have := o.arr; rw [b0] at this; cases this
  obtain ⟨bs1, l1, a1, k1, w1⟩ := o.frz (T := T) (T0 := upd TE 5 (.pointer (some ⟨h.next, 0, none⟩))) hw (by decide) hl (fun i => by
    unfold Go.Proofs.Ythofdojknjhpgaa.upd; split
    · rename_i e; subst e; exact .inr t5.symm
    · exact .inl rfl)
  rw [hins] at a1
  have b1 := k1 0 _ ha0 b0 (by intro e c h; cases h)
  have hl1 := getElem?_lt b1
  have w2 : Wk h.next (upd TE 5 (.pointer (some ⟨h.next, 0, none⟩))) (h.app ((List.replicate bs1.length none).set 0 (some (.row 110 0 [L first, L ev, L ins])))) (upd TE 5 (.pointer (some ⟨h.next, 0, none⟩))) (h.app bs1) := by
    refine Wk.frzApp hw a1 (by simp) (fun i b0' hi => ?_) (fun i => FV.same)
    rw [List.getElem?_set] at hi
    split at hi
    · rename_i e; subst e
      rw [if_pos (by simpa using hl1)] at hi
      cases hi
      refine ⟨ha0, _, b1, ?_⟩
      have := RB.set (R := FV (h.next + a) 1 (F ins)) (t := 110) (e := 0) (o := 2) (cs := [L first, L ev, .slice (some ⟨h.next + a, 0, none⟩) cells.length cells.length]) (v0 := L ins) (fun _ => FV.same) rfl (.inr (.inr (.inr ⟨0, cells.length, cells.length, hs, by omega, rfl, by rw [List.drop_zero, List.take_of_length_le (by omega), ← hil]; rfl⟩)))
      exact this
    · rw [List.getElem?_replicate] at hi
      split at hi <;> cases hi
  have w3 : Wk h.next (upd TE 5 (gV first ev ins)) (h.app (List.replicate bs1.length none)) (upd TE 5 (.pointer (some ⟨h.next, 0, none⟩))) (h.app ((List.replicate bs1.length none).set 0 (some (.row 110 0 [L first, L ev, L ins])))) := by
    refine Wk.frzApp (j := 0) (t := 110) (e := 0) (cs := [L first, L ev, L ins]) hw (List.getElem?_set_self (by simpa using hl1)) (by simp) (fun i b0' hi => ?_) (fun i => ?_)
    · rw [List.getElem?_replicate] at hi
      split at hi <;> cases hi
    · unfold Go.Proofs.Ythofdojknjhpgaa.upd; split
      · exact .inr (.inr (.inl ⟨0, by simp, rfl, rfl⟩))
      · exact .inl rfl
  exact w1.trans (w2.trans (w3.trans (Wk.app0 hw (RVs.updc RVs.nil gV_cl rfl))))
/-- 'build', a drawn region. -/
theorem f69_r5_ok {m n0 : Nat} {v1 v2 v3 : Value} {xs : List Int} {ev : List (Int × Int)} {Q : Exit → Tm → AH → Prop} (hw : Wf h) (hx : xs.length ≤ 1000) (he : ev.length ≤ 100000) (b0 : bs[0]? = some (some (.row 110 0 [v1, v2, v3]))) (o1 : OwnG 3 h.next bs v1 xs) (o2 : OwnG 48 h.next bs v2 ev) (t5 : T 5 = .pointer (some ⟨h.next, 0, none⟩))
    (k : ∀ (T2 : Tm) (bs2 : List (Option Blk)) (v1' : Value), (∀ j, j < 22 ∨ 35 < j → T2 j = T j) → bs2[0]? = some (some (.row 110 0 [v1', v2, v3])) → OwnG 3 h.next bs2 v1' (xs ++ [(ev.length : Int)]) → OwnG 48 h.next bs2 v2 ev → Q .normal T2 (h.app bs2)) : EX Go.Proofs.Try.prog m n0 (.drw f69_r5) T (h.app bs) Q := by
  have hlv : ∀ H : AH, lens1 v2 H = some (.int .i64 ev.length, H) := fun H => by
    rcases o2 with ⟨rfl, rfl⟩ | ⟨i, rfl, _⟩ <;> rfl
  obtain ⟨bs2, ap, ow, keep⟩ := o1.push (x := (ev.length : Int)) (e := 1) (bytes := 8) rfl hw (by omega) (by omega)
  rw [cells_int] at ap
  have k0 := keep 0 _ b0 (by intro c e; cases e)
  have hl0 := getElem?_lt k0
  have o2' : OwnG 48 h.next bs2 v2 ev := o2.keep fun i c hi => keep _ _ hi (by intro c e; cases e)
  have e0 := get_ext (l := [some (Blk.row 3 1 [.int .i64 ev.length])]) b0
  have hle : h.next + (bs ++ [some (Blk.row 3 1 [.int .i64 ev.length])]).length ≤ h.next + bs2.length := by
    rcases ow with ⟨e, _⟩ | ⟨i, e, _, hi⟩
    · cases e
    · injection e with e1; injection e1 with e2; injection e2 with e3
      have := getElem?_lt hi
      simp; omega
  generalize (Value.slice (some ⟨h.next + (bs.length + 1), 0, none⟩) (xs.length + 1) (xs.length + 1)) = v1' at *
  refine EX.drwx (by
    intro KK hkk; unfold f69_r5
    simp only [SX, Nat.reduceEqDiff, ↓reduceIte, Nat.reduceSub, Nat.reduceAdd, Nat.reduceLT, Nat.reduceLeDiff, I.quiet, false_implies, implies_true, -List.reduceReplicate, t5, RD_ldfw, b0, hlv, ap, decP_2, decP_1, show decP [] = [] from rfl, List.mem_cons, List.not_mem_nil, or_false, forall_eq_or_imp, forall_eq, step_ins, run_ld, run_lds, e0, k0, app_next, hw.ro0, stAt_row, ow.one1, hl0, Nat.succ_pos]
    exact ⟨by simp, hle, by simp, hkk⟩) ?_
  refine k _ _ _ (fun j hj => ?_) (List.getElem?_set_self hl0) ?_ ?_
  · simp only [upd]
    repeat rw [if_neg (by omega)]
  · exact ow.keep fun i c hi => by rw [List.getElem?_set, if_neg (by rintro rfl; rw [k0] at hi; cases hi)]; exact hi
  · exact o2'.keep fun i c hi => by rw [List.getElem?_set, if_neg (by rintro rfl; rw [k0] at hi; cases hi)]; exact hi
theorem f69_r17_ok {m n0 a n i : Nat} {cells : List Value} {ls : Nat → List Int} {Q : Exit → Tm → AH → Prop} (hw : Wf h) (b0 : bs[0]? = some (some (.row 110 0 [L first, L ev, .slice (some ⟨h.next + a, 0, none⟩) n n]))) (o : OwnR 3 22 h.next bs a cells ls) (hn : cells.length = n) (hi : i < n) (hi1 : 1 ≤ i) (hs : n ≤ 100000) (hl : (ls i).length ≤ 1000000000)
    (t5 : T 5 = .pointer (some ⟨h.next, 0, none⟩)) (t9 : T 9 = .int .i64 (i : Nat))
    (k : ∀ (T2 : Tm) (bs2 : List (Option Blk)) (cells2 : List Value), (∀ j, j < 78 ∨ 94 < j → T2 j = T j) → bs2[0]? = some (some (.row 110 0 [L first, L ev, .slice (some ⟨h.next + a, 0, none⟩) n n])) → OwnR 3 22 h.next bs2 a cells2 (addR ls i ((i : Int) - 1)) → cells2.length = n → Q .normal T2 (h.app bs2)) : EX Go.Proofs.Try.prog m n0 (.drw f69_r17) T (h.app bs) Q := by
  subst hn
  obtain ⟨v, bs2, v2, hv, ap, hone, hbl, harr, ho2, keep⟩ := o.push (u := ((i : Int) - 1)) (e := 1) (bytes := 8) rfl hw (by decide) hi (by omega) (by omega)
  rw [cells_int] at ap
  have k0 := keep 0 _ b0 (by intro e c h; cases h)
  have hl0 := getElem?_lt k0
  have hal := getElem?_lt harr
  have ha0 : a ≠ 0 := by rintro rfl; have := o.arr; rw [b0] at this; cases this
  have e0 := get_ext (l := [some (Blk.row 3 1 [.int .i64 ((i : Int) - 1)])]) b0
  have ea := get_ext (l := [some (Blk.row 3 1 [.int .i64 ((i : Int) - 1)])]) o.arr
  have hws : IntKind.wrap .i64 ((i : Int) - 1) = (i : Int) - 1 := wrap_id (by omega) (by omega)
  refine EX.drwx (by
    intro KK hkk; unfold f69_r17
    simp only [SX, Nat.reduceEqDiff, ↓reduceIte, Nat.reduceSub, Nat.reduceAdd, Nat.reduceLT, Nat.reduceLeDiff, I.quiet, false_implies, implies_true, -List.reduceReplicate, t5, t9, RD_ldfw, b0, o.arr, ias1_own hi, hv, hws, ap, decP_2, decP_1, show decP [] = [] from rfl, List.mem_cons, List.not_mem_nil, or_false, forall_eq_or_imp, forall_eq, step_ins, run_ld, run_lds, e0, ea, k0, harr, app_next, hw.roi, stAt_row, hone, hi, hal]
    exact ⟨by simp, by simp; omega, by simp, hkk⟩) ?_
  refine k _ _ _ (fun j hj => ?_) ?_ ho2 (by simp)
  · simp only [upd]
    repeat rw [if_neg (by omega)]
  · rw [List.getElem?_set, if_neg ha0]; exact k0
theorem f69_r22_ok {m n0 a n i12 : Nat} {cells : List Value} {ls : Nat → List Int} {x : PArc} {ps : List (List Stg)} {Q : Exit → Tm → AH → Prop} (hw : Wf h) (hp : PathsA ps) (hx : ArcOk ps x) (b0 : bs[0]? = some (some (.row 110 0 [L (firstM ps), L ev, .slice (some ⟨h.next + a, 0, none⟩) n n]))) (b12 : bs[i12]? = some (some (.row 140 0 (Enc.cells x)))) (o : OwnR 3 22 h.next bs a cells ls) (hn : cells.length = n) (hi : n = (evM ps).length) (hl : ∀ r, (ls r).length ≤ 1000000000)
    (t5 : T 5 = .pointer (some ⟨h.next, 0, none⟩)) (t12 : T 12 = .pointer (some ⟨h.next + i12, 0, none⟩))
    (k : ∀ (T2 : Tm) (bs2 : List (Option Blk)) (cells2 : List Value), (∀ j, j < 104 ∨ 128 < j → T2 j = T j) → bs2[0]? = some (some (.row 110 0 [L (firstM ps), L ev, .slice (some ⟨h.next + a, 0, none⟩) n n])) → OwnR 3 22 h.next bs2 a cells2 (addR ls (numM (firstM ps) x.t).toNat (numM (firstM ps) x.f)) → cells2.length = n → Q .normal T2 (h.app bs2)) : EX Go.Proofs.Try.prog m n0 (.drw f69_r22) T (h.app bs) Q := by
  subst hn
  obtain ⟨hxf, hxt⟩ := hx
  obtain ⟨y0, y1⟩ := numM_ok hxt.evt
  obtain ⟨z0, z1⟩ := numM_ok hxf
  have hsm := evM_len hp
  have num : ∀ (e : Int × Int), EvtOk ps e → AC Go.Proofs.Try.prog 102 [.pointer (some ⟨h.next, 0, none⟩), rvA e] (h.app bs) (.int .i64 (numM (firstM ps) e)) (h.app bs) := by
    intro e he
    obtain ⟨t, q, rfl, h1, h2⟩ := evt_nat he
    have hfl : t < (firstM ps).length := by unfold firstM; rw [firstT_len]; exact h1
    have hnn := numM_ok he
    have hm : numM (firstM ps) ((t : Int), (q : Int)) = (firstM ps)[t] + (q : Int) := by rw [numM, Int.toNat_natCast, rd_eq hfl]
    rw [hm] at hnn ⊢
    exact AC.wf fun hw2 => f102_ok (h := h.app bs) hw2 (B := h.next) (first := firstM ps) (v1 := L ev) (v2 := .slice (some ⟨h.next + a, 0, none⟩) cells.length cells.length) (by rw [app_get0, b0]; rfl) (by rw [app_next]; have := getElem?_lt b0; omega) hfl hnn.1 (by omega)
  have c1 := num x.t hxt.evt
  have c2 := num x.f hxf
  generalize hyn : numM (firstM ps) x.t = y at *
  generalize hzn : numM (firstM ps) x.f = z at *
  obtain ⟨yn, rfl⟩ : ∃ yn : Nat, y = (yn : Int) := ⟨y.toNat, by omega⟩
  simp only [Int.toNat_natCast] at *
  have hyl : yn < cells.length := by omega
  obtain ⟨v, bs2, v2, hv, ap, hone, hbl, harr, ho2, keep⟩ := o.push (r := yn) (u := z) (e := 1) (bytes := 8) rfl hw (by decide) hyl (by have := hl yn; omega) (by have := hl yn; omega)
  rw [cells_int] at ap
  rw [cells_arc] at b12
  have k0 := keep 0 _ b0 (by intro e c h; cases h)
  have hl0 := getElem?_lt k0
  have hal := getElem?_lt harr
  have ha0 : a ≠ 0 := by rintro rfl; have := o.arr; rw [b0] at this; cases this
  have e0 := get_ext (l := [some (Blk.row 3 1 [.int .i64 z])]) b0
  have ea := get_ext (l := [some (Blk.row 3 1 [.int .i64 z])]) o.arr
  refine EX.drwx (by
    intro KK hkk; unfold f69_r22
    simp only [SX, Nat.reduceEqDiff, ↓reduceIte, Nat.reduceSub, Nat.reduceAdd, Nat.reduceLT, Nat.reduceLeDiff, I.quiet, false_implies, implies_true, -List.reduceReplicate, t5, t12, RD_ldfw, b0, b12, ldsAt_row, Nat.reduceAdd, Nat.reduceLeDiff]
    refine RD_callE (v := .int .i64 (yn : Nat)) (h' := h.app bs) c1 (Nat.le_refl _) (by simp only [SX, Nat.reduceEqDiff, ↓reduceIte, Nat.reduceSub, Nat.reduceAdd, Nat.reduceLT, Nat.reduceLeDiff, I.quiet, false_implies, implies_true, -List.reduceReplicate, t5, b0, decP_2, decP_1, show decP [] = [] from rfl, List.mem_cons, List.not_mem_nil, or_false, forall_eq_or_imp, forall_eq, step_ins, run_ld, run_lds]) ?_
    simp only [SX, Nat.reduceEqDiff, ↓reduceIte, Nat.reduceSub, Nat.reduceAdd, Nat.reduceLT, Nat.reduceLeDiff, I.quiet, false_implies, implies_true, -List.reduceReplicate, t5, t12, RD_ldfw, RD_ldb, b0, b12, ldsAt_row, decP_2, decP_1, show decP [] = [] from rfl, List.mem_cons, List.not_mem_nil, or_false, forall_eq_or_imp, forall_eq, step_ins, run_ld, run_lds, Nat.reduceAdd, Nat.reduceLeDiff, List.take_succ_cons, List.take_zero]
    refine RD_callE (v := .int .i64 (yn : Nat)) (h' := h.app bs) c1 (Nat.le_refl _) (by simp only [SX, Nat.reduceEqDiff, ↓reduceIte, Nat.reduceSub, Nat.reduceAdd, Nat.reduceLT, Nat.reduceLeDiff, I.quiet, false_implies, implies_true, -List.reduceReplicate, t5, b0, decP_2, decP_1, show decP [] = [] from rfl, List.mem_cons, List.not_mem_nil, or_false, forall_eq_or_imp, forall_eq, step_ins, run_ld, run_lds]) ?_
    simp only [SX, Nat.reduceEqDiff, ↓reduceIte, Nat.reduceSub, Nat.reduceAdd, Nat.reduceLT, Nat.reduceLeDiff, I.quiet, false_implies, implies_true, -List.reduceReplicate, t5, t12, RD_ldfw, RD_ldb, b0, b12, o.arr, ias1_own hyl, hv, ldsAt_row, decP_2, decP_1, show decP [] = [] from rfl, List.mem_cons, List.not_mem_nil, or_false, forall_eq_or_imp, forall_eq, step_ins, run_ld, run_lds, Nat.reduceAdd, Nat.reduceLeDiff, List.take_succ_cons, List.take_zero]
    refine RD_callE (v := .int .i64 z) (h' := h.app bs) c2 (Nat.le_refl _) (by simp only [SX, Nat.reduceEqDiff, ↓reduceIte, Nat.reduceSub, Nat.reduceAdd, Nat.reduceLT, Nat.reduceLeDiff, I.quiet, false_implies, implies_true, -List.reduceReplicate, t5, b0, o.arr, hv, decP_2, decP_1, show decP [] = [] from rfl, List.mem_cons, List.not_mem_nil, or_false, forall_eq_or_imp, forall_eq, step_ins, run_ld, run_lds]) ?_
    simp only [SX, Nat.reduceEqDiff, ↓reduceIte, Nat.reduceSub, Nat.reduceAdd, Nat.reduceLT, Nat.reduceLeDiff, I.quiet, false_implies, implies_true, -List.reduceReplicate, t5, t12, RD_ldfw, RD_ldb, b0, b12, o.arr, ias1_own hyl, hv, ap, ldsAt_row, decP_2, decP_1, show decP [] = [] from rfl, List.mem_cons, List.not_mem_nil, or_false, forall_eq_or_imp, forall_eq, step_ins, run_ld, run_lds, Nat.reduceAdd, Nat.reduceLeDiff, List.take_succ_cons, List.take_zero, e0, ea, k0, harr, app_next, hw.roi, stAt_row, hone, hyl, hal]
    exact ⟨by simp, by simp; omega, by simp, hkk⟩) ?_
  refine k _ _ _ (fun j hj => ?_) ?_ ho2 (by simp)
  · simp only [upd]
    repeat rw [if_neg (by omega)]
  · rw [List.getElem?_set, if_neg ha0]; exact k0
end
end Go.Proofs.Ythofdojknjhpgaa
set_option linter.unusedVariables false
set_option linter.unusedSimpArgs false
namespace Go.Proofs.Ythofdojknjhpgaa
open Go
section
variable {h : AH}
theorem zeros_slices (n : Nat) : zerosN [.slice none 0 0] n = List.replicate n (.slice none 0 0) := by
  induction n with
  | zero => rfl
  | succ n ih => rw [zerosN, ih, List.replicate_succ]; rfl
theorem ownR_start {α : Type} [Enc α] {t tr : TypeId} {n a m : Nat} {bs : List (Option Blk)} {ls : Nat → List α} (ha : bs[a]? = some (some (.row tr 1 (List.replicate m (.slice none 0 0))))) (hl : ∀ r, ls r = []) : OwnR t tr n bs a (List.replicate m (.slice none 0 0)) ls := by
  refine ⟨ha, fun r hr => ⟨_, by rw [List.getElem?_replicate, if_pos (by simpa using hr)], .inl ⟨rfl, hl r⟩⟩, ?_⟩
  intro r r' B x y x' y' h1
  rw [List.getElem?_replicate] at h1
  split at h1 <;> simp at h1
theorem OwnR.ext {α : Type} [Enc α] {t tr : TypeId} {n a : Nat} {bs l : List (Option Blk)} {cells : List Value} {ls : Nat → List α} (o : OwnR t tr n bs a cells ls) : OwnR t tr n (bs ++ l) a cells ls :=
  ⟨get_ext o.arr, fun r hr => by obtain ⟨v, h1, h2⟩ := o.own r hr; exact ⟨v, h1, h2.ext⟩, o.inj⟩
/-- 'build'. -/
theorem f69_ok {ps : List (List Stg)} {os : List Ordr} (hp : PathsA ps) (ho : OsA ps os) : AC Go.Proofs.Try.prog 69 [L ps, L os] h (gV (firstM ps) (evM ps) (insM ps os)) h := by
  have lp := hp.1
  refine AC.wf fun hw => AC.of_app hw gV_cl ?_
  refine EC.intro f69_is ?_
  unfold f69_c
  (refine EX.rg (by intro KK hkk; unfold f69_r0; simp only [SX, Nat.reduceEqDiff, ↓reduceIte, Nat.reduceSub, Nat.reduceAdd, Nat.reduceLT, Nat.reduceLeDiff, I.quiet, false_implies, implies_true, -List.reduceReplicate]; exact hkk) ?_)
  (refine EX.rg (by intro KK hkk; unfold f69_r1; simp only [SX, Nat.reduceEqDiff, ↓reduceIte, Nat.reduceSub, Nat.reduceAdd, Nat.reduceLT, Nat.reduceLeDiff, I.quiet, false_implies, implies_true, -List.reduceReplicate, new_app hw]; exact hkk) ?_)
  (refine EX.rg (by intro KK hkk; unfold f69_r2; simp only [SX, Nat.reduceEqDiff, ↓reduceIte, Nat.reduceSub, Nat.reduceAdd, Nat.reduceLT, Nat.reduceLeDiff, I.quiet, false_implies, implies_true, -List.reduceReplicate]; exact hkk) ?_)
  refine EX.nxtR (F := fun T1 H1 => ∃ v1 v2 bs, T1 0 = L ps ∧ T1 1 = L os ∧ T1 5 = .pointer (some ⟨h.next, 0, none⟩) ∧ H1 = h.app bs ∧ bs[0]? = some (some (.row 110 0 [v1, v2, .slice none 0 0])) ∧ OwnG 3 h.next bs v1 (firstM ps) ∧ OwnG 48 h.next bs v2 (evM ps)) ?_ ?_
  · (with_reducible repeat first|apply EX.seq|apply EX.blk)
    refine EX.loop (σ := Nat × Value × Value × List (Option Blk)) (fun s => upd (upd (upd (upd (upd (upd TE 0 (L ps)) 1 (L os)) 5 (.pointer (some ⟨h.next, 0, none⟩))) 15 (L ps)) 16 (.int .i64 ps.length)) 17 (.int .i64 (s.1 : Nat))) (fun s => h.app s.2.2.2)
      (fun s => s.1 ≤ ps.length ∧ s.2.2.2[0]? = some (some (.row 110 0 [s.2.1, s.2.2.1, .slice none 0 0])) ∧ OwnG 3 h.next s.2.2.2 s.2.1 (firstT ps s.1) ∧ OwnG 48 h.next s.2.2.2 s.2.2.1 (evT ps s.1)) (fun s => ps.length - s.1) (0, .slice none 0 0, .slice none 0 0, [some (.row 110 0 [.slice none 0 0, .slice none 0 0, .slice none 0 0])]) ⟨Nat.zero_le _, rfl, .inl ⟨rfl, rfl⟩, .inl ⟨rfl, rfl⟩⟩ (Less.wk (by (repeat refine Less.upd ?_ (by rfl)); exact Less.nil)) ?_
    rintro ⟨t, v1, v2, bs⟩ ⟨ht, b0, o1, o2⟩
    simp only at ht b0 o1 o2
    (refine EX.rg (by intro KK hkk; unfold f69_r3; simp only [SX, Nat.reduceEqDiff, ↓reduceIte, Nat.reduceSub, Nat.reduceAdd, Nat.reduceLT, Nat.reduceLeDiff, I.quiet, false_implies, implies_true, -List.reduceReplicate, lt_nat]; exact hkk) ?_)
    (with_reducible repeat first|apply EX.seq|apply EX.blk)
    refine EX.dec rfl (fun hlt => ?_) (fun hlt => ?_)
    · (refine EX.skip ?_; (with_reducible repeat first|apply nA|apply nB|apply nC|apply nD|apply nE|apply nF|apply nG (by decide)|apply nH|apply nI|apply nJ))
      have hpl := (hp.2 (rd ps t) (rd_mem hlt)).1
      have hel := evT_len hp t ht
      have hfl := firstT_len (ps := ps) t
      have hnf : firstT ps (t + 1) = firstT ps t ++ [((evT ps t).length : Int)] := rfl
      have hne : evT ps (t + 1) = evT ps t ++ evK t ((rd ps t).length + 1) := rfl
      (refine EX.rg (by intro KK hkk; unfold f69_r4; simp only [SX, Nat.reduceEqDiff, ↓reduceIte, Nat.reduceSub, Nat.reduceAdd, Nat.reduceLT, Nat.reduceLeDiff, I.quiet, false_implies, implies_true, -List.reduceReplicate, hlt, ld1_ef hlt o1l]; exact hkk) ?_)
      generalize rd ps t = p at *
      (with_reducible repeat first|apply EX.seq|apply EX.blk)
      refine f69_r5_ok hw (by omega) (by omega) b0 o1 o2 rfl (fun T2 bs2 v1' hT b0' o1' o2' => ?_)
      have u0 := (hT 0 (.inl (by decide))).trans rfl
      have u1 := (hT 1 (.inl (by decide))).trans rfl
      have u5 := (hT 5 (.inl (by decide))).trans rfl
      have u6 := (hT 6 (.inl (by decide))).trans rfl
      have u7 := (hT 7 (.inl (by decide))).trans rfl
      have u15 := (hT 15 (.inl (by decide))).trans rfl
      have u16 := (hT 16 (.inl (by decide))).trans rfl
      have u17 := (hT 17 (.inl (by decide))).trans rfl
      simp only [upd, Nat.reduceEqDiff, reduceIte] at u0 u1 u5 u6 u7 u15 u16 u17
      clear hT
      rw [← hnf] at o1'
      (with_reducible repeat first|apply nA|apply nB|apply nC|apply nD|apply nE|apply nF|apply nG (by decide)|apply nH|apply nI|apply nJ)
      have hw1 : IntKind.wrap .i64 ((p.length : Int) + 1) = ((p.length + 1 : Nat) : Int) := wrap_nat (by omega)
      (refine EX.rg (by intro KK hkk; unfold f69_r6; simp only [SX, Nat.reduceEqDiff, ↓reduceIte, Nat.reduceSub, Nat.reduceAdd, Nat.reduceLT, Nat.reduceLeDiff, I.quiet, false_implies, implies_true, -List.reduceReplicate, u7, hw1]; exact hkk) ?_)
      refine EX.cutR (F := fun T1 H1 => ∃ v2' bs3, T1 0 = L ps ∧ T1 1 = L os ∧ T1 5 = .pointer (some ⟨h.next, 0, none⟩) ∧ T1 15 = L ps ∧ T1 16 = .int .i64 ps.length ∧ T1 17 = .int .i64 (t : Nat) ∧ H1 = h.app bs3 ∧ bs3[0]? = some (some (.row 110 0 [v1', v2', .slice none 0 0])) ∧ OwnG 3 h.next bs3 v1' (firstT ps (t + 1)) ∧ OwnG 48 h.next bs3 v2' (evT ps (t + 1))) ?_ ?_
      · (with_reducible repeat first|apply EX.seq|apply EX.blk)
        refine EX.loop (σ := Nat × Value × List (Option Blk)) (fun s => upd (upd (upd (upd (upd (upd (upd (upd (upd TE 0 (L ps)) 1 (L os)) 5 (.pointer (some ⟨h.next, 0, none⟩))) 6 (.int .i64 (t : Nat))) 15 (L ps)) 16 (.int .i64 ps.length)) 17 (.int .i64 (t : Nat))) 38 (.int .i64 ((p.length + 1 : Nat) : Int))) 39 (.int .i64 (s.1 : Nat))) (fun s => h.app s.2.2)
          (fun s => s.1 ≤ p.length + 1 ∧ s.2.2[0]? = some (some (.row 110 0 [v1', s.2.1, .slice none 0 0])) ∧ OwnG 3 h.next s.2.2 v1' (firstT ps (t + 1)) ∧ OwnG 48 h.next s.2.2 s.2.1 (evT ps t ++ evK t s.1)) (fun s => p.length + 1 - s.1) (0, v2, bs2) ⟨Nat.zero_le _, b0', o1', by rw [show evK t 0 = [] from rfl, List.append_nil]; exact o2'⟩ ?_ ?_
        · refine Less.wk ?_
          refine Less.upd (Less.upd (Less.upd (Less.upd (Less.upd (Less.upd (Less.upd (Less.upd (Less.upd Less.nil ?_) ?_) ?_) ?_) ?_) ?_) ?_) ?_) ?_ <;> simp [upd, u0, u1, u5, u6, u15, u16, u17]
        rintro ⟨k, v3, bs3⟩ ⟨hk, c0, c1, c2⟩
        simp only at hk c0 c1 c2
        (refine EX.rg (by intro KK hkk; unfold f69_r7; simp only [SX, Nat.reduceEqDiff, ↓reduceIte, Nat.reduceSub, Nat.reduceAdd, Nat.reduceLT, Nat.reduceLeDiff, I.quiet, false_implies, implies_true, -List.reduceReplicate, lt_nat]; exact hkk) ?_)
        (with_reducible repeat first|apply EX.seq|apply EX.blk)
        refine EX.dec rfl (fun hlk => ?_) (fun hlk => ?_)
        · (refine EX.skip ?_; (with_reducible repeat first|apply nA|apply nB|apply nC|apply nD|apply nE|apply nF|apply nG (by decide)|apply nH|apply nI|apply nJ))
          have hkl := evK_len (t := t) (k := k)
          (refine EX.rg (by intro KK hkk; unfold f69_r8; simp only [SX, Nat.reduceEqDiff, ↓reduceIte, Nat.reduceSub, Nat.reduceAdd, Nat.reduceLT, Nat.reduceLeDiff, I.quiet, false_implies, implies_true, -List.reduceReplicate]; exact hkk) ?_)
          obtain ⟨bs4, ap, ow, keep⟩ := c2.push (x := ((t : Int), (k : Int))) (e := 2) (bytes := 16) rfl hw (by rw [List.length_append]; omega) (by rw [List.length_append]; omega)
          have hcr : Enc.cells ((t : Int), (k : Int)) = [.int .i64 (t : Int), .int .i64 (k : Int)] := rfl
          rw [hcr] at ap
          have k0 := keep 0 _ c0 (by intro c e; cases e)
          have hl0 := getElem?_lt k0
          have c1' : OwnG 3 h.next bs4 v1' (firstT ps (t + 1)) := c1.keep fun i c hi => keep _ _ hi (by intro c e; cases e)
          rw [List.append_assoc, ← evK_succ] at ow
          generalize (Value.slice (some ⟨h.next + (bs3.length + 1), 0, none⟩) ((evT ps t ++ evK t k).length + 1) ((evT ps t ++ evK t k).length + 1)) = v4 at *
          (refine EX.rg (by intro KK hkk; unfold f69_r9; simp only [SX, Nat.reduceEqDiff, ↓reduceIte, Nat.reduceSub, Nat.reduceAdd, Nat.reduceLT, Nat.reduceLeDiff, I.quiet, false_implies, implies_true, -List.reduceReplicate, c0, fill1_agg, ap, k0, app_next, hw.ro0, stAt_row, ow.one1, hl0, Nat.reduceLT]; exact hkk) ?_)
          (refine EX.rg (by intro KK hkk; unfold f69_r10; simp only [SX, Nat.reduceEqDiff, ↓reduceIte, Nat.reduceSub, Nat.reduceAdd, Nat.reduceLT, Nat.reduceLeDiff, I.quiet, false_implies, implies_true, -List.reduceReplicate, wrap_nat (show k < 4611686018427387904 by omega)]; exact hkk) ?_)
          refine ⟨(k + 1, v4, bs4.set 0 (some (.row 110 0 [v1', v4, .slice none 0 0]))), ⟨hlk, List.getElem?_set_self hl0, ?_, ?_⟩, by show p.length + 1 - (k + 1) < p.length + 1 - k; omega, Less.wk (by (repeat refine Less.upd ?_ (by rfl)); exact Less.nil)⟩
          · exact c1'.keep fun i c hi => by rw [List.getElem?_set, if_neg (by rintro rfl; rw [k0] at hi; cases hi)]; exact hi
          · exact ow.keep fun i c hi => by rw [List.getElem?_set, if_neg (by rintro rfl; rw [k0] at hi; cases hi)]; exact hi
        · (refine EX.exit ?_; (with_reducible repeat first|apply nA|apply nB|apply nC|apply nD|apply nE|apply nF|apply nG (by decide)|apply nH|apply nI|apply nJ))
          obtain rfl : k = p.length + 1 := by omega
          exact ⟨v3, bs3, rfl, rfl, rfl, rfl, rfl, rfl, rfl, c0, c1, by rw [hne]; exact c2⟩
      · rintro T1 H1 ⟨v2', bs3, t0, t1, t5, t15, t16, t17, rfl, c0, c1, c2⟩
        (with_reducible repeat first|apply nA|apply nB|apply nC|apply nD|apply nE|apply nF|apply nG (by decide)|apply nH|apply nI|apply nJ)
        (refine EX.rg (by intro KK hkk; unfold f69_r11; simp only [SX, Nat.reduceEqDiff, ↓reduceIte, Nat.reduceSub, Nat.reduceAdd, Nat.reduceLT, Nat.reduceLeDiff, I.quiet, false_implies, implies_true, -List.reduceReplicate, t17, wrap_nat (show t < 4611686018427387904 by omega)]; exact hkk) ?_)
        refine ⟨(t + 1, v1', v2', bs3), ⟨hlt, c0, c1, c2⟩, by show ps.length - (t + 1) < ps.length - t; omega, Less.wk ?_⟩
        refine Less.upd (Less.upd (Less.upd (Less.upd (Less.upd (Less.upd Less.nil ?_) ?_) ?_) ?_) ?_) ?_ <;> simp [upd, t0, t1, t5, t15, t16]
    · (refine EX.exit ?_; (with_reducible repeat first|apply nA|apply nB|apply nC|apply nD|apply nE|apply nF|apply nG (by decide)|apply nH|apply nI|apply nJ))
      obtain rfl : t = ps.length := by omega
      exact ⟨v1, v2, bs, rfl, rfl, rfl, rfl, b0, o1, o2⟩
  · rintro T1 H1 ⟨v1, v2, bs, t0, t1, t5, rfl, b0, o1, o2⟩
    have hel := evM_len hp
    have hfl : (firstM ps).length = ps.length := firstT_len _
    have hgk := gOk hp ho
    obtain ⟨bs1, l1, b1, k1, w1⟩ := o1.frzCell (o := 0) (T := T1) (T0 := upd (upd (upd TE 0 (L ps)) 1 (L os)) 5 (.pointer (some ⟨h.next, 0, none⟩))) hw b0 rfl (by decide) (by omega) (fun i => by
      unfold Go.Proofs.Ythofdojknjhpgaa.upd
      split
      · rename_i e; subst e; exact .inr t5.symm
      · split
        · rename_i e; subst e; exact .inr t1.symm
        · split
          · rename_i e; subst e; exact .inr t0.symm
          · exact .inl rfl)
    simp only [List.set_cons_zero] at b1
    have o2' : OwnG 48 h.next bs1 v2 (evM ps) := by
      rcases o2 with o2 | ⟨i, g1, g2, g3⟩
      · exact .inl o2
      · refine .inr ⟨i, g1, g2, k1 i _ (by rintro rfl; rw [b0] at g3; cases g3) g3 fun x y e => ?_⟩
        obtain ⟨j, g4, g5⟩ := o1.lt e
        obtain rfl : i = j := by omega
        rw [g3] at g5; cases g5
    obtain ⟨bs2, l2, b2, k2, w2⟩ := o2'.frzCell (o := 1) (T := upd (upd (upd TE 0 (L ps)) 1 (L os)) 5 (.pointer (some ⟨h.next, 0, none⟩))) (T0 := upd (upd (upd TE 0 (L ps)) 1 (L os)) 5 (.pointer (some ⟨h.next, 0, none⟩))) hw b1 rfl (by decide) (by omega) (fun i => .inr rfl)
    simp only [List.set_cons_zero, List.set_cons_succ] at b2
    refine EX.wk ?_ (w1.trans w2)
    clear w1 w2 k1 k2 o1 o2 o2' b0 b1 l1 l2 t0 t1 t5
    have hl0 := getElem?_lt b2
    have e0 := get_ext (l := [some (Blk.row 22 1 (List.replicate (evM ps).length (.slice none 0 0)))]) b2
    have ea : (bs2 ++ [some (Blk.row 22 1 (List.replicate (evM ps).length (.slice none 0 0)))])[bs2.length]? = some (some (.row 22 1 (List.replicate (evM ps).length (.slice none 0 0)))) := get_last
    have hl0' : 0 < (bs2 ++ [some (Blk.row 22 1 (List.replicate (evM ps).length (.slice none 0 0)))]).length := getElem?_lt e0
    (with_reducible repeat first|apply nA|apply nB|apply nC|apply nD|apply nE|apply nF|apply nG (by decide)|apply nH|apply nI|apply nJ)
    (refine EX.rg (by intro KK hkk; unfold f69_r12; simp only [SX, Nat.reduceEqDiff, ↓reduceIte, Nat.reduceSub, Nat.reduceAdd, Nat.reduceLT, Nat.reduceLeDiff, I.quiet, false_implies, implies_true, -List.reduceReplicate, b2, run_mks, mks1_nat (show 24 * (evM ps).length ≤ 281474976710656 by omega) (show (evM ps).length ≤ 4611686018427387904 by omega), zeros_slices, e0, app_next, hw.ro0, stAt_row, hl0', Nat.reduceLT]; exact hkk) ?_)
    have b0 : ((bs2 ++ [some (Blk.row 22 1 (List.replicate (evM ps).length (.slice none 0 0)))]).set 0 (some (.row 110 0 [L (firstM ps), L (evM ps), .slice (some ⟨h.next + bs2.length, 0, none⟩) (evM ps).length (evM ps).length])))[0]? = some (some (.row 110 0 [L (firstM ps), L (evM ps), .slice (some ⟨h.next + bs2.length, 0, none⟩) (evM ps).length (evM ps).length])) := List.getElem?_set_self hl0'
    have ob : OwnR 3 22 h.next ((bs2 ++ [some (Blk.row 22 1 (List.replicate (evM ps).length (.slice none 0 0)))]).set 0 (some (.row 110 0 [L (firstM ps), L (evM ps), .slice (some ⟨h.next + bs2.length, 0, none⟩) (evM ps).length (evM ps).length]))) bs2.length (List.replicate (evM ps).length (.slice none 0 0)) (baseI (evM ps) 0) := ownR_start (by
      rw [List.getElem?_set, if_neg (by omega)]; exact ea) (fun r => by unfold baseI; rw [if_neg (by omega)])
    have hcl : (List.replicate (evM ps).length (Value.slice none 0 0)).length = (evM ps).length := by simp
    generalize List.replicate (evM ps).length (Value.slice none 0 0) = cells0 at *
    generalize (bs2 ++ [some (Blk.row 22 1 cells0)]).set 0 (some (.row 110 0 [L (firstM ps), L (evM ps), .slice (some ⟨h.next + bs2.length, 0, none⟩) (evM ps).length (evM ps).length])) = bsi at *
    generalize bs2.length = a at *
    clear hl0 e0 ea hl0' b2
    (refine EX.rg (by intro KK hkk; unfold f69_r13; simp only [SX, Nat.reduceEqDiff, ↓reduceIte, Nat.reduceSub, Nat.reduceAdd, Nat.reduceLT, Nat.reduceLeDiff, I.quiet, false_implies, implies_true, -List.reduceReplicate, b0]; exact hkk) ?_)
    refine EX.nxtR (F := fun T1 H1 => ∃ bs cells, T1 0 = L ps ∧ T1 1 = L os ∧ T1 5 = .pointer (some ⟨h.next, 0, none⟩) ∧ H1 = h.app bs ∧ bs[0]? = some (some (.row 110 0 [L (firstM ps), L (evM ps), .slice (some ⟨h.next + a, 0, none⟩) (evM ps).length (evM ps).length])) ∧ OwnR 3 22 h.next bs a cells (baseI (evM ps) (evM ps).length) ∧ cells.length = (evM ps).length) ?_ ?_
    · (with_reducible repeat first|apply EX.seq|apply EX.blk)
      refine EX.loop (σ := Nat × List Value × List (Option Blk)) (fun s => upd (upd (upd (upd (upd (upd TE 0 (L ps)) 1 (L os)) 5 (.pointer (some ⟨h.next, 0, none⟩))) 68 (L (evM ps))) 69 (.int .i64 (evM ps).length)) 70 (.int .i64 (s.1 : Nat))) (fun s => h.app s.2.2)
        (fun s => s.1 ≤ (evM ps).length ∧ s.2.2[0]? = some (some (.row 110 0 [L (firstM ps), L (evM ps), .slice (some ⟨h.next + a, 0, none⟩) (evM ps).length (evM ps).length])) ∧ OwnR 3 22 h.next s.2.2 a s.2.1 (baseI (evM ps) s.1) ∧ s.2.1.length = (evM ps).length) (fun s => (evM ps).length - s.1) (0, cells0, bsi) ⟨Nat.zero_le _, b0, ob, hcl⟩ (Less.wk (by (repeat refine Less.upd ?_ (by rfl)); exact Less.nil)) ?_
      rintro ⟨i, cells, bs⟩ ⟨hi, c0, c1, c2⟩
      simp only at hi c0 c1 c2
      (refine EX.rg (by intro KK hkk; unfold f69_r14; simp only [SX, Nat.reduceEqDiff, ↓reduceIte, Nat.reduceSub, Nat.reduceAdd, Nat.reduceLT, Nat.reduceLeDiff, I.quiet, false_implies, implies_true, -List.reduceReplicate, lt_nat]; exact hkk) ?_)
      (with_reducible repeat first|apply EX.seq|apply EX.blk)
      refine EX.dec rfl (fun hlt => ?_) (fun hlt => ?_)
      · (refine EX.skip ?_; (with_reducible repeat first|apply nA|apply nB|apply nC|apply nD|apply nE|apply nF|apply nG (by decide)|apply nH|apply nI|apply nJ))
        have hpos := evM_pos hlt
        have hbs := baseI_succ (ev := evM ps) (i := i)
        (refine EX.rg (by intro KK hkk; unfold f69_r15; simp only [SX, Nat.reduceEqDiff, ↓reduceIte, Nat.reduceSub, Nat.reduceAdd, Nat.reduceLT, Nat.reduceLeDiff, I.quiet, false_implies, implies_true, -List.reduceReplicate, hlt, wref, lds_ref hlt, hw.roi, stAt_all, get_last, set_last, lt_last]; exact hkk) ?_)
        generalize rd (evM ps) i = u at *
        have c0' := get_ext (l := [some (Blk.row 48 0 [.int .i64 u.1, .int .i64 u.2])]) c0
        have c1' := c1.ext (l := [some (Blk.row 48 0 [.int .i64 u.1, .int .i64 u.2])])
        have c10 : (bs ++ [some (Blk.row 48 0 [.int .i64 u.1, .int .i64 u.2])])[bs.length]? = some (some (.row 48 0 [.int .i64 u.1, .int .i64 u.2])) := get_last
        generalize bs ++ [some (Blk.row 48 0 [.int .i64 u.1, .int .i64 u.2])] = bs3 at *
        generalize bs.length = i10 at *
        (refine EX.rg (by intro KK hkk; unfold f69_r16; simp only [SX, Nat.reduceEqDiff, ↓reduceIte, Nat.reduceSub, Nat.reduceAdd, Nat.reduceLT, Nat.reduceLeDiff, I.quiet, false_implies, implies_true, -List.reduceReplicate, c10]; exact hkk) ?_)
        refine EX.dec rfl (fun hd => ?_) (fun hd => ?_)
        · rw [if_pos hd] at hbs
          refine f69_r17_ok hw c0' c1' c2 hlt (hpos hd) (by omega) (Nat.le_trans baseI_len (by decide)) rfl rfl (fun T2 bs4 cells2 hT d0 d1 d2 => ?_)
          have u0 := (hT 0 (.inl (by decide))).trans rfl
          have u1 := (hT 1 (.inl (by decide))).trans rfl
          have u5 := (hT 5 (.inl (by decide))).trans rfl
          have u68 := (hT 68 (.inl (by decide))).trans rfl
          have u69 := (hT 69 (.inl (by decide))).trans rfl
          have u70 := (hT 70 (.inl (by decide))).trans rfl
          simp only [upd, Nat.reduceEqDiff, reduceIte] at u0 u1 u5 u68 u69 u70
          clear hT
          (with_reducible repeat first|apply nA|apply nB|apply nC|apply nD|apply nE|apply nF|apply nG (by decide)|apply nH|apply nI|apply nJ)
          (refine EX.rg (by intro KK hkk; unfold f69_r18; simp only [SX, Nat.reduceEqDiff, ↓reduceIte, Nat.reduceSub, Nat.reduceAdd, Nat.reduceLT, Nat.reduceLeDiff, I.quiet, false_implies, implies_true, -List.reduceReplicate, u70, wrap_nat (show i < 4611686018427387904 by omega)]; exact hkk) ?_)
          refine ⟨(i + 1, cells2, bs4), ⟨hlt, d0, by rw [hbs]; exact d1, d2⟩, by show (evM ps).length - (i + 1) < (evM ps).length - i; omega, Less.wk ?_⟩
          refine Less.upd (Less.upd (Less.upd (Less.upd (Less.upd (Less.upd Less.nil ?_) ?_) ?_) ?_) ?_) ?_ <;> simp [upd, u0, u1, u5, u68, u69]
        · rw [if_neg hd] at hbs
          (refine EX.skip ?_; (with_reducible repeat first|apply nA|apply nB|apply nC|apply nD|apply nE|apply nF|apply nG (by decide)|apply nH|apply nI|apply nJ))
          (refine EX.rg (by intro KK hkk; unfold f69_r18; simp only [SX, Nat.reduceEqDiff, ↓reduceIte, Nat.reduceSub, Nat.reduceAdd, Nat.reduceLT, Nat.reduceLeDiff, I.quiet, false_implies, implies_true, -List.reduceReplicate, wrap_nat (show i < 4611686018427387904 by omega)]; exact hkk) ?_)
          refine ⟨(i + 1, cells, bs3), ⟨hlt, c0', by rw [hbs]; exact c1', c2⟩, by show (evM ps).length - (i + 1) < (evM ps).length - i; omega, Less.wk (by (repeat refine Less.upd ?_ (by rfl)); exact Less.nil)⟩
      · (refine EX.exit ?_; (with_reducible repeat first|apply nA|apply nB|apply nC|apply nD|apply nE|apply nF|apply nG (by decide)|apply nH|apply nI|apply nJ))
        obtain rfl : i = (evM ps).length := by omega
        exact ⟨bs, cells, rfl, rfl, rfl, rfl, c0, c1, c2⟩
    · rintro T1 H1 ⟨bs, cells, t0, t1, t5, rfl, c0, c1, c2⟩
      have hal := arcsA_len (ps := ps) ho.ul os.length (Nat.le_refl _)
      have hao := arcsA_ok ho os.length (Nat.le_refl _)
      have hol := ho.len
      have c101 := fun H : AH => f101_ok (h := H) hp ho
      have har : arcsA ps os os.length = arcsM ps os := rfl
      rw [har] at hal hao c101
      have hil := insT_len (first := firstM ps) (arcs := arcsM ps os) (base := baseI (evM ps) (evM ps).length) (fun r => baseI_len)
      have him : insM ps os = (List.range (evM ps).length).map (insT (firstM ps) (arcsM ps os) (baseI (evM ps) (evM ps).length) (arcsM ps os).length) := rfl
      have hns : ∀ j, insT (firstM ps) (arcsM ps os) (baseI (evM ps) (evM ps).length) (j + 1) = addR (insT (firstM ps) (arcsM ps os) (baseI (evM ps) (evM ps).length) j) (numM (firstM ps) (rd (arcsM ps os) j).t).toNat (numM (firstM ps) (rd (arcsM ps os) j).f) := fun _ => rfl
      have hn0 : insT (firstM ps) (arcsM ps os) (baseI (evM ps) (evM ps).length) 0 = baseI (evM ps) (evM ps).length := rfl
      generalize arcsM ps os = arcs at *
      generalize insT (firstM ps) arcs (baseI (evM ps) (evM ps).length) = it at *
      rw [← hn0] at c1
      (with_reducible repeat first|apply nA|apply nB|apply nC|apply nD|apply nE|apply nF|apply nG (by decide)|apply nH|apply nI|apply nJ)
      (refine EX.rg (by intro KK hkk; unfold f69_r19; simp only [SX, Nat.reduceEqDiff, ↓reduceIte, Nat.reduceSub, Nat.reduceAdd, Nat.reduceLT, Nat.reduceLeDiff, I.quiet, false_implies, implies_true, -List.reduceReplicate, t0, t1]; refine RO_callvS (c101 _) ?_; simp only [SX, Nat.reduceEqDiff, ↓reduceIte, Nat.reduceSub, Nat.reduceAdd, Nat.reduceLT, Nat.reduceLeDiff, I.quiet, false_implies, implies_true, -List.reduceReplicate, t0, t1]; exact hkk) ?_)
      (with_reducible repeat first|apply EX.seq|apply EX.blk)
      refine EX.loop (σ := Nat × List Value × List (Option Blk)) (fun s => upd (upd (upd (upd TE 5 (.pointer (some ⟨h.next, 0, none⟩))) 98 (L arcs)) 99 (.int .i64 arcs.length)) 100 (.int .i64 (s.1 : Nat))) (fun s => h.app s.2.2)
        (fun s => s.1 ≤ arcs.length ∧ s.2.2[0]? = some (some (.row 110 0 [L (firstM ps), L (evM ps), .slice (some ⟨h.next + a, 0, none⟩) (evM ps).length (evM ps).length])) ∧ OwnR 3 22 h.next s.2.2 a s.2.1 (it s.1) ∧ s.2.1.length = (evM ps).length) (fun s => arcs.length - s.1) (0, cells, bs) ⟨Nat.zero_le _, c0, c1, c2⟩ ?_ ?_
      · refine Less.wk ?_
        refine Less.upd (Less.upd (Less.upd (Less.upd Less.nil ?_) ?_) ?_) ?_ <;> simp [upd, t5]
      rintro ⟨j, cells3, bs3⟩ ⟨hj, d0, d1, d2⟩
      simp only at hj d0 d1 d2
      (refine EX.rg (by intro KK hkk; unfold f69_r20; simp only [SX, Nat.reduceEqDiff, ↓reduceIte, Nat.reduceSub, Nat.reduceAdd, Nat.reduceLT, Nat.reduceLeDiff, I.quiet, false_implies, implies_true, -List.reduceReplicate, lt_nat]; exact hkk) ?_)
      (with_reducible repeat first|apply EX.seq|apply EX.blk)
      refine EX.dec rfl (fun hlt => ?_) (fun hlt => ?_)
      · (refine EX.skip ?_; (with_reducible repeat first|apply nA|apply nB|apply nC|apply nD|apply nE|apply nF|apply nG (by decide)|apply nH|apply nI|apply nJ))
        have hxo := hao _ (rd_mem hlt)
        have hef : ∀ H : AH, lds1 4 (ef arcs j 0) H = some (.agg (Enc.cells (rd arcs j)).toArray, H) := fun H => by
          rw [lds1_ef hlt (Nat.le_refl 4)]; rfl
        have hcl4 : (Enc.cells (rd arcs j)).length = 4 := rfl
        have hone4 : (Enc.cells (rd arcs j)).all one = true := rfl
        have hnj := hns j
        (refine EX.rg (by intro KK hkk; unfold f69_r21; simp only [SX, Nat.reduceEqDiff, ↓reduceIte, Nat.reduceSub, Nat.reduceAdd, Nat.reduceLT, Nat.reduceLeDiff, I.quiet, false_implies, implies_true, -List.reduceReplicate, hlt, warc, hef, hw.roi, stAt_all, hcl4, hone4, get_last, set_last, lt_last]; exact hkk) ?_)
        generalize rd arcs j = x at *
        have d0' := get_ext (l := [some (Blk.row 140 0 (Enc.cells x))]) d0
        have d1' := d1.ext (l := [some (Blk.row 140 0 (Enc.cells x))])
        have d12 : (bs3 ++ [some (Blk.row 140 0 (Enc.cells x))])[bs3.length]? = some (some (.row 140 0 (Enc.cells x))) := get_last
        generalize bs3 ++ [some (Blk.row 140 0 (Enc.cells x))] = bs4 at *
        generalize bs3.length = i12 at *
        (with_reducible repeat first|apply EX.seq|apply EX.blk)
        refine f69_r22_ok hw hp hxo d0' d12 d1' d2 rfl (fun r => Nat.le_trans (hil j r) (by omega)) rfl rfl (fun T2 bs5 cells5 hT g0 g1 g2 => ?_)
        have u5 := (hT 5 (.inl (by decide))).trans rfl
        have u98 := (hT 98 (.inl (by decide))).trans rfl
        have u99 := (hT 99 (.inl (by decide))).trans rfl
        have u100 := (hT 100 (.inl (by decide))).trans rfl
        simp only [upd, Nat.reduceEqDiff, reduceIte] at u5 u98 u99 u100
        clear hT
        (with_reducible repeat first|apply nA|apply nB|apply nC|apply nD|apply nE|apply nF|apply nG (by decide)|apply nH|apply nI|apply nJ)
        (refine EX.rg (by intro KK hkk; unfold f69_r23; simp only [SX, Nat.reduceEqDiff, ↓reduceIte, Nat.reduceSub, Nat.reduceAdd, Nat.reduceLT, Nat.reduceLeDiff, I.quiet, false_implies, implies_true, -List.reduceReplicate, u100, wrap_nat (show j < 4611686018427387904 by omega)]; exact hkk) ?_)
        refine ⟨(j + 1, cells5, bs5), ⟨hlt, g0, by rw [hnj]; exact g1, g2⟩, by show arcs.length - (j + 1) < arcs.length - j; omega, Less.wk ?_⟩
        refine Less.upd (Less.upd (Less.upd (Less.upd Less.nil ?_) ?_) ?_) ?_ <;> simp [upd, u5, u98, u99]
      · (refine EX.exit ?_; (with_reducible repeat first|apply nA|apply nB|apply nC|apply nD|apply nE|apply nF|apply nG (by decide)|apply nH|apply nI|apply nJ))
        obtain rfl : j = arcs.length := by omega
        refine EX.wk ?_ (gV_ret hw d0 d1 d2 (fun r => Nat.lt_of_le_of_lt (hil _ r) (by omega)) (by omega) rfl)
        rw [← him]
        (refine EX.rg (by intro KK hkk; unfold f69_r24; simp only [SX, Nat.reduceEqDiff, ↓reduceIte, Nat.reduceSub, Nat.reduceAdd, Nat.reduceLT, Nat.reduceLeDiff, I.quiet, false_implies, implies_true, -List.reduceReplicate]; exact hkk) ?_)
        ((with_reducible repeat first|apply EX.seq|apply EX.blk); refine EX.ret ?_; (with_reducible repeat first|apply nA|apply nB|apply nC|apply nD|apply nE|apply nF|apply nG (by decide)|apply nH|apply nI|apply nJ); refine ⟨_, rfl, ?_⟩; simp only [packV, upd, Nat.reduceEqDiff, reduceIte, if_true, if_false, Nat.one_ne_zero, Nat.zero_ne_one])
        exact ⟨trivial, [], (app_nil hw).symm⟩
end
end Go.Proofs.Ythofdojknjhpgaa
set_option linter.unusedVariables false
set_option linter.unusedSimpArgs false
namespace Go.Proofs.Ythofdojknjhpgaa
open Go
theorem GV.tuple {us vs : List Value} (hl : us.length = vs.length) (hne : vs ≠ []) (hp : ∀ i (h1 : i < us.length) (h2 : i < vs.length), GV us[i] vs[i]) : GV (.tuple us.toArray) (.tuple vs.toArray) := fun φ n c hv => by
  cases hv with
  | any => exact absurd (by simpa using congrArg Array.toList (by assumption : vs.toArray = #[])) hne
  | tuple xs ys h1 h2 =>
    refine .tuple _ _ (by simp only [List.size_toArray] at h1 ⊢; omega) fun i a b => ?_
    have hv : i < vs.length := by simpa [hl] using a
    have := hp i (by simpa using a) hv φ n _ (h2 i (by simpa using hv) b)
    simpa using this
theorem AC.gv {P : Program} {f : FuncId} {args : List Value} {h h' : AH} {v v0 : Value} (k : AC P f args h v h') (g : GV v0 v) : AC P f args h v0 h' := by
  intro base w0 φ cargs w hr hv
  refine (k base w0 φ cargs w hr hv).mono ?_
  rintro e w' ⟨cv, ψ, h1, h2, h3, h4, h5⟩
  exact ⟨cv, ψ, h1, h2, h3, g _ _ _ h4, h5⟩
section
variable {h : AH}
def doneM (ps : List (List Stg)) (at' : List Int) : List Bool := doneL (evM ps) at'
def ordM (ps : List (List Stg)) (os : List Ordr) (at' : List Int) : List Int := lineD (insM ps os) (evM ps).length (doneM ps at')
def okM (ps : List (List Stg)) (os : List Ordr) (at' : List Int) : Bool := decide ((ordM ps os at').length = (doneM ps at').count false) && !openD (insM ps os) (doneM ps at')
def evsM (ps : List (List Stg)) (l : List Int) : List (Int × Int) := l.map fun i => rd (evM ps) i.toNat
def lineM (ps : List (List Stg)) (os : List Ordr) (at' : List Int) : List (Int × Int) × Bool := if okM ps os at' = true then (evsM ps (ordM ps os at'), true) else ([], false)
theorem lineD_mem {ins : List (List Int)} : ∀ n (dn : List Bool), ∀ x ∈ lineD ins n dn, 0 ≤ x ∧ x.toNat < dn.length
  | 0, _, x, hx => by simp [lineD] at hx
  | n + 1, dn, x, hx => by
    rw [lineD] at hx
    cases hn : nextD ins dn with
    | none => rw [hn] at hx; cases hx
    | some i =>
      rw [hn] at hx
      rcases List.mem_cons.1 hx with rfl | hx
      · have := (nextD_lt hn).1
        exact ⟨by omega, by simpa using this⟩
      · have := lineD_mem n _ x hx
        simpa using this
theorem lineD_len {ins : List (List Int)} : ∀ n (dn : List Bool), (lineD ins n dn).length ≤ n
  | 0, _ => Nat.le_refl _
  | n + 1, dn => by
    rw [lineD]
    split
    · exact Nat.zero_le _
    · have := lineD_len (ins := ins) n
      rw [List.length_cons]
      exact Nat.succ_le_succ (this _)
theorem ordM_mem {ps : List (List Stg)} {os : List Ordr} {at' : List Int} : ∀ x ∈ ordM ps os at', 0 ≤ x ∧ x.toNat < (evM ps).length := fun x hx => by
  have := lineD_mem _ _ x hx
  rwa [show (doneM ps at').length = (evM ps).length by simp [doneM, doneL]] at this
theorem OwnG.retT {α : Type} [Enc α] {t : TypeId} {bs : List (Option Blk)} {v : Value} {xs : List α} {T T0 : Tm} {r : Nat} (hw : Wf h) (o : OwnG t h.next bs v xs) (hl : xs.length < 4611686018427387904) (h2 : T r = v) (ht : ∀ i, T0 i = .tuple #[] ∨ (Cl (T0 i) ∧ T i = T0 i)) : Wk h.next (upd T0 r (L xs)) h T (h.app bs) := by
  have hrv : ∀ (T' : Tm), (∀ i, i ≠ r → T0 i = .tuple #[] ∨ (Cl (T0 i) ∧ T' i = T0 i)) → RV (rnm h.next []) h.next (L xs) (T' r) → RVs (rnm h.next []) h.next (upd T0 r (L xs)) T' := fun T' hT hr i => by
    unfold Go.Proofs.Ythofdojknjhpgaa.upd; split
    · rename_i e; subst e; exact hr
    · rename_i e
      rcases hT i e with e1 | ⟨e1, e2⟩
      · rw [e1]; exact RV.any
      · rw [e2]; exact e1.rv
  rcases o with ⟨rfl, rfl⟩ | ⟨j, rfl, _, hj⟩
  · exact Wk.app0 hw (hrv T (fun i _ => ht i) (by rw [h2]; exact RV.nilL))
  · refine Wk.trans (Wk.frzApp (T0 := upd T0 r (L xs)) (bs' := List.replicate bs.length none) hw hj (by simp) ?_ ?_) (Wk.app0 hw (hrv _ (fun i e => ?_) ?_))
    · intro i b0 hi
      rw [List.getElem?_replicate] at hi
      split at hi <;> cases hi
    · intro i
      unfold Go.Proofs.Ythofdojknjhpgaa.upd; split
      · rename_i e; subst e
        rw [h2]
        refine .inr (.inr (.inr ⟨0, xs.length, xs.length, hl, by rw [F_len]; omega, rfl, ?_⟩))
        rw [List.drop_zero, List.take_of_length_le (by rw [F_len]; omega)]
        rfl
      · rcases ht i with e1 | ⟨_, e2⟩
        · exact .inl e1
        · rw [e2]; exact FV.same
    · rw [show upd T0 r (L xs) i = T0 i from if_neg e]
      rcases ht i with e1 | ⟨e1, e2⟩
      · exact .inl e1
      · exact .inr ⟨e1, rfl⟩
    · rw [show upd T0 r (L xs) r = L xs from if_pos rfl]
      exact L_cl.rv
/-- 'Line' of orders that Check lets by. -/
theorem f31_ok {ps : List (List Stg)} {os : List Ordr} {at' : List Int} (hc : ∀ H, AC Go.Proofs.Try.prog 29 [L ps, L os] H (.bool true) H) (hp : PathsA ps) (ho : OsA ps os) (hg : goodB ps at' = true) : AC Go.Proofs.Try.prog 31 [L ps, L os, L at'] h (.tuple #[L (lineM ps os at').1, .bool (lineM ps os at').2]) h := by
  have hel := evM_len hp
  have hat := at_ok (goodB_len hg)
  have hgk := gOk hp ho
  have hom := ordM_mem (ps := ps) (os := os) (at' := at')
  have hol : (ordM ps os at').length ≤ (evM ps).length := lineD_len _ _
  have c69 := fun H : AH => f69_ok (h := H) hp ho
  have c70 : ∀ H : AH, AC Go.Proofs.Try.prog 70 [gV (firstM ps) (evM ps) (insM ps os), L at'] H (.tuple #[L (ordM ps os at'), .bool (okM ps os at')]) H := fun H => f70_ok (h := H) (first := firstM ps) hgk hat
  have hgc : Cl (gV (firstM ps) (evM ps) (insM ps os)) := gV_cl
  unfold lineM
  generalize insM ps os = ins at *
  generalize firstM ps = first at *
  unfold evsM
  generalize evM ps = ev at *
  generalize ordM ps os at' = lst at *
  cases hok : okM ps os at' with
  | false =>
    rw [if_neg (by decide)]
    rw [hok] at c70
    suffices k : AC Go.Proofs.Try.prog 31 [L ps, L os, L at'] h (.tuple #[.slice none 0 0, .bool false]) h by
      refine k.gv (GV.tuple (us := [_, _]) (vs := [_, _]) rfl (by simp) fun i h1 h2 => ?_)
      match i, h1, h2 with
      | 0, _, _ => exact GV.nilL
      | 1, _, _ => exact GV.same
    have hcl : Cl (.tuple #[.slice none 0 0, .bool false]) := Cl.tuple (vs := [_, _]) (by
      intro v hv
      simp only [List.mem_cons, List.not_mem_nil, or_false] at hv
      rcases hv with rfl | rfl
      · exact Cl.slice0
      · exact Cl.bool)
    refine AC.wf fun hw => AC.of_app hw hcl ?_
    refine EC.intro f31_is ?_
    unfold f31_c
    (refine EX.rg (by intro KK hkk; unfold f31_r0; simp only [SX, Nat.reduceEqDiff, ↓reduceIte, Nat.reduceSub, Nat.reduceAdd, Nat.reduceLT, Nat.reduceLeDiff, I.quiet, false_implies, implies_true, -List.reduceReplicate]; exact hkk) ?_)
    (refine EX.rg (by intro KK hkk; unfold f31_r1; simp only [SX, Nat.reduceEqDiff, ↓reduceIte, Nat.reduceSub, Nat.reduceAdd, Nat.reduceLT, Nat.reduceLeDiff, I.quiet, false_implies, implies_true, -List.reduceReplicate, hg]; refine RO_callvS (hc _) ?_; simp only [SX, Nat.reduceEqDiff, ↓reduceIte, Nat.reduceSub, Nat.reduceAdd, Nat.reduceLT, Nat.reduceLeDiff, I.quiet, false_implies, implies_true, -List.reduceReplicate, hg]; refine RO_callvS (f68_ok) ?_; simp only [SX, Nat.reduceEqDiff, ↓reduceIte, Nat.reduceSub, Nat.reduceAdd, Nat.reduceLT, Nat.reduceLeDiff, I.quiet, false_implies, implies_true, -List.reduceReplicate, hg]; exact hkk) ?_)
    refine EX.condF rfl ?_
    (refine EX.skip ?_; (with_reducible repeat first|apply nA|apply nB|apply nC|apply nD|apply nE|apply nF|apply nG (by decide)|apply nH|apply nI|apply nJ))
    (refine EX.rg (by intro KK hkk; unfold f31_r3; simp only [SX, Nat.reduceEqDiff, ↓reduceIte, Nat.reduceSub, Nat.reduceAdd, Nat.reduceLT, Nat.reduceLeDiff, I.quiet, false_implies, implies_true, -List.reduceReplicate]; refine RO_callvS (c69 _) ?_; simp only [SX, Nat.reduceEqDiff, ↓reduceIte, Nat.reduceSub, Nat.reduceAdd, Nat.reduceLT, Nat.reduceLeDiff, I.quiet, false_implies, implies_true, -List.reduceReplicate]; exact hkk) ?_)
    (refine EX.rg (by intro KK hkk; unfold f31_r4; simp only [SX, Nat.reduceEqDiff, ↓reduceIte, Nat.reduceSub, Nat.reduceAdd, Nat.reduceLT, Nat.reduceLeDiff, I.quiet, false_implies, implies_true, -List.reduceReplicate]; refine RO_callvS (c70 _) ?_; simp only [SX, Nat.reduceEqDiff, ↓reduceIte, Nat.reduceSub, Nat.reduceAdd, Nat.reduceLT, Nat.reduceLeDiff, I.quiet, false_implies, implies_true, -List.reduceReplicate]; exact hkk) ?_)
    (refine EX.rg (by intro KK hkk; unfold f31_r5; simp only [SX, Nat.reduceEqDiff, ↓reduceIte, Nat.reduceSub, Nat.reduceAdd, Nat.reduceLT, Nat.reduceLeDiff, I.quiet, false_implies, implies_true, -List.reduceReplicate]; exact hkk) ?_)
    refine EX.condT rfl ?_
    (refine EX.rg (by intro KK hkk; unfold f31_r6; simp only [SX, Nat.reduceEqDiff, ↓reduceIte, Nat.reduceSub, Nat.reduceAdd, Nat.reduceLT, Nat.reduceLeDiff, I.quiet, false_implies, implies_true, -List.reduceReplicate]; exact hkk) ?_)
    ((with_reducible repeat first|apply EX.seq|apply EX.blk); refine EX.ret ?_; (with_reducible repeat first|apply nA|apply nB|apply nC|apply nD|apply nE|apply nF|apply nG (by decide)|apply nH|apply nI|apply nJ); refine ⟨_, rfl, ?_⟩; simp only [packV, upd, Nat.reduceEqDiff, reduceIte, if_true, if_false, Nat.one_ne_zero, Nat.zero_ne_one])
    exact ⟨trivial, [], (app_nil hw).symm⟩
  | true =>
    rw [if_pos rfl]
    rw [hok] at c70
    have hcl : Cl (.tuple #[L (lst.map fun i => rd ev i.toNat), .bool true]) := Cl.tuple (vs := [_, _]) (by
      intro v hv
      simp only [List.mem_cons, List.not_mem_nil, or_false] at hv
      rcases hv with rfl | rfl
      · exact L_cl
      · exact Cl.bool)
    refine AC.wf fun hw => AC.of_app hw hcl ?_
    refine EC.intro f31_is ?_
    unfold f31_c
    (refine EX.rg (by intro KK hkk; unfold f31_r0; simp only [SX, Nat.reduceEqDiff, ↓reduceIte, Nat.reduceSub, Nat.reduceAdd, Nat.reduceLT, Nat.reduceLeDiff, I.quiet, false_implies, implies_true, -List.reduceReplicate]; exact hkk) ?_)
    (refine EX.rg (by intro KK hkk; unfold f31_r1; simp only [SX, Nat.reduceEqDiff, ↓reduceIte, Nat.reduceSub, Nat.reduceAdd, Nat.reduceLT, Nat.reduceLeDiff, I.quiet, false_implies, implies_true, -List.reduceReplicate, hg]; refine RO_callvS (hc _) ?_; simp only [SX, Nat.reduceEqDiff, ↓reduceIte, Nat.reduceSub, Nat.reduceAdd, Nat.reduceLT, Nat.reduceLeDiff, I.quiet, false_implies, implies_true, -List.reduceReplicate, hg]; refine RO_callvS (f68_ok) ?_; simp only [SX, Nat.reduceEqDiff, ↓reduceIte, Nat.reduceSub, Nat.reduceAdd, Nat.reduceLT, Nat.reduceLeDiff, I.quiet, false_implies, implies_true, -List.reduceReplicate, hg]; exact hkk) ?_)
    refine EX.condF rfl ?_
    (refine EX.skip ?_; (with_reducible repeat first|apply nA|apply nB|apply nC|apply nD|apply nE|apply nF|apply nG (by decide)|apply nH|apply nI|apply nJ))
    (refine EX.rg (by intro KK hkk; unfold f31_r3; simp only [SX, Nat.reduceEqDiff, ↓reduceIte, Nat.reduceSub, Nat.reduceAdd, Nat.reduceLT, Nat.reduceLeDiff, I.quiet, false_implies, implies_true, -List.reduceReplicate]; refine RO_callvS (c69 _) ?_; simp only [SX, Nat.reduceEqDiff, ↓reduceIte, Nat.reduceSub, Nat.reduceAdd, Nat.reduceLT, Nat.reduceLeDiff, I.quiet, false_implies, implies_true, -List.reduceReplicate]; exact hkk) ?_)
    (refine EX.rg (by intro KK hkk; unfold f31_r4; simp only [SX, Nat.reduceEqDiff, ↓reduceIte, Nat.reduceSub, Nat.reduceAdd, Nat.reduceLT, Nat.reduceLeDiff, I.quiet, false_implies, implies_true, -List.reduceReplicate]; refine RO_callvS (c70 _) ?_; simp only [SX, Nat.reduceEqDiff, ↓reduceIte, Nat.reduceSub, Nat.reduceAdd, Nat.reduceLT, Nat.reduceLeDiff, I.quiet, false_implies, implies_true, -List.reduceReplicate]; exact hkk) ?_)
    (refine EX.rg (by intro KK hkk; unfold f31_r5; simp only [SX, Nat.reduceEqDiff, ↓reduceIte, Nat.reduceSub, Nat.reduceAdd, Nat.reduceLT, Nat.reduceLeDiff, I.quiet, false_implies, implies_true, -List.reduceReplicate]; exact hkk) ?_)
    refine EX.condF rfl ?_
    (refine EX.skip ?_; (with_reducible repeat first|apply nA|apply nB|apply nC|apply nD|apply nE|apply nF|apply nG (by decide)|apply nH|apply nI|apply nJ))
    (refine EX.rg (by intro KK hkk; unfold f31_r7; simp only [SX, Nat.reduceEqDiff, ↓reduceIte, Nat.reduceSub, Nat.reduceAdd, Nat.reduceLT, Nat.reduceLeDiff, I.quiet, false_implies, implies_true, -List.reduceReplicate]; exact hkk) ?_)
    (refine EX.rg (by intro KK hkk; unfold f31_r8; simp only [SX, Nat.reduceEqDiff, ↓reduceIte, Nat.reduceSub, Nat.reduceAdd, Nat.reduceLT, Nat.reduceLeDiff, I.quiet, false_implies, implies_true, -List.reduceReplicate]; exact hkk) ?_)
    (with_reducible repeat first|apply EX.seq|apply EX.blk)
    refine EX.loop (σ := Nat × Value × List (Option Blk)) (fun s => upd (upd (upd (upd (upd TE 8 (gV first ev ins)) 11 s.2.1) 35 (L lst)) 36 (.int .i64 lst.length)) 37 (.int .i64 (s.1 : Nat))) (fun s => h.app s.2.2)
      (fun s => s.1 ≤ lst.length ∧ OwnG 48 h.next s.2.2 s.2.1 ((lst.take s.1).map fun i => rd ev i.toNat)) (fun s => lst.length - s.1) (0, .slice none 0 0, []) ⟨Nat.zero_le _, .inl ⟨rfl, rfl⟩⟩ (by rw [app_nil hw]; exact Less.wk (by (repeat refine Less.upd ?_ (by rfl)); exact Less.nil)) ?_
    rintro ⟨i, v, bs⟩ ⟨hi, hov⟩
    simp only at hi hov
    (refine EX.rg (by intro KK hkk; unfold f31_r9; simp only [SX, Nat.reduceEqDiff, ↓reduceIte, Nat.reduceSub, Nat.reduceAdd, Nat.reduceLT, Nat.reduceLeDiff, I.quiet, false_implies, implies_true, -List.reduceReplicate, lt_nat]; exact hkk) ?_)
    (with_reducible repeat first|apply EX.seq|apply EX.blk)
    refine EX.dec rfl (fun hlt => ?_) (fun hlt => ?_)
    · (refine EX.skip ?_; (with_reducible repeat first|apply nA|apply nB|apply nC|apply nD|apply nE|apply nF|apply nG (by decide)|apply nH|apply nI|apply nJ))
      obtain ⟨x0, x1⟩ := hom _ (rd_mem hlt)
      have htk : lst.take (i + 1) = lst.take i ++ [rd lst i] := by rw [List.take_succ_eq_append_getElem hlt, rd_eq hlt]
      (refine EX.rg (by intro KK hkk; unfold f31_r10; simp only [SX, Nat.reduceEqDiff, ↓reduceIte, Nat.reduceSub, Nat.reduceAdd, Nat.reduceLT, Nat.reduceLeDiff, I.quiet, false_implies, implies_true, -List.reduceReplicate, hlt, ld1_ef hlt o1i]; exact hkk) ?_)
      generalize rd lst i = x at *
      obtain ⟨n, rfl, _⟩ := rd_nat (xs := []) x0
      simp only [Int.toNat_natCast] at x1
      obtain ⟨bs2, ap, hov2, keep⟩ := hov.push (x := rd ev n) (e := 2) (bytes := 16) rfl hw (by simp; omega) (by simp; omega)
      have hcr : Enc.cells (rd ev n) = [.int .i64 (rd ev n).1, .int .i64 (rd ev n).2] := rfl
      rw [hcr] at ap
      (refine EX.rg (by intro KK hkk; unfold f31_r11; simp only [SX, Nat.reduceEqDiff, ↓reduceIte, Nat.reduceSub, Nat.reduceAdd, Nat.reduceLT, Nat.reduceLeDiff, I.quiet, false_implies, implies_true, -List.reduceReplicate, nil1_gV, fa1_gV1, ld1_fp, x1, wref, lds_ref x1, fill1_agg, ap]; exact hkk) ?_)
      (refine EX.rg (by intro KK hkk; unfold f31_r12; simp only [SX, Nat.reduceEqDiff, ↓reduceIte, Nat.reduceSub, Nat.reduceAdd, Nat.reduceLT, Nat.reduceLeDiff, I.quiet, false_implies, implies_true, -List.reduceReplicate, wrap_nat (show i < 4611686018427387904 by omega)]; exact hkk) ?_)
      refine ⟨(i + 1, _, bs2), ⟨hlt, by rw [htk, List.map_append]; exact hov2⟩, by show lst.length - (i + 1) < lst.length - i; omega, Less.wk (by (repeat refine Less.upd ?_ (by rfl)); exact Less.nil)⟩
    · (refine EX.exit ?_; (with_reducible repeat first|apply nA|apply nB|apply nC|apply nD|apply nE|apply nF|apply nG (by decide)|apply nH|apply nI|apply nJ))
      obtain rfl : i = lst.length := by omega
      rw [List.take_of_length_le (Nat.le_refl _)] at hov
      (refine EX.rg (by intro KK hkk; unfold f31_r13; simp only [SX, Nat.reduceEqDiff, ↓reduceIte, Nat.reduceSub, Nat.reduceAdd, Nat.reduceLT, Nat.reduceLeDiff, I.quiet, false_implies, implies_true, -List.reduceReplicate]; exact hkk) ?_)
      (with_reducible repeat first|apply EX.seq|apply EX.blk)
      refine EX.wk (T0 := upd (upd TE 7 (.bool true)) 6 (L (lst.map fun i => rd ev i.toNat))) (h0 := h) ?_ ?_
      · ((with_reducible repeat first|apply EX.seq|apply EX.blk); refine EX.ret ?_; (with_reducible repeat first|apply nA|apply nB|apply nC|apply nD|apply nE|apply nF|apply nG (by decide)|apply nH|apply nI|apply nJ); refine ⟨_, rfl, ?_⟩; simp only [packV, upd, Nat.reduceEqDiff, reduceIte, if_true, if_false, Nat.one_ne_zero, Nat.zero_ne_one])
        exact ⟨trivial, [], (app_nil hw).symm⟩
      · refine hov.retT (r := 6) (T0 := upd TE 7 (.bool true)) hw (by simp; omega) rfl (fun i => ?_)
        unfold Go.Proofs.Ythofdojknjhpgaa.upd; split
        · rename_i e; subst e; exact .inr ⟨Cl.bool, rfl⟩
        · exact .inl rfl
end
end Go.Proofs.Ythofdojknjhpgaa
set_option linter.unusedVariables false
set_option linter.unusedSimpArgs false
namespace Go.Proofs.Ythofdojknjhpgaa
open Go
def GVl : List Value → List Value → Prop
  | [], _ => True
  | v0 :: l0, v :: l => GV v0 v ∧ GVl l0 l
  | _ :: _, [] => False
theorem GVl.get : ∀ {l0 l : List Value}, GVl l0 l → ∀ (i : Nat) (v0 : Value), l0[i]? = some v0 → ∃ v, l[i]? = some v ∧ GV v0 v
  | [], _, _, i, v0, h => by simp at h
  | a :: l0, b :: l, hh, 0, v0, h => by simp at h; subst h; exact ⟨b, rfl, hh.1⟩
  | a :: l0, b :: l, hh, i + 1, v0, h => by simpa using GVl.get hh.2 i v0 (by simpa using h)
theorem RB.listG {t : TypeId} {e : Nat} {l0 l : List Value} (h : GVl l0 l) : RB GV (.row t e l0) (.row t e l) := ⟨rfl, rfl, h.get⟩
def TB : List (Option Blk) → List (Option Blk) → Prop
  | [], [] => True
  | b0 :: l0, b :: l => (∀ c0, b0 = some c0 → ∃ c, b = some c ∧ RB GV c0 c) ∧ TB l0 l
  | _, _ => False
theorem TB.len : ∀ {l0 l : List (Option Blk)}, TB l0 l → l0.length = l.length
  | [], [], _ => rfl
  | _ :: _, _ :: _, h => by simp [TB.len h.2]
theorem TB.get : ∀ {l0 l : List (Option Blk)}, TB l0 l → ∀ (i : Nat) (c0 : Blk), l0[i]? = some (some c0) → ∃ c, l[i]? = some (some c) ∧ RB GV c0 c
  | [], [], _, i, c0, h => by simp at h
  | a :: l0, b :: l, hh, 0, c0, h => by
    simp at h
    obtain ⟨c, rfl, hc⟩ := hh.1 c0 h
    exact ⟨c, rfl, hc⟩
  | a :: l0, b :: l, hh, i + 1, c0, h => by simpa using TB.get hh.2 i c0 (by simpa using h)
theorem TB.cons {t : TypeId} {e : Nat} {c0 c : List Value} {l0 l : List (Option Blk)} (h : GVl c0 c) (k : TB l0 l) : TB (some (.row t e c0) :: l0) (some (.row t e c) :: l) := ⟨fun x hx => by cases hx; exact ⟨_, rfl, RB.listG h⟩, k⟩
theorem Wk.tellApp {h : AH} {T T0 : Tm} {bs0 bs : List (Option Blk)} (ht : ∀ i, GV (T0 i) (T i)) (hb : TB bs0 bs) : Wk h.next T0 (h.app bs0) T (h.app bs) := by
  refine Wk.tell (by rw [app_next, app_next, hb.len]) rfl ht fun C b0 hC => ?_
  rcases Nat.lt_or_ge C h.next with h1 | h1
  · rw [app_get_lt h1] at hC
    exact ⟨b0, by rw [app_get_lt h1]; exact hC, RB.same fun _ => GV.same⟩
  · obtain ⟨j, rfl⟩ : ∃ j, C = h.next + j := ⟨C - h.next, by omega⟩
    rw [app_get] at hC
    obtain ⟨c, h2, h3⟩ := hb.get j b0 (Option.join_eq_some_iff.1 hC)
    exact ⟨c, by rw [app_get, h2]; rfl, h3⟩
section
variable {h : AH}
def stg4 (s : Int) : List Value := [.int .i64 s, .slice none 0 0, .int .i64 0, .int .i64 0]
theorem stg4_GVl {s : Int} {l0 l : List Value} (k : GVl l0 l) : GVl (Enc.cells (⟨s, [], 0, 0⟩ : Stg) ++ l0) (stg4 s ++ l) := ⟨GV.same, GV.nilL, GV.same, GV.same, k⟩
theorem stg2_GVl {s t : Int} : GVl (F [(⟨s, [], 0, 0⟩ : Stg), ⟨t, [], 0, 0⟩]) (stg4 s ++ stg4 t) := by
  have := stg4_GVl (s := s) (stg4_GVl (s := t) (show GVl [] [] from trivial))
  simpa only [F_cons, F_nil, List.append_nil] using this
theorem wk_ex2 {T : Tm} {H : AH} (hw : Wf h) (hH : H = h.app [some (.row 65 4 (stg4 1 ++ stg4 2)), some (.row 65 4 (stg4 2 ++ stg4 1)), some (.row 36 1 [.slice (some ⟨h.next, 0, none⟩) 2 2, .slice (some ⟨h.next + 1, 0, none⟩) 2 2])]) (hT : T 0 = .slice (some ⟨h.next + 2, 0, none⟩) 2 2) :
    Wk h.next (upd TE 0 (L ex2Ps)) h T H := by
  subst hH
  have w1 := Wk.tellApp (h := h) (T := T) (T0 := upd TE 0 (.slice (some ⟨h.next + 2, 0, none⟩) 2 2)) (bs := [some (.row 65 4 (stg4 1 ++ stg4 2)), some (.row 65 4 (stg4 2 ++ stg4 1)), some (.row 36 1 [.slice (some ⟨h.next, 0, none⟩) 2 2, .slice (some ⟨h.next + 1, 0, none⟩) 2 2])])
    (bs0 := [some (.row 65 4 (F [(⟨1, [], 0, 0⟩ : Stg), ⟨2, [], 0, 0⟩])), some (.row 65 4 (F [(⟨2, [], 0, 0⟩ : Stg), ⟨1, [], 0, 0⟩])), some (.row 36 1 [.slice (some ⟨h.next, 0, none⟩) 2 2, .slice (some ⟨h.next + 1, 0, none⟩) 2 2])])
    (fun i => by
      unfold Go.Proofs.Ythofdojknjhpgaa.upd; split
      · rename_i e; subst e; rw [hT]; exact GV.same
      · exact GV.any) (.cons stg2_GVl (.cons stg2_GVl (.cons ⟨GV.same, GV.same, trivial⟩ trivial)))
  have o : OwnR 65 36 h.next [some (.row 65 4 (F [(⟨1, [], 0, 0⟩ : Stg), ⟨2, [], 0, 0⟩])), some (.row 65 4 (F [(⟨2, [], 0, 0⟩ : Stg), ⟨1, [], 0, 0⟩])), some (.row 36 1 [.slice (some ⟨h.next, 0, none⟩) 2 2, .slice (some ⟨h.next + 1, 0, none⟩) 2 2])] 2 [.slice (some ⟨h.next, 0, none⟩) 2 2, .slice (some ⟨h.next + 1, 0, none⟩) 2 2] (fun r => rd ex2Ps r) := by
    refine ⟨rfl, fun r hr => ?_, fun r r' B x y x' y' h1 h2 => ?_⟩
    · match r, hr with
      | 0, _ => exact ⟨_, rfl, .inr ⟨0, rfl, by decide, rfl⟩⟩
      | 1, _ => exact ⟨_, rfl, .inr ⟨1, rfl, by decide, rfl⟩⟩
    · match r, r' with
      | 0, 0 => rfl
      | 1, 1 => rfl
      | 0, 1 => simp at h1 h2; omega
      | 1, 0 => simp at h1 h2; omega
      | r + 2, _ => simp at h1
      | 0, r + 2 => simp at h2
      | 1, r + 2 => simp at h2
  obtain ⟨bs', l1, b1, _, w2⟩ := o.frz (T := upd TE 0 (.slice (some ⟨h.next + 2, 0, none⟩) 2 2)) (T0 := upd TE 0 (.slice (some ⟨h.next + 2, 0, none⟩) 2 2)) hw (by decide) (fun r => by
    match r with
    | 0 => decide
    | 1 => decide
    | r + 2 => show ([] : List Stg).length < _; decide) (fun i => .inr rfl)
  refine w1.trans (w2.trans ?_)
  exact Wk.retL (i := 2) (r := 0) (xs := ex2Ps) (t := 36) hw b1 (by decide) rfl
/-- 'example'. -/
theorem f46_ok : AC Go.Proofs.Try.prog 46 [] h (L ex2Ps) h := by
  refine AC.wf fun hw => AC.of_app hw L_cl ?_
  refine EC.intro f46_is ?_
  unfold f46_c
  (refine EX.rg (by intro KK hkk; unfold f46_r0; simp only [SX, Nat.reduceEqDiff, ↓reduceIte, Nat.reduceSub, Nat.reduceAdd, Nat.reduceLT, Nat.reduceLeDiff, I.quiet, false_implies, implies_true, -List.reduceReplicate]; exact hkk) ?_)
  (refine EX.rg (by intro KK hkk; unfold f46_r1; simp only [SX, Nat.reduceEqDiff, ↓reduceIte, Nat.reduceSub, Nat.reduceAdd, Nat.reduceLT, Nat.reduceLeDiff, I.quiet, false_implies, implies_true, -List.reduceReplicate]; exact hkk) ?_)
  (with_reducible repeat first|apply EX.seq|apply EX.blk)
  refine EX.wk ?_ (wk_ex2 hw (by rw [new_app hw, app_new, app_new]; rfl) (by simp only [upd, new_app hw, app_new, app_next]; rfl))
  ((with_reducible repeat first|apply EX.seq|apply EX.blk); refine EX.ret ?_; (with_reducible repeat first|apply nA|apply nB|apply nC|apply nD|apply nE|apply nF|apply nG (by decide)|apply nH|apply nI|apply nJ); refine ⟨_, rfl, ?_⟩; simp only [packV, upd, Nat.reduceEqDiff, reduceIte, if_true, if_false, Nat.one_ne_zero, Nat.zero_ne_one])
  exact ⟨trivial, [], (app_nil hw).symm⟩
theorem wk_ex2o {T : Tm} {H : AH} (hw : Wf h) (hH : H = h.app [some (.row 48 2 (F [((1 : Int), (1 : Int)), (0, 0)])), some (.row 48 2 (F [((1 : Int), (0 : Int)), (0, 1)])), some (.row 45 2 [.int .i64 1, .slice (some ⟨h.next, 0, none⟩) 2 2, .int .i64 2, .slice (some ⟨h.next + 1, 0, none⟩) 2 2])]) (hT : T 0 = .slice (some ⟨h.next + 2, 0, none⟩) 2 2) :
    Wk h.next (upd TE 0 (L ex2O)) h T H := by
  subst hH
  have o1 : OwnG 48 h.next [some (.row 48 2 (F [((1 : Int), (1 : Int)), (0, 0)])), some (.row 48 2 (F [((1 : Int), (0 : Int)), (0, 1)])), some (.row 45 2 [.int .i64 1, .slice (some ⟨h.next, 0, none⟩) 2 2, .int .i64 2, .slice (some ⟨h.next + 1, 0, none⟩) 2 2])] (.slice (some ⟨h.next, 0, none⟩) 2 2) [((1 : Int), (1 : Int)), (0, 0)] := .inr ⟨0, rfl, by decide, rfl⟩
  obtain ⟨bs1, l1, b1, k1, w1⟩ := o1.frzCell (a := 2) (o := 1) (T := T) (T0 := upd TE 0 (.slice (some ⟨h.next + 2, 0, none⟩) 2 2)) hw rfl rfl (by decide) (by decide) (fun i => by
      unfold Go.Proofs.Ythofdojknjhpgaa.upd; split
      · rename_i e; subst e; rw [hT]; exact .inr rfl
      · exact .inl rfl)
  have o2 : OwnG 48 h.next bs1 (.slice (some ⟨h.next + 1, 0, none⟩) 2 2) [((1 : Int), (0 : Int)), (0, 1)] := .inr ⟨1, rfl, by decide, k1 1 _ (by decide) rfl (fun x y e => by injection e with e; injection e with e; injection e with e; omega)⟩
  obtain ⟨bs2, l2, b2, _, w2⟩ := o2.frzCell (a := 2) (o := 3) (T := upd TE 0 (.slice (some ⟨h.next + 2, 0, none⟩) 2 2)) (T0 := upd TE 0 (.slice (some ⟨h.next + 2, 0, none⟩) 2 2)) hw b1 rfl (by decide) (by decide) (fun i => .inr rfl)
  refine w1.trans (w2.trans ?_)
  exact Wk.retL (i := 2) (r := 0) (xs := ex2O) (t := 45) hw b2 (by decide) rfl
/-- 'orders'. -/
theorem f58_ok : AC Go.Proofs.Try.prog 58 [] h (L ex2O) h := by
  refine AC.wf fun hw => AC.of_app hw L_cl ?_
  refine EC.intro f58_is ?_
  unfold f58_c
  (refine EX.rg (by intro KK hkk; unfold f58_r0; simp only [SX, Nat.reduceEqDiff, ↓reduceIte, Nat.reduceSub, Nat.reduceAdd, Nat.reduceLT, Nat.reduceLeDiff, I.quiet, false_implies, implies_true, -List.reduceReplicate]; exact hkk) ?_)
  (refine EX.rg (by intro KK hkk; unfold f58_r1; simp only [SX, Nat.reduceEqDiff, ↓reduceIte, Nat.reduceSub, Nat.reduceAdd, Nat.reduceLT, Nat.reduceLeDiff, I.quiet, false_implies, implies_true, -List.reduceReplicate]; exact hkk) ?_)
  (with_reducible repeat first|apply EX.seq|apply EX.blk)
  refine EX.wk ?_ (wk_ex2o hw (by rw [new_app hw, app_new, app_new]; rfl) (by simp only [upd, new_app hw, app_new, app_next]; rfl))
  ((with_reducible repeat first|apply EX.seq|apply EX.blk); refine EX.ret ?_; (with_reducible repeat first|apply nA|apply nB|apply nC|apply nD|apply nE|apply nF|apply nG (by decide)|apply nH|apply nI|apply nJ); refine ⟨_, rfl, ?_⟩; simp only [packV, upd, Nat.reduceEqDiff, reduceIte, if_true, if_false, Nat.one_ne_zero, Nat.zero_ne_one])
  exact ⟨trivial, [], (app_nil hw).symm⟩
/-- 'Same' of references. -/
theorem f44_ok {xs ys : List (Int × Int)} : AC Go.Proofs.Try.prog 44 [L xs, L ys] h (.bool (decide (xs = ys))) h := by
  refine AC.bd 0 rfl fun bx => AC.bd 1 rfl fun by' => ?_
  have hl := bx.1
  refine AC.of_ec (EC.intro f44_is ?_)
  unfold f44_c
  (refine EX.rg (by intro KK hkk; unfold f44_r0; simp only [SX, Nat.reduceEqDiff, ↓reduceIte, Nat.reduceSub, Nat.reduceAdd, Nat.reduceLT, Nat.reduceLeDiff, I.quiet, false_implies, implies_true, -List.reduceReplicate]; exact hkk) ?_)
  by_cases hlen : xs.length = ys.length
  · (refine EX.rg (by intro KK hkk; unfold f44_r1; simp only [SX, Nat.reduceEqDiff, ↓reduceIte, Nat.reduceSub, Nat.reduceAdd, Nat.reduceLT, Nat.reduceLeDiff, I.quiet, false_implies, implies_true, -List.reduceReplicate, eq_nat, show decide ((xs.length : Int) ≠ (ys.length : Int)) = false from decide_eq_false (fun e => e (by rw [hlen]))]; exact hkk) ?_)
    refine EX.condF rfl ?_
    (refine EX.skip ?_; (with_reducible repeat first|apply nA|apply nB|apply nC|apply nD|apply nE|apply nF|apply nG (by decide)|apply nH|apply nI|apply nJ))
    (refine EX.rg (by intro KK hkk; unfold f44_r3; simp only [SX, Nat.reduceEqDiff, ↓reduceIte, Nat.reduceSub, Nat.reduceAdd, Nat.reduceLT, Nat.reduceLeDiff, I.quiet, false_implies, implies_true, -List.reduceReplicate]; exact hkk) ?_)
    (with_reducible repeat first|apply EX.seq|apply EX.blk)
    refine EX.loop (σ := Nat) (fun i => upd (upd (upd (upd TE 0 (L xs)) 1 (L ys)) 12 (.int .i64 xs.length)) 13 (.int .i64 (i : Nat))) (fun _ => h)
      (fun i => i ≤ xs.length ∧ xs.take i = ys.take i) (fun i => xs.length - i) 0 ⟨Nat.zero_le _, rfl⟩ (Less.wk (by (repeat refine Less.upd ?_ (by rfl)); exact Less.nil)) ?_
    rintro i ⟨hi, ht⟩
    (refine EX.rg (by intro KK hkk; unfold f44_r4; simp only [SX, Nat.reduceEqDiff, ↓reduceIte, Nat.reduceSub, Nat.reduceAdd, Nat.reduceLT, Nat.reduceLeDiff, I.quiet, false_implies, implies_true, -List.reduceReplicate, lt_nat]; exact hkk) ?_)
    (with_reducible repeat first|apply EX.seq|apply EX.blk)
    refine EX.dec rfl (fun hlt => ?_) (fun hlt => ?_)
    · (refine EX.skip ?_; (with_reducible repeat first|apply nA|apply nB|apply nC|apply nD|apply nE|apply nF|apply nG (by decide)|apply nH|apply nI|apply nJ))
      (refine EX.rg (by intro KK hkk; unfold f44_r5; simp only [SX, Nat.reduceEqDiff, ↓reduceIte, Nat.reduceSub, Nat.reduceAdd, Nat.reduceLT, Nat.reduceLeDiff, I.quiet, false_implies, implies_true, -List.reduceReplicate]; exact hkk) ?_)
      have hy : i < ys.length := by omega
      have l1 : lds1 2 (ef xs i 0) h = some (rvA (rd xs i), h) := lds1_ef hlt (Nat.le_refl 2)
      have l2 : lds1 2 (ef ys i 0) h = some (rvA (rd ys i), h) := lds1_ef hy (Nat.le_refl 2)
      (refine EX.dg (by intro KK hkk; unfold f44_r6; simp only [SX, Nat.reduceEqDiff, ↓reduceIte, Nat.reduceSub, Nat.reduceAdd, Nat.reduceLT, Nat.reduceLeDiff, I.quiet, false_implies, implies_true, -List.reduceReplicate, wref, hlt, l1, hy, l2, veq_rv]; exact hkk) ?_)
      refine EX.dec rfl (fun hd => ?_) (fun hd => ?_)
      · (refine EX.rg (by intro KK hkk; unfold f44_r7; simp only [SX, Nat.reduceEqDiff, ↓reduceIte, Nat.reduceSub, Nat.reduceAdd, Nat.reduceLT, Nat.reduceLeDiff, I.quiet, false_implies, implies_true, -List.reduceReplicate]; exact hkk) ?_)
        ((with_reducible repeat first|apply EX.seq|apply EX.blk); refine EX.ret ?_; (with_reducible repeat first|apply nA|apply nB|apply nC|apply nD|apply nE|apply nF|apply nG (by decide)|apply nH|apply nI|apply nJ); refine ⟨_, rfl, ?_⟩; simp only [packV, upd, Nat.reduceEqDiff, reduceIte, if_true, if_false, Nat.one_ne_zero, Nat.zero_ne_one])
        rw [rd_eq hlt, rd_eq hy] at hd
        rw [decide_eq_false (fun e => hd (by subst e; rfl))]; exact ⟨rfl, trivial⟩
      · (refine EX.skip ?_; (with_reducible repeat first|apply nA|apply nB|apply nC|apply nD|apply nE|apply nF|apply nG (by decide)|apply nH|apply nI|apply nJ))
        (refine EX.rg (by intro KK hkk; unfold f44_r8; simp only [SX, Nat.reduceEqDiff, ↓reduceIte, Nat.reduceSub, Nat.reduceAdd, Nat.reduceLT, Nat.reduceLeDiff, I.quiet, false_implies, implies_true, -List.reduceReplicate, wrap_nat (show i < 4611686018427387904 by omega)]; exact hkk) ?_)
        refine ⟨i + 1, ⟨by omega, ?_⟩, by omega, Less.wk (by (repeat refine Less.upd ?_ (by rfl)); exact Less.nil)⟩
        rw [List.take_succ_eq_append_getElem hlt, List.take_succ_eq_append_getElem hy, ht]
        rw [rd_eq hlt, rd_eq hy] at hd
        rw [Decidable.not_not.1 hd]
    · (refine EX.exit ?_; (with_reducible repeat first|apply nA|apply nB|apply nC|apply nD|apply nE|apply nF|apply nG (by decide)|apply nH|apply nI|apply nJ))
      (refine EX.rg (by intro KK hkk; unfold f44_r9; simp only [SX, Nat.reduceEqDiff, ↓reduceIte, Nat.reduceSub, Nat.reduceAdd, Nat.reduceLT, Nat.reduceLeDiff, I.quiet, false_implies, implies_true, -List.reduceReplicate]; exact hkk) ?_)
      ((with_reducible repeat first|apply EX.seq|apply EX.blk); refine EX.ret ?_; (with_reducible repeat first|apply nA|apply nB|apply nC|apply nD|apply nE|apply nF|apply nG (by decide)|apply nH|apply nI|apply nJ); refine ⟨_, rfl, ?_⟩; simp only [packV, upd, Nat.reduceEqDiff, reduceIte, if_true, if_false, Nat.one_ne_zero, Nat.zero_ne_one])
      rw [List.take_of_length_le (by omega), List.take_of_length_le (by omega)] at ht
      rw [decide_eq_true ht]; exact ⟨rfl, trivial⟩
  · (refine EX.rg (by intro KK hkk; unfold f44_r1; simp only [SX, Nat.reduceEqDiff, ↓reduceIte, Nat.reduceSub, Nat.reduceAdd, Nat.reduceLT, Nat.reduceLeDiff, I.quiet, false_implies, implies_true, -List.reduceReplicate, show decide ((xs.length : Int) ≠ (ys.length : Int)) = true from decide_eq_true (by omega)]; exact hkk) ?_)
    refine EX.condT rfl ?_
    (refine EX.rg (by intro KK hkk; unfold f44_r2; simp only [SX, Nat.reduceEqDiff, ↓reduceIte, Nat.reduceSub, Nat.reduceAdd, Nat.reduceLT, Nat.reduceLeDiff, I.quiet, false_implies, implies_true, -List.reduceReplicate]; exact hkk) ?_)
    ((with_reducible repeat first|apply EX.seq|apply EX.blk); refine EX.ret ?_; (with_reducible repeat first|apply nA|apply nB|apply nC|apply nD|apply nE|apply nF|apply nG (by decide)|apply nH|apply nI|apply nJ); refine ⟨_, rfl, ?_⟩; simp only [packV, upd, Nat.reduceEqDiff, reduceIte, if_true, if_false, Nat.one_ne_zero, Nat.zero_ne_one])
    rw [decide_eq_false (fun e => hlen (by rw [e]))]; exact ⟨rfl, trivial⟩
theorem ex2_pathsA : PathsA ex2Ps := pathsA_of ex2_valid
instance {ps : List (List Stg)} {u : Int × Int} : Decidable (UseOk ps u) := by unfold UseOk; infer_instance
theorem ex2_osA : OsA ex2Ps ex2O := ⟨by decide, by decide, by decide +kernel⟩
theorem ex2_good : goodB ex2Ps [-1, 0] = true := by decide +kernel
theorem ex2_line : lineM ex2Ps ex2O [-1, 0] = ([(1, 1), (1, 2), (0, 0), (0, 1), (0, 2)], true) := by decide +kernel
/-- A list of one's own, given away, of any kind. -/
theorem AC.frzE {α : Type} [Enc α] {t : TypeId} {P : Program} {f : FuncId} {args args0 : List Value} {bs : List (Option Blk)} {j : Nat} {xs : List α} {v : Value} {h' : AH} (hw : Wf h) (hj : bs[j]? = some (some (.row t (Enc.w α) (F xs)))) (hl : xs.length < 4611686018427387904) (hlen : args0.length = args.length)
    (ha : ∀ i, T0 args0 i = T0 args i ∨ (T0 args i = .slice (some ⟨h.next + j, 0, none⟩) xs.length xs.length ∧ T0 args0 i = L xs)) (k : AC P f args0 (h.app (bs.set j none)) v h') : AC P f args (h.app bs) v h' := by
  refine k.wk hlen (Wk.freeze (B := h.next + j) (t := t) (e := Enc.w α) (cs := F xs) (by show h.ro ≤ _; have := hw.ro; omega) (by rw [app_get, hj]; rfl) (by rw [app_next, app_next, List.length_set]) rfl (fun i => ?_) ?_)
  · rcases ha i with e | ⟨e1, e2⟩
    · exact .inr (.inl e)
    · refine .inr (.inr (.inr ⟨0, xs.length, xs.length, hl, by rw [F_len]; omega, e1, ?_⟩))
      rw [e2, List.drop_zero, List.take_of_length_le (by rw [F_len]; omega)]
      rfl
  · intro C b0 hC
    rcases Nat.lt_or_ge C h.next with h1 | h1
    · rw [app_get_lt h1] at hC
      exact ⟨by omega, b0, by rw [app_get_lt h1]; exact hC, RB.same fun _ => FV.same⟩
    · obtain ⟨i, rfl⟩ : ∃ i, C = h.next + i := ⟨C - h.next, by omega⟩
      rw [app_get] at hC
      have hC' := Option.join_eq_some_iff.1 hC
      rw [List.getElem?_set] at hC'
      split at hC'
      · split at hC' <;> cases hC'
      · rename_i hne
        exact ⟨by omega, b0, by rw [app_get, hC']; rfl, RB.same fun _ => FV.same⟩
/-- 'awake'. -/
theorem f25_ok : AC Go.Proofs.Try.prog 25 [] h (.bool true) h := by
  refine AC.wf fun hw => AC.of_app hw Cl.bool ?_
  refine EC.intro f25_is ?_
  unfold f25_c
  have c1 : AC Go.Proofs.Try.prog 31 [L ex2Ps, L ex2O, .slice (some ⟨h.next, 0, none⟩) 2 2] (h.app [some (.row 3 1 [.int .i64 (-1), .int .i64 0])]) (.tuple #[L [((1 : Int), (1 : Int)), (1, 2), (0, 0), (0, 1), (0, 2)], .bool true]) (h.app [none]) := by
    refine AC.frzE (j := 0) (t := 3) (xs := [(-1 : Int), 0]) (args0 := [L ex2Ps, L ex2O, L [(-1 : Int), 0]]) hw rfl (by decide) rfl (fun i => ?_) ?_
    · match i with
      | 0 => exact .inl rfl
      | 1 => exact .inl rfl
      | 2 => exact .inr ⟨rfl, rfl⟩
      | i + 3 => exact .inl rfl
    have := f31_ok (h := h.app [none]) (ps := ex2Ps) (os := ex2O) (at' := [-1, 0]) (fun H => ex2_check) ex2_pathsA ex2_osA ex2_good
    rw [ex2_line] at this
    exact this
  have c2 : AC Go.Proofs.Try.prog 44 [L [((1 : Int), (1 : Int)), (1, 2), (0, 0), (0, 1), (0, 2)], .slice (some ⟨h.next + 1, 0, none⟩) 5 5] (h.app [none, some (.row 48 2 (F [((1 : Int), (1 : Int)), (1, 2), (0, 0), (0, 1), (0, 2)]))]) (.bool true) (h.app [none, none]) := by
    refine AC.frzE (j := 1) (t := 48) (xs := [((1 : Int), (1 : Int)), (1, 2), (0, 0), (0, 1), (0, 2)]) (args0 := [L [((1 : Int), (1 : Int)), (1, 2), (0, 0), (0, 1), (0, 2)], L [((1 : Int), (1 : Int)), (1, 2), (0, 0), (0, 1), (0, 2)]]) hw rfl (by decide) rfl (fun i => ?_) ?_
    · match i with
      | 0 => exact .inl rfl
      | 1 => exact .inr ⟨rfl, rfl⟩
      | i + 2 => exact .inl rfl
    exact f44_ok
  have e0 : fill1 (List.replicate 10 (.int .i64 0)) 0 2 (.agg #[.int .i64 1, .int .i64 1]) = some [.int .i64 1, .int .i64 1, .int .i64 0, .int .i64 0, .int .i64 0, .int .i64 0, .int .i64 0, .int .i64 0, .int .i64 0, .int .i64 0] := nr rfl
  have e1 : fill1 [.int .i64 1, .int .i64 1, .int .i64 0, .int .i64 0, .int .i64 0, .int .i64 0, .int .i64 0, .int .i64 0, .int .i64 0, .int .i64 0] 2 2 (.agg #[.int .i64 1, .int .i64 2]) = some [.int .i64 1, .int .i64 1, .int .i64 1, .int .i64 2, .int .i64 0, .int .i64 0, .int .i64 0, .int .i64 0, .int .i64 0, .int .i64 0] := nr rfl
  have e2 : fill1 [.int .i64 1, .int .i64 1, .int .i64 1, .int .i64 2, .int .i64 0, .int .i64 0, .int .i64 0, .int .i64 0, .int .i64 0, .int .i64 0] 4 2 (.agg #[.int .i64 0, .int .i64 0]) = some [.int .i64 1, .int .i64 1, .int .i64 1, .int .i64 2, .int .i64 0, .int .i64 0, .int .i64 0, .int .i64 0, .int .i64 0, .int .i64 0] := nr rfl
  have e3 : fill1 [.int .i64 1, .int .i64 1, .int .i64 1, .int .i64 2, .int .i64 0, .int .i64 0, .int .i64 0, .int .i64 0, .int .i64 0, .int .i64 0] 6 2 (.agg #[.int .i64 0, .int .i64 1]) = some [.int .i64 1, .int .i64 1, .int .i64 1, .int .i64 2, .int .i64 0, .int .i64 0, .int .i64 0, .int .i64 1, .int .i64 0, .int .i64 0] := nr rfl
  have e4 : fill1 [.int .i64 1, .int .i64 1, .int .i64 1, .int .i64 2, .int .i64 0, .int .i64 0, .int .i64 0, .int .i64 1, .int .i64 0, .int .i64 0] 8 2 (.agg #[.int .i64 0, .int .i64 2]) = some [.int .i64 1, .int .i64 1, .int .i64 1, .int .i64 2, .int .i64 0, .int .i64 0, .int .i64 0, .int .i64 1, .int .i64 0, .int .i64 2] := nr rfl
  have eF : F [((1 : Int), (1 : Int)), (1, 2), (0, 0), (0, 1), (0, 2)] = [.int .i64 1, .int .i64 1, .int .i64 1, .int .i64 2, .int .i64 0, .int .i64 0, .int .i64 0, .int .i64 1, .int .i64 0, .int .i64 2] := nr rfl
  rw [eF] at c2
  (refine EX.rg (by intro KK hkk; unfold f25_r0; simp only [SX, Nat.reduceEqDiff, ↓reduceIte, Nat.reduceSub, Nat.reduceAdd, Nat.reduceLT, Nat.reduceLeDiff, I.quiet, false_implies, implies_true, -List.reduceReplicate]; exact hkk) ?_)
  refine EX.rg (by
    intro KK hkk; unfold f25_r1
    refine RO_callvS (f46_ok) ?_
    refine RO_callvS (f58_ok) ?_
    simp only [SX, Nat.reduceEqDiff, ↓reduceIte, Nat.reduceSub, Nat.reduceAdd, Nat.reduceLT, Nat.reduceLeDiff, I.quiet, false_implies, implies_true, -List.reduceReplicate, new_app hw, fill1_set]
    refine RO_callE c1 ?_
    simp only [SX, Nat.reduceEqDiff, ↓reduceIte, Nat.reduceSub, Nat.reduceAdd, Nat.reduceLT, Nat.reduceLeDiff, I.quiet, false_implies, implies_true, -List.reduceReplicate]
    exact hkk) ?_
  refine EX.rg (by
    intro KK hkk; unfold f25_r2
    simp only [SX, Nat.reduceEqDiff, ↓reduceIte, Nat.reduceSub, Nat.reduceAdd, Nat.reduceLT, Nat.reduceLeDiff, I.quiet, false_implies, implies_true, -List.reduceReplicate, e0, e1, e2, e3, e4]
    refine RO_callE c2 ?_
    simp only [SX, Nat.reduceEqDiff, ↓reduceIte, Nat.reduceSub, Nat.reduceAdd, Nat.reduceLT, Nat.reduceLeDiff, I.quiet, false_implies, implies_true, -List.reduceReplicate]
    refine RO_callvS (f46_ok) ?_
    simp only [SX, Nat.reduceEqDiff, ↓reduceIte, Nat.reduceSub, Nat.reduceAdd, Nat.reduceLT, Nat.reduceLeDiff, I.quiet, false_implies, implies_true, -List.reduceReplicate]
    refine RO_callvS (f58_ok) ?_
    simp only [SX, Nat.reduceEqDiff, ↓reduceIte, Nat.reduceSub, Nat.reduceAdd, Nat.reduceLT, Nat.reduceLeDiff, I.quiet, false_implies, implies_true, -List.reduceReplicate]
    refine RO_callvS (ex2_check) ?_
    simp only [SX, Nat.reduceEqDiff, ↓reduceIte, Nat.reduceSub, Nat.reduceAdd, Nat.reduceLT, Nat.reduceLeDiff, I.quiet, false_implies, implies_true, -List.reduceReplicate]
    exact hkk) ?_
  ((with_reducible repeat first|apply EX.seq|apply EX.blk); refine EX.ret ?_; (with_reducible repeat first|apply nA|apply nB|apply nC|apply nD|apply nE|apply nF|apply nG (by decide)|apply nH|apply nI|apply nJ); refine ⟨_, rfl, ?_⟩; simp only [packV, upd, Nat.reduceEqDiff, reduceIte, if_true, if_false, Nat.one_ne_zero, Nat.zero_ne_one])
  exact ⟨trivial, _, rfl⟩
end
end Go.Proofs.Ythofdojknjhpgaa
set_option linter.unusedVariables false
set_option linter.unusedSimpArgs false
namespace Go.Proofs.Ythofdojknjhpgaa
open Go
section
variable {h : AH} {bs : List (Option Blk)} {α : Type} [Enc α] {t tr : TypeId} {cells : List Value} {ls : Nat → List α}
/-- A list of one's own whose elements are lists of one's own. -/
structure OwnO (t tr : TypeId) (n : Nat) (bs : List (Option Blk)) (vo : Value) (cells : List Value) (ls : Nat → List α) : Prop where
  out : (vo = .slice none 0 0 ∧ cells = []) ∨ ∃ a, vo = .slice (some ⟨n + a, 0, none⟩) cells.length cells.length ∧ cells ≠ [] ∧ bs[a]? = some (some (.row tr 1 cells))
  own : ∀ r, r < cells.length → ∃ v, cells[r]? = some v ∧ OwnG t n bs v (ls r)
  inj : ∀ (r r' B x y x' y' : Nat), cells[r]? = some (.slice (some ⟨B, 0, none⟩) x y) → cells[r']? = some (.slice (some ⟨B, 0, none⟩) x' y') → r = r'
theorem app1_raw0 {e bytes j : Nat} {t t1 : TypeId} {v : Value} (hj : bs[j]? = some (some (.row t1 e [v]))) (he : e = 1) (hb : bytes ≤ 140737488355328) (hv : one v = true) : app1 t e bytes (.slice none 0 0) (.slice (some ⟨h.next + j, 0, none⟩) 1 1) (h.app bs) = some (.slice (some ⟨h.next + bs.length, 0, none⟩) 1 1, h.app (bs ++ [some (.row t e [v])])) := by
  subst he
  have hs : (h.app bs).src 1 (.slice (some ⟨h.next + j, 0, none⟩) 1 1) = some [v] := by
    simp [AH.src, AH.row?, app_get, hj]
  simp only [app1, hs, lenV, app_new]
  rw [if_neg (by decide), if_pos ⟨by simpa using hb, by decide, by simp [hv]⟩]
  simp [app_next]
theorem app1_raw {e bytes i j n : Nat} {t t1 : TypeId} {cs : List Value} {v : Value} (hw : Wf h) (hi : bs[i]? = some (some (.row t e cs))) (hj : bs[j]? = some (some (.row t1 e [v]))) (he : e = 1) (hn : cs.length = n) (hb : (n + 1) * bytes ≤ 140737488355328) (hb2 : n + 1 ≤ 9223372036854775807) (hv : one v = true) (hc : cs.all one = true) :
    app1 t e bytes (.slice (some ⟨h.next + i, 0, none⟩) n n) (.slice (some ⟨h.next + j, 0, none⟩) 1 1) (h.app bs) = some (.slice (some ⟨h.next + bs.length, 0, none⟩) (n + 1) (n + 1), h.app ((bs ++ [some (Blk.row t e (cs ++ [v]))]).set i none)) := by
  subst he hn
  have hil := getElem?_lt hi
  have hro := hw.ro
  have hs : (h.app bs).src 1 (.slice (some ⟨h.next + j, 0, none⟩) 1 1) = some [v] := by
    simp [AH.src, AH.row?, app_get, hj]
  have hg : (h.app bs).row? (h.next + i) = some (t, 1, cs) := by simp only [AH.row?, app_get, hi]; rfl
  have htk : cs.take (cs.length * 1) = cs := List.take_of_length_le (by omega)
  simp only [app1, hs, lenV, hg, htk, app_new]
  rw [if_neg (by decide), if_pos ⟨hb, hb2, by simp [hv]⟩, if_pos ⟨by show h.ro ≤ _; omega, trivial, trivial, trivial, by omega, hc⟩, app_put (by simp; omega)]
  simp [app_next]
/-- One more list, which lies behind all others. -/
theorem OwnO.push {vo : Value} {xs : List α} {bytes : Nat} (hw : Wf h) (o : OwnO t tr h.next bs vo cells ls) (htr : tr ≠ t) (hx : xs ≠ []) (hb : (cells.length + 1) * bytes ≤ 140737488355328) (hb2 : cells.length + 1 ≤ 1000000) :
    ∃ (bs2 : List (Option Blk)) (vo2 : Value), app1 tr 1 bytes vo (.slice (some ⟨h.next + (bs.length + 1), 0, none⟩) 1 1) (h.app ((bs ++ [some (.row t (Enc.w α) (F xs))]) ++ [some (.row tr 1 [.slice (some ⟨h.next + bs.length, 0, none⟩) xs.length xs.length])])) = some (vo2, h.app bs2) ∧
      OwnO t tr h.next bs2 vo2 (cells ++ [.slice (some ⟨h.next + bs.length, 0, none⟩) xs.length xs.length]) (fun r => if r = cells.length then xs else ls r) := by
  have hown : ∀ bs2 : List (Option Blk), (∀ (k : Nat) (c : List Value), (bs ++ [some (.row t (Enc.w α) (F xs))])[k]? = some (some (.row t (Enc.w α) c)) → bs2[k]? = some (some (.row t (Enc.w α) c))) → ∀ r, r < (cells ++ [Value.slice (some ⟨h.next + bs.length, 0, none⟩) xs.length xs.length]).length → ∃ v, (cells ++ [Value.slice (some ⟨h.next + bs.length, 0, none⟩) xs.length xs.length])[r]? = some v ∧ OwnG t h.next bs2 v (if r = cells.length then xs else ls r) := by
    intro bs2 hk r hr
    by_cases e : r = cells.length
    · subst e
      exact ⟨_, get_last, by rw [if_pos rfl]; exact .inr ⟨bs.length, rfl, hx, hk _ _ get_last⟩⟩
    · rw [List.length_append, List.length_cons, List.length_nil] at hr
      obtain ⟨v, hv, ov⟩ := o.own r (by omega)
      refine ⟨v, by rw [List.getElem?_append_left (by omega)]; exact hv, ?_⟩
      rw [if_neg e]
      exact ov.keep fun i c hi => hk i c (get_ext hi)
  have hinj : ∀ (r r' B x y x' y' : Nat), (cells ++ [Value.slice (some ⟨h.next + bs.length, 0, none⟩) xs.length xs.length])[r]? = some (.slice (some ⟨B, 0, none⟩) x y) → (cells ++ [Value.slice (some ⟨h.next + bs.length, 0, none⟩) xs.length xs.length])[r']? = some (.slice (some ⟨B, 0, none⟩) x' y') → r = r' := by
    have old : ∀ (r x y B : Nat), cells[r]? = some (.slice (some ⟨B, 0, none⟩) x y) → B < h.next + bs.length := by
      intro r x y B hc
      obtain ⟨v', hv', ov'⟩ := o.own r (getElem?_lt hc)
      rw [hc] at hv'
      cases hv'
      obtain ⟨i, rfl, h4⟩ := ov'.lt rfl
      have := getElem?_lt h4
      omega
    have new : ∀ (r x y B : Nat), (cells ++ [Value.slice (some ⟨h.next + bs.length, 0, none⟩) xs.length xs.length])[r]? = some (.slice (some ⟨B, 0, none⟩) x y) → (r < cells.length ∧ cells[r]? = some (.slice (some ⟨B, 0, none⟩) x y)) ∨ (r = cells.length ∧ B = h.next + bs.length) := by
      intro r x y B hc
      rcases Nat.lt_or_ge r cells.length with h1 | h1
      · rw [List.getElem?_append_left h1] at hc; exact .inl ⟨h1, hc⟩
      · have := getElem?_lt hc
        rw [List.length_append, List.length_cons, List.length_nil] at this
        obtain rfl : r = cells.length := by omega
        rw [get_last] at hc; cases hc; exact .inr ⟨rfl, rfl⟩
    intro r r' B x y x' y' h1 h2
    rcases new _ _ _ _ h1 with ⟨a1, a2⟩ | ⟨a1, a2⟩ <;> rcases new _ _ _ _ h2 with ⟨b1, b2⟩ | ⟨b1, b2⟩
    · exact o.inj _ _ _ _ _ _ _ a2 b2
    · have := old _ _ _ _ a2; omega
    · have := old _ _ _ _ b2; omega
    · omega
  have e1 : ((bs ++ [some (Blk.row t (Enc.w α) (F xs))]) ++ [some (Blk.row tr 1 [.slice (some ⟨h.next + bs.length, 0, none⟩) xs.length xs.length])])[bs.length + 1]? = some (some (.row tr 1 [.slice (some ⟨h.next + bs.length, 0, none⟩) xs.length xs.length])) := by
    rw [List.getElem?_append_right (by simp)]; simp
  have hl2 : ((bs ++ [some (Blk.row t (Enc.w α) (F xs))]) ++ [some (Blk.row tr 1 [.slice (some ⟨h.next + bs.length, 0, none⟩) xs.length xs.length])]).length = bs.length + 2 := by simp
  rcases o.out with ⟨rfl, rfl⟩ | ⟨a, rfl, hne, ha⟩
  · refine ⟨_, _, app1_raw0 (j := bs.length + 1) e1 rfl (by simpa using hb) rfl, .inr ⟨_, rfl, by simp, get_last⟩, hown _ fun k c hk => get_ext (get_ext hk), hinj⟩
  · have hal := getElem?_lt ha
    have hone : cells.all one = true := List.all_eq_true.2 fun v hv => by
      obtain ⟨r, hr, rfl⟩ := List.getElem_of_mem hv
      obtain ⟨v', h1, h2⟩ := o.own r hr
      rw [List.getElem?_eq_getElem hr] at h1; cases h1; exact h2.one1
    refine ⟨_, _, app1_raw (i := a) (j := bs.length + 1) hw (get_ext (get_ext ha)) e1 rfl rfl hb (by omega) rfl hone, .inr ⟨bs.length + 2, by rw [hl2]; simp, by simp, ?_⟩, hown _ fun k c hk => ?_, hinj⟩
    · rw [List.getElem?_set, if_neg (by omega), List.getElem?_append_right (by simp)]; simp
    · rw [List.getElem?_set, if_neg (by
        rintro rfl
        rw [get_ext ha] at hk
        injection hk with hk; injection hk with hk; injection hk with e; exact htr e)]
      exact get_ext (get_ext hk)
/-- Rows whose lists are partly such that nobody changes. -/
theorem frzMix {a : Nat} {T T0 : Tm} (hw : Wf h) (harr : bs[a]? = some (some (.row tr 1 cells))) (hown : ∀ r, r < cells.length → ∃ v, cells[r]? = some v ∧ (OwnG t h.next bs v (ls r) ∨ v = L (ls r))) (hinj : ∀ (r r' B x y x' y' : Nat), cells[r]? = some (.slice (some ⟨B, 0, none⟩) x y) → cells[r']? = some (.slice (some ⟨B, 0, none⟩) x' y') → r = r') (htr : tr ≠ t) (hl : ∀ r, r < cells.length → (ls r).length < 4611686018427387904) (ht : ∀ i, T0 i = .tuple #[] ∨ T0 i = T i) :
    ∃ bs' : List (Option Blk), bs'.length = bs.length ∧ bs'[a]? = some (some (.row tr 1 (F ((List.range cells.length).map ls)))) ∧ Wk h.next T0 (h.app bs') T (h.app bs) := by
  have key : ∀ m, m ≤ cells.length → ∃ (bs' : List (Option Blk)) (cs : List Value), bs'.length = bs.length ∧ cs.length = cells.length ∧ bs'[a]? = some (some (.row tr 1 cs)) ∧ (∀ r, r < m → cs[r]? = some (L (ls r))) ∧ (∀ r, m ≤ r → cs[r]? = cells[r]?) ∧ (∀ r, m ≤ r → r < cells.length → ∃ v, cells[r]? = some v ∧ (OwnG t h.next bs' v (ls r) ∨ v = L (ls r))) ∧ Wk h.next T0 (h.app bs') T (h.app bs) := by
    intro m
    induction m with
    | zero =>
      intro _
      refine ⟨bs, cells, rfl, rfl, harr, fun r hr => by omega, fun r _ => rfl, fun r _ hr => hown r hr, ?_⟩
      refine Wk.tell rfl rfl (fun i => ?_) fun C b0 hC => ⟨b0, hC, RB.same fun _ => GV.same⟩
      rcases ht i with e | e
      · rw [e]; exact GV.any
      · rw [e]; exact GV.same
    | succ m ih =>
      intro hm
      obtain ⟨bs', cs, h1, h2, h3, h4, h5, h6, h8⟩ := ih (by omega)
      obtain ⟨v, hv, ov | rfl⟩ := h6 m (Nat.le_refl _) (by omega)
      · obtain ⟨bs2, k1, k2, k3, k4⟩ := ov.frzCell (T := T0) (T0 := T0) (o := m) hw h3 (by rw [h5 m (Nat.le_refl _)]; exact hv) htr (hl m (by omega)) (fun i => .inr rfl)
        refine ⟨bs2, cs.set m (L (ls m)), by omega, by simpa using h2, k2, fun r hr => ?_, fun r hr => ?_, fun r hr hrl => ?_, Wk.trans h8 k4⟩
        · rw [List.getElem?_set]
          split
          · rename_i e; subst e; rw [if_pos (by omega)]
          · exact h4 r (by omega)
        · rw [List.getElem?_set, if_neg (by omega)]; exact h5 r (by omega)
        · obtain ⟨v', hv', ov' | rfl⟩ := h6 r (by omega) hrl
          · refine ⟨v', hv', .inl ?_⟩
            rcases ov' with ov' | ⟨i, g1, g2, g3⟩
            · exact .inl ov'
            · refine .inr ⟨i, g1, g2, k3 i _ (by rintro rfl; rw [h3] at g3; injection g3 with g3; injection g3 with g3; injection g3 with e1; exact htr e1) g3 fun x y => ?_⟩
              rintro rfl
              rw [g1] at hv'
              have := hinj _ _ _ _ _ _ _ hv hv'
              omega
          · exact ⟨_, hv', .inr rfl⟩
      · refine ⟨bs', cs, h1, h2, h3, fun r hr => ?_, fun r hr => h5 r (by omega), fun r hr hrl => h6 r (by omega) hrl, h8⟩
        rcases Nat.lt_or_ge r m with g | g
        · exact h4 r g
        · obtain rfl : r = m := by omega
          rw [h5 r (Nat.le_refl _)]; exact hv
  obtain ⟨bs', cs, h1, h2, h3, h4, h5, h6, h8⟩ := key cells.length (Nat.le_refl _)
  refine ⟨bs', h1, ?_, h8⟩
  have : cs = F ((List.range cells.length).map ls) := by
    apply List.ext_getElem?
    intro i
    by_cases hi : i < cells.length
    · rw [h4 i hi, F_getl (by simpa using hi), rd_eq (by simpa using hi)]
      simp
    · rw [List.getElem?_eq_none (by omega), List.getElem?_eq_none (by rw [F_len, w1l]; simp; omega)]
  rw [← this]; exact h3
/-- What a copy by append comes to. -/
theorem app1_copy {e bytes : Nat} {t : TypeId} {xs : List α} (he : Enc.w α = e) (hx : xs ≠ []) (hb : xs.length * bytes ≤ 140737488355328) (hb2 : xs.length ≤ 9223372036854775807) : app1 t e bytes (.slice none 0 0) (L xs) (h.app bs) = some (.slice (some ⟨h.next + bs.length, 0, none⟩) xs.length xs.length, h.app (bs ++ [some (.row t e (F xs))])) := by
  have hs : (h.app bs).src e (L xs) = some (F xs) := src_L he
  have hl : xs.length ≠ 0 := fun e => hx (List.eq_nil_of_length_eq_zero e)
  simp only [app1, hs, lenV_L, app_new]
  rw [if_neg hl, if_pos ⟨by simpa using hb, by simpa using hb2, F_one⟩]
  simp [app_next]
end
end Go.Proofs.Ythofdojknjhpgaa
set_option linter.unusedVariables false
set_option linter.unusedSimpArgs false
namespace Go.Proofs.Ythofdojknjhpgaa
open Go
section
variable {h : AH} {bs : List (Option Blk)}
theorem rd_set_eq {α : Type} [Inhabited α] {xs : List α} {i : Nat} {x : α} (h : i < xs.length) : rd (xs.set i x) i = x := by
  rw [rdq (by simpa using h)]; simp
theorem rd_set_ne {α : Type} [Inhabited α] {xs : List α} {i j : Nat} {x : α} (h : j ≠ i) : rd (xs.set i x) j = rd xs j := by
  unfold rd; rw [List.getD_eq_getElem?_getD, List.getD_eq_getElem?_getD, List.getElem?_set, if_neg (fun e => h e.symm)]
/-- What 'changed' has before it returns. -/
structure ChOk (h : AH) (bs : List (Option Blk)) (vo : Value) (qs : List (List Stg)) : Prop where
  ex : ∃ (a : Nat) (cells : List Value), vo = .slice (some ⟨h.next + a, 0, none⟩) qs.length qs.length ∧ cells.length = qs.length ∧ bs[a]? = some (some (.row 36 1 cells)) ∧ (∀ r, r < cells.length → ∃ v, cells[r]? = some v ∧ (OwnG 65 h.next bs v (rd qs r) ∨ v = L (rd qs r))) ∧ (∀ (r r' B x y x' y' : Nat), cells[r]? = some (.slice (some ⟨B, 0, none⟩) x y) → cells[r']? = some (.slice (some ⟨B, 0, none⟩) x' y') → r = r')
theorem ChOk.ret {vo : Value} {qs : List (List Stg)} {T : Tm} (hw : Wf h) (c : ChOk h bs vo qs) (hne : qs ≠ []) (hl : qs.length ≤ 1000) (hl2 : ∀ q ∈ qs, q.length ≤ 1000) (t8 : T 8 = vo) : Wk h.next (upd TE 8 (L qs)) h T (h.app bs) := by
  obtain ⟨a, cells, rfl, hcl, harr, hown, hinj⟩ := c.ex
  obtain ⟨bs', l1, b1, w1⟩ := frzMix (T := T) (T0 := upd TE 8 (.slice (some ⟨h.next + a, 0, none⟩) qs.length qs.length)) hw harr hown hinj (by decide) (fun r hr => by
    have := hl2 _ (rd_mem (show r < qs.length by omega)); omega) (fun i => by
    unfold Go.Proofs.Ythofdojknjhpgaa.upd; split
    · rename_i e; subst e; exact .inr t8.symm
    · exact .inl rfl)
  have hq : (List.range cells.length).map (rd qs) = qs := by
    apply List.ext_getElem
    · simp [hcl]
    · intro i h1 h2
      simp [rd_eq h2]
  rw [hq] at b1
  have ow : OwnG 36 h.next bs' (.slice (some ⟨h.next + a, 0, none⟩) qs.length qs.length) qs := .inr ⟨a, rfl, hne, b1⟩
  exact w1.trans (ow.retR (r := 8) hw (by omega) (by simp [Go.Proofs.Ythofdojknjhpgaa.upd]))
end
end Go.Proofs.Ythofdojknjhpgaa
set_option linter.unusedVariables false
set_option linter.unusedSimpArgs false
namespace Go.Proofs.Ythofdojknjhpgaa
open Go
def usedB (g : Stg) (r : Int) : Bool := decide (g.sec = r) || decide (r ∈ g.pts)
def allRP (r : Int) (t : Nat) (p : List Stg) : Nat → List (Int × Int)
  | 0 => []
  | k + 1 => allRP r t p k ++ if usedB (rd p k) r = true then [((t : Int), (k : Int))] else []
def allR (ps : List (List Stg)) (r : Int) : Nat → List (Int × Int)
  | 0 => []
  | t + 1 => allR ps r t ++ allRP r t (rd ps t) (rd ps t).length
theorem allRP_len {r : Int} {t : Nat} {p : List Stg} : ∀ k, (allRP r t p k).length ≤ k
  | 0 => Nat.le_refl _
  | k + 1 => by have := allRP_len (r := r) (t := t) (p := p) k; rw [allRP, List.length_append]; split <;> simp <;> omega
theorem allR_len {ps : List (List Stg)} {r : Int} (hp : PathsA ps) : ∀ t, t ≤ ps.length → (allR ps r t).length ≤ 64 * t
  | 0, _ => Nat.le_refl _
  | t + 1, ht => by
    have h1 := allR_len (r := r) hp t (by omega)
    have h2 := (hp.2 (rd ps t) (rd_mem (show t < ps.length by omega))).1
    have h3 := allRP_len (r := r) (t := t) (p := rd ps t) (rd ps t).length
    rw [allR, List.length_append]
    omega
section
variable {h : AH}
/-- 'Uses' of the reference. -/
theorem f71_ok {g : Stg} {r : Int} (hgp : g.pts.length ≤ 1000) : AC Go.Proofs.Try.prog 71 [stgV g, .int .i64 r] h (.tuple #[.bool (usedB g r), .bool (decide (g.sec = r))]) h := by
  have hcl : ∀ a b : Bool, Cl (.tuple #[.bool a, .bool b]) := fun a b => Cl.tuple (vs := [_, _]) (by
    intro v hv
    simp only [List.mem_cons, List.not_mem_nil, or_false] at hv
    rcases hv with rfl | rfl <;> exact Cl.bool)
  refine AC.wf fun hw => AC.of_app hw (hcl _ _) ?_
  refine EC.intro f71_is ?_
  unfold f71_c stgV
  (refine EX.rg (by intro KK hkk; unfold f71_r0; simp only [SX, Nat.reduceEqDiff, ↓reduceIte, Nat.reduceSub, Nat.reduceAdd, Nat.reduceLT, Nat.reduceLeDiff, I.quiet, false_implies, implies_true, -List.reduceReplicate, new_app hw]; exact hkk) ?_)
  (refine EX.rg (by intro KK hkk; unfold f71_r1; simp only [SX, Nat.reduceEqDiff, ↓reduceIte, Nat.reduceSub, Nat.reduceAdd, Nat.reduceLT, Nat.reduceLeDiff, I.quiet, false_implies, implies_true, -List.reduceReplicate]; exact hkk) ?_)
  refine EX.dec rfl (fun hd => ?_) (fun hd => ?_)
  · (refine EX.rg (by intro KK hkk; unfold f71_r2; simp only [SX, Nat.reduceEqDiff, ↓reduceIte, Nat.reduceSub, Nat.reduceAdd, Nat.reduceLT, Nat.reduceLeDiff, I.quiet, false_implies, implies_true, -List.reduceReplicate]; exact hkk) ?_)
    ((with_reducible repeat first|apply EX.seq|apply EX.blk); refine EX.ret ?_; (with_reducible repeat first|apply nA|apply nB|apply nC|apply nD|apply nE|apply nF|apply nG (by decide)|apply nH|apply nI|apply nJ); refine ⟨_, rfl, ?_⟩; simp only [packV, upd, Nat.reduceEqDiff, reduceIte, if_true, if_false, Nat.one_ne_zero, Nat.zero_ne_one])
    refine ⟨?_, _, rfl⟩
    simp [usedB, hd]
  · (refine EX.skip ?_; (with_reducible repeat first|apply nA|apply nB|apply nC|apply nD|apply nE|apply nF|apply nG (by decide)|apply nH|apply nI|apply nJ))
    (refine EX.rg (by intro KK hkk; unfold f71_r3; simp only [SX, Nat.reduceEqDiff, ↓reduceIte, Nat.reduceSub, Nat.reduceAdd, Nat.reduceLT, Nat.reduceLeDiff, I.quiet, false_implies, implies_true, -List.reduceReplicate]; exact hkk) ?_)
    (with_reducible repeat first|apply EX.seq|apply EX.blk)
    refine EX.loop (σ := Nat) (fun i => upd (upd (upd (upd TE 1 (.int .i64 r)) 13 (L g.pts)) 14 (.int .i64 g.pts.length)) 15 (.int .i64 (i : Nat))) (fun _ => h.app [some (.row 65 0 [.int .i64 g.sec, L g.pts, .int .i64 g.min, .int .i64 g.not])]) (fun i => i ≤ g.pts.length ∧ ∀ j, j < i → rd g.pts j ≠ r) (fun i => g.pts.length - i) 0 ⟨Nat.zero_le _, fun j hj => by omega⟩ (Less.wk (by (repeat refine Less.upd ?_ (by rfl)); exact Less.nil)) ?_
    rintro i ⟨hi, hn⟩
    (refine EX.rg (by intro KK hkk; unfold f71_r4; simp only [SX, Nat.reduceEqDiff, ↓reduceIte, Nat.reduceSub, Nat.reduceAdd, Nat.reduceLT, Nat.reduceLeDiff, I.quiet, false_implies, implies_true, -List.reduceReplicate, lt_nat]; exact hkk) ?_)
    (with_reducible repeat first|apply EX.seq|apply EX.blk)
    refine EX.dec rfl (fun hlt => ?_) (fun hlt => ?_)
    · (refine EX.skip ?_; (with_reducible repeat first|apply nA|apply nB|apply nC|apply nD|apply nE|apply nF|apply nG (by decide)|apply nH|apply nI|apply nJ))
      (refine EX.rg (by intro KK hkk; unfold f71_r5; simp only [SX, Nat.reduceEqDiff, ↓reduceIte, Nat.reduceSub, Nat.reduceAdd, Nat.reduceLT, Nat.reduceLeDiff, I.quiet, false_implies, implies_true, -List.reduceReplicate, hlt, ld1_ef hlt o1i]; exact hkk) ?_)
      (refine EX.rg (by intro KK hkk; unfold f71_r6; simp only [SX, Nat.reduceEqDiff, ↓reduceIte, Nat.reduceSub, Nat.reduceAdd, Nat.reduceLT, Nat.reduceLeDiff, I.quiet, false_implies, implies_true, -List.reduceReplicate]; exact hkk) ?_)
      refine EX.dec rfl (fun he => ?_) (fun he => ?_)
      · (refine EX.rg (by intro KK hkk; unfold f71_r7; simp only [SX, Nat.reduceEqDiff, ↓reduceIte, Nat.reduceSub, Nat.reduceAdd, Nat.reduceLT, Nat.reduceLeDiff, I.quiet, false_implies, implies_true, -List.reduceReplicate]; exact hkk) ?_)
        ((with_reducible repeat first|apply EX.seq|apply EX.blk); refine EX.ret ?_; (with_reducible repeat first|apply nA|apply nB|apply nC|apply nD|apply nE|apply nF|apply nG (by decide)|apply nH|apply nI|apply nJ); refine ⟨_, rfl, ?_⟩; simp only [packV, upd, Nat.reduceEqDiff, reduceIte, if_true, if_false, Nat.one_ne_zero, Nat.zero_ne_one])
        refine ⟨?_, _, rfl⟩
        have hm : r ∈ g.pts := by rw [← he]; exact rd_mem hlt
        simp [usedB, hd, hm]
      · (refine EX.skip ?_; (with_reducible repeat first|apply nA|apply nB|apply nC|apply nD|apply nE|apply nF|apply nG (by decide)|apply nH|apply nI|apply nJ))
        (refine EX.rg (by intro KK hkk; unfold f71_r8; simp only [SX, Nat.reduceEqDiff, ↓reduceIte, Nat.reduceSub, Nat.reduceAdd, Nat.reduceLT, Nat.reduceLeDiff, I.quiet, false_implies, implies_true, -List.reduceReplicate, wrap_nat (show i < 4611686018427387904 by omega)]; exact hkk) ?_)
        refine ⟨i + 1, ⟨hlt, fun j hj => ?_⟩, by omega, Less.wk (by (repeat refine Less.upd ?_ (by rfl)); exact Less.nil)⟩
        rcases Nat.lt_or_ge j i with h1 | h1
        · exact hn j h1
        · obtain rfl : j = i := by omega
          exact he
    · (refine EX.exit ?_; (with_reducible repeat first|apply nA|apply nB|apply nC|apply nD|apply nE|apply nF|apply nG (by decide)|apply nH|apply nI|apply nJ))
      obtain rfl : i = g.pts.length := by omega
      (refine EX.rg (by intro KK hkk; unfold f71_r9; simp only [SX, Nat.reduceEqDiff, ↓reduceIte, Nat.reduceSub, Nat.reduceAdd, Nat.reduceLT, Nat.reduceLeDiff, I.quiet, false_implies, implies_true, -List.reduceReplicate]; exact hkk) ?_)
      ((with_reducible repeat first|apply EX.seq|apply EX.blk); refine EX.ret ?_; (with_reducible repeat first|apply nA|apply nB|apply nC|apply nD|apply nE|apply nF|apply nG (by decide)|apply nH|apply nI|apply nJ); refine ⟨_, rfl, ?_⟩; simp only [packV, upd, Nat.reduceEqDiff, reduceIte, if_true, if_false, Nat.one_ne_zero, Nat.zero_ne_one])
      refine ⟨?_, _, rfl⟩
      have hm : r ∉ g.pts := by
        intro hm
        obtain ⟨j, hj, rfl⟩ := List.getElem_of_mem hm
        exact hn j hj (rd_eq hj)
      simp [usedB, hd, hm]
/-- 'All' of the reference. -/
theorem f66_ok {ps : List (List Stg)} {r : Int} (hp : PathsA ps) : AC Go.Proofs.Try.prog 66 [L ps, .int .i64 r] h (L (allR ps r ps.length)) h := by
  have lp := hp.1
  refine AC.wf fun hw => AC.of_app hw L_cl ?_
  refine EC.intro f66_is ?_
  unfold f66_c
  (refine EX.rg (by intro KK hkk; unfold f66_r0; simp only [SX, Nat.reduceEqDiff, ↓reduceIte, Nat.reduceSub, Nat.reduceAdd, Nat.reduceLT, Nat.reduceLeDiff, I.quiet, false_implies, implies_true, -List.reduceReplicate]; exact hkk) ?_)
  (refine EX.rg (by intro KK hkk; unfold f66_r1; simp only [SX, Nat.reduceEqDiff, ↓reduceIte, Nat.reduceSub, Nat.reduceAdd, Nat.reduceLT, Nat.reduceLeDiff, I.quiet, false_implies, implies_true, -List.reduceReplicate]; exact hkk) ?_)
  (refine EX.rg (by intro KK hkk; unfold f66_r2; simp only [SX, Nat.reduceEqDiff, ↓reduceIte, Nat.reduceSub, Nat.reduceAdd, Nat.reduceLT, Nat.reduceLeDiff, I.quiet, false_implies, implies_true, -List.reduceReplicate]; exact hkk) ?_)
  (with_reducible repeat first|apply EX.seq|apply EX.blk)
  refine EX.loop (σ := Nat × Value × List (Option Blk)) (fun s => upd (upd (upd (upd (upd TE 1 (.int .i64 r)) 5 s.2.1) 12 (L ps)) 13 (.int .i64 ps.length)) 14 (.int .i64 (s.1 : Nat))) (fun s => h.app s.2.2)
    (fun s => s.1 ≤ ps.length ∧ OwnG 48 h.next s.2.2 s.2.1 (allR ps r s.1)) (fun s => ps.length - s.1) (0, .slice none 0 0, []) ⟨Nat.zero_le _, .inl ⟨rfl, rfl⟩⟩ (by rw [app_nil hw]; exact Less.wk (by (repeat refine Less.upd ?_ (by rfl)); exact Less.nil)) ?_
  rintro ⟨t, v, bs⟩ ⟨ht, hov⟩
  simp only at ht hov
  (refine EX.rg (by intro KK hkk; unfold f66_r3; simp only [SX, Nat.reduceEqDiff, ↓reduceIte, Nat.reduceSub, Nat.reduceAdd, Nat.reduceLT, Nat.reduceLeDiff, I.quiet, false_implies, implies_true, -List.reduceReplicate, lt_nat]; exact hkk) ?_)
  (with_reducible repeat first|apply EX.seq|apply EX.blk)
  refine EX.dec rfl (fun hlt => ?_) (fun hlt => ?_)
  · (refine EX.skip ?_; (with_reducible repeat first|apply nA|apply nB|apply nC|apply nD|apply nE|apply nF|apply nG (by decide)|apply nH|apply nI|apply nJ))
    obtain ⟨hp1, hp2⟩ := hp.2 _ (rd_mem hlt)
    have hal := allR_len (r := r) hp t ht
    have hnx : allR ps r (t + 1) = allR ps r t ++ allRP r t (rd ps t) (rd ps t).length := rfl
    (refine EX.rg (by intro KK hkk; unfold f66_r4; simp only [SX, Nat.reduceEqDiff, ↓reduceIte, Nat.reduceSub, Nat.reduceAdd, Nat.reduceLT, Nat.reduceLeDiff, I.quiet, false_implies, implies_true, -List.reduceReplicate, hlt, ld1_ef hlt o1l]; exact hkk) ?_)
    generalize rd ps t = p at *
    (refine EX.rg (by intro KK hkk; unfold f66_r5; simp only [SX, Nat.reduceEqDiff, ↓reduceIte, Nat.reduceSub, Nat.reduceAdd, Nat.reduceLT, Nat.reduceLeDiff, I.quiet, false_implies, implies_true, -List.reduceReplicate]; exact hkk) ?_)
    refine EX.cutR (F := fun T1 H1 => ∃ v2 bs2, T1 1 = .int .i64 r ∧ T1 5 = v2 ∧ T1 12 = L ps ∧ T1 13 = .int .i64 ps.length ∧ T1 14 = .int .i64 (t : Nat) ∧ H1 = h.app bs2 ∧ OwnG 48 h.next bs2 v2 (allR ps r (t + 1))) ?_ ?_
    · (with_reducible repeat first|apply EX.seq|apply EX.blk)
      refine EX.loop (σ := Nat × Value × List (Option Blk)) (fun s => upd (upd (upd (upd (upd (upd (upd (upd (upd TE 1 (.int .i64 r)) 5 s.2.1) 6 (.int .i64 (t : Nat))) 12 (L ps)) 13 (.int .i64 ps.length)) 14 (.int .i64 (t : Nat))) 19 (L p)) 20 (.int .i64 p.length)) 21 (.int .i64 (s.1 : Nat))) (fun s => h.app s.2.2)
        (fun s => s.1 ≤ p.length ∧ OwnG 48 h.next s.2.2 s.2.1 (allR ps r t ++ allRP r t p s.1)) (fun s => p.length - s.1) (0, v, bs) ⟨Nat.zero_le _, by rw [allRP, List.append_nil]; exact hov⟩ (Less.wk (by (repeat refine Less.upd ?_ (by rfl)); exact Less.nil)) ?_
      rintro ⟨k, v3, bs3⟩ ⟨hk, hov3⟩
      simp only at hk hov3
      (refine EX.rg (by intro KK hkk; unfold f66_r6; simp only [SX, Nat.reduceEqDiff, ↓reduceIte, Nat.reduceSub, Nat.reduceAdd, Nat.reduceLT, Nat.reduceLeDiff, I.quiet, false_implies, implies_true, -List.reduceReplicate, lt_nat]; exact hkk) ?_)
      (with_reducible repeat first|apply EX.seq|apply EX.blk)
      refine EX.dec rfl (fun hlk => ?_) (fun hlk => ?_)
      · (refine EX.skip ?_; (with_reducible repeat first|apply nA|apply nB|apply nC|apply nD|apply nE|apply nF|apply nG (by decide)|apply nH|apply nI|apply nJ))
        have hg := hp2 _ (rd_mem hlk)
        have hapl := allRP_len (r := r) (t := t) (p := p) k
        have hnk : allRP r t p (k + 1) = allRP r t p k ++ if usedB (rd p k) r = true then [((t : Int), (k : Int))] else [] := rfl
        (refine EX.rg (by intro KK hkk; unfold f66_r7; simp only [SX, Nat.reduceEqDiff, ↓reduceIte, Nat.reduceSub, Nat.reduceAdd, Nat.reduceLT, Nat.reduceLeDiff, I.quiet, false_implies, implies_true, -List.reduceReplicate, hlk, w4s, lds1_ef hlk (show 0 + 4 ≤ Enc.w Stg from Nat.le_refl 4), cells_stg, hw.roi, stAt_all, get_last, set_last, lt_last]; exact hkk) ?_)
        generalize rd p k = g at *
        have b9 : (bs3 ++ [some (Blk.row 65 0 [.int .i64 g.sec, L g.pts, .int .i64 g.min, .int .i64 g.not])])[bs3.length]? = some (some (.row 65 0 [.int .i64 g.sec, L g.pts, .int .i64 g.min, .int .i64 g.not])) := get_last
        have hov4 := hov3.ext (l := [some (Blk.row 65 0 [.int .i64 g.sec, L g.pts, .int .i64 g.min, .int .i64 g.not])])
        generalize bs3 ++ [some (Blk.row 65 0 [.int .i64 g.sec, L g.pts, .int .i64 g.min, .int .i64 g.not])] = bs4 at *
        generalize bs3.length = i9 at *
        have c71 := f71_ok (h := h.app bs4) (g := g) (r := r) (by have := hg.2.1; omega)
        refine EX.rg (by intro KK hkk; unfold f66_r8; simp only [SX, Nat.reduceEqDiff, ↓reduceIte, Nat.reduceSub, Nat.reduceAdd, Nat.reduceLT, Nat.reduceLeDiff, I.quiet, false_implies, implies_true, -List.reduceReplicate, b9, ldsAt_row, Nat.le_refl]; refine RO_callvS c71 ?_; simp only [SX, Nat.reduceEqDiff, ↓reduceIte, Nat.reduceSub, Nat.reduceAdd, Nat.reduceLT, Nat.reduceLeDiff, I.quiet, false_implies, implies_true, -List.reduceReplicate]; exact hkk) ?_
        (refine EX.rg (by intro KK hkk; unfold f66_r9; simp only [SX, Nat.reduceEqDiff, ↓reduceIte, Nat.reduceSub, Nat.reduceAdd, Nat.reduceLT, Nat.reduceLeDiff, I.quiet, false_implies, implies_true, -List.reduceReplicate]; exact hkk) ?_)
        refine EX.ite rfl (fun hc => ?_) (fun hc => ?_)
        · obtain ⟨bs5, ap, hov5, keep⟩ := hov4.push (x := ((t : Int), (k : Int))) (e := 2) (bytes := 16) rfl hw (by rw [List.length_append]; omega) (by rw [List.length_append]; omega)
          have hcr : Enc.cells ((t : Int), (k : Int)) = [.int .i64 (t : Int), .int .i64 (k : Int)] := rfl
          rw [hcr] at ap
          (refine EX.rg (by intro KK hkk; unfold f66_r10; simp only [SX, Nat.reduceEqDiff, ↓reduceIte, Nat.reduceSub, Nat.reduceAdd, Nat.reduceLT, Nat.reduceLeDiff, I.quiet, false_implies, implies_true, -List.reduceReplicate, fill1_agg, ap]; exact hkk) ?_)
          (refine EX.rg (by intro KK hkk; unfold f66_r11; simp only [SX, Nat.reduceEqDiff, ↓reduceIte, Nat.reduceSub, Nat.reduceAdd, Nat.reduceLT, Nat.reduceLeDiff, I.quiet, false_implies, implies_true, -List.reduceReplicate, wrap_nat (show k < 4611686018427387904 by omega)]; exact hkk) ?_)
          refine ⟨(k + 1, _, bs5), ⟨hlk, by rw [hnk, if_pos hc, ← List.append_assoc]; exact hov5⟩, by show p.length - (k + 1) < p.length - k; omega, Less.wk (by (repeat refine Less.upd ?_ (by rfl)); exact Less.nil)⟩
        · (refine EX.skip ?_; (with_reducible repeat first|apply nA|apply nB|apply nC|apply nD|apply nE|apply nF|apply nG (by decide)|apply nH|apply nI|apply nJ))
          (refine EX.rg (by intro KK hkk; unfold f66_r11; simp only [SX, Nat.reduceEqDiff, ↓reduceIte, Nat.reduceSub, Nat.reduceAdd, Nat.reduceLT, Nat.reduceLeDiff, I.quiet, false_implies, implies_true, -List.reduceReplicate, wrap_nat (show k < 4611686018427387904 by omega)]; exact hkk) ?_)
          refine ⟨(k + 1, v3, bs4), ⟨hlk, by rw [hnk, hc, if_neg (by decide), List.append_nil]; exact hov4⟩, by show p.length - (k + 1) < p.length - k; omega, Less.wk (by (repeat refine Less.upd ?_ (by rfl)); exact Less.nil)⟩
      · (refine EX.exit ?_; (with_reducible repeat first|apply nA|apply nB|apply nC|apply nD|apply nE|apply nF|apply nG (by decide)|apply nH|apply nI|apply nJ))
        obtain rfl : k = p.length := by omega
        exact ⟨v3, bs3, rfl, rfl, rfl, rfl, rfl, rfl, by rw [hnx]; exact hov3⟩
    · rintro T1 H1 ⟨v2, bs2, t1, t5, t12, t13, t14, rfl, hov2⟩
      (with_reducible repeat first|apply nA|apply nB|apply nC|apply nD|apply nE|apply nF|apply nG (by decide)|apply nH|apply nI|apply nJ)
      (refine EX.rg (by intro KK hkk; unfold f66_r12; simp only [SX, Nat.reduceEqDiff, ↓reduceIte, Nat.reduceSub, Nat.reduceAdd, Nat.reduceLT, Nat.reduceLeDiff, I.quiet, false_implies, implies_true, -List.reduceReplicate, t14, wrap_nat (show t < 4611686018427387904 by omega)]; exact hkk) ?_)
      refine ⟨(t + 1, v2, bs2), ⟨hlt, hov2⟩, by show ps.length - (t + 1) < ps.length - t; omega, Less.wk ?_⟩
      refine Less.upd (Less.upd (Less.upd (Less.upd (Less.upd Less.nil ?_) ?_) ?_) ?_) ?_ <;> simp [upd, t1, t5, t12, t13]
  · (refine EX.exit ?_; (with_reducible repeat first|apply nA|apply nB|apply nC|apply nD|apply nE|apply nF|apply nG (by decide)|apply nH|apply nI|apply nJ))
    obtain rfl : t = ps.length := by omega
    have hal := allR_len (r := r) hp ps.length (Nat.le_refl _)
    (refine EX.rg (by intro KK hkk; unfold f66_r13; simp only [SX, Nat.reduceEqDiff, ↓reduceIte, Nat.reduceSub, Nat.reduceAdd, Nat.reduceLT, Nat.reduceLeDiff, I.quiet, false_implies, implies_true, -List.reduceReplicate]; exact hkk) ?_)
    (with_reducible repeat first|apply EX.seq|apply EX.blk)
    refine EX.wk ?_ (hov.retR (r := 4) hw (by omega) rfl)
    ((with_reducible repeat first|apply EX.seq|apply EX.blk); refine EX.ret ?_; (with_reducible repeat first|apply nA|apply nB|apply nC|apply nD|apply nE|apply nF|apply nG (by decide)|apply nH|apply nI|apply nJ); refine ⟨_, rfl, ?_⟩; simp only [packV, upd, Nat.reduceEqDiff, reduceIte, if_true, if_false, Nat.one_ne_zero, Nat.zero_ne_one])
    exact ⟨trivial, [], (app_nil hw).symm⟩
end
end Go.Proofs.Ythofdojknjhpgaa
set_option linter.unusedVariables false
set_option linter.unusedSimpArgs false
namespace Go.Proofs.Ythofdojknjhpgaa
open Go
def enO (enter : List (List Int)) (u : Int × Int) : Int := rd (rd enter u.1.toNat) u.2.toNat
def posM (e : Int × Int → Int) (l : List (Int × Int)) (u : Int × Int) : Nat → Nat
  | 0 => 0
  | k + 1 => if e u < e (rd l k) then posM e l u k else k + 1
def insM' (e : Int × Int → Int) (l : List (Int × Int)) (u : Int × Int) : List (Int × Int) := l.take (posM e l u l.length) ++ [u] ++ l.drop (posM e l u l.length)
def sortT (e : Int × Int → Int) (all : List (Int × Int)) : Nat → List (Int × Int)
  | 0 => []
  | i + 1 => insM' e (sortT e all i) (rd all i)
theorem posM_le {e : Int × Int → Int} {l : List (Int × Int)} {u : Int × Int} : ∀ k, posM e l u k ≤ k
  | 0 => Nat.le_refl _
  | k + 1 => by
    rw [posM]; split
    · have := posM_le (e := e) (l := l) (u := u) k; omega
    · exact Nat.le_refl _
theorem posM_gt {e : Int × Int → Int} {l : List (Int × Int)} {u : Int × Int} : ∀ k j, posM e l u k ≤ j → j < k → e u < e (rd l j)
  | 0, j, _, h => by omega
  | k + 1, j, h1, h2 => by
    rw [posM] at h1
    split at h1
    · rename_i hc
      rcases Nat.lt_or_ge j k with h3 | h3
      · exact posM_gt k j h1 h3
      · obtain rfl : j = k := by omega
        exact hc
    · omega
theorem insM_perm {e : Int × Int → Int} {l : List (Int × Int)} {u : Int × Int} : (insM' e l u).Perm (l ++ [u]) := by
  unfold insM'
  generalize posM e l u l.length = k
  rw [List.append_assoc]
  refine List.Perm.trans (List.Perm.append_left _ (List.perm_append_comm)) ?_
  rw [← List.append_assoc, List.take_append_drop]
theorem insM_len {e : Int × Int → Int} {l : List (Int × Int)} {u : Int × Int} : (insM' e l u).length = l.length + 1 := by
  rw [insM_perm.length_eq]; simp
theorem sortT_len {e : Int × Int → Int} {all : List (Int × Int)} : ∀ i, (sortT e all i).length = i
  | 0 => rfl
  | i + 1 => by rw [sortT, insM_len, sortT_len i]
theorem sortT_perm {e : Int × Int → Int} {all : List (Int × Int)} : ∀ i, i ≤ all.length → (sortT e all i).Perm (all.take i)
  | 0, _ => by simp [sortT]
  | i + 1, hi => by
    rw [sortT]
    refine insM_perm.trans ?_
    rw [List.take_succ_eq_append_getElem hi, rdq hi]
    exact List.Perm.append_right _ (sortT_perm i (by omega))
/-- Uses of one train come in the order of the stages. -/
def AscU (a b : Int × Int) : Prop := a.1 = b.1 → a.2 < b.2
theorem sortT_asc {e : Int × Int → Int} {all : List (Int × Int)} (ha : all.Pairwise AscU) (he : all.Pairwise fun a b => a.1 = b.1 → e a ≤ e b) : ∀ i, i ≤ all.length → (sortT e all i).Pairwise AscU
  | 0, _ => by simp [sortT]
  | i + 1, hi => by
    have ih := sortT_asc ha he i (by omega)
    have hp := sortT_perm (e := e) (all := all) i (by omega)
    have hu : ∀ a ∈ sortT e all i, AscU a (rd all i) ∧ (a.1 = (rd all i).1 → e a ≤ e (rd all i)) := by
      intro a hm
      have hm2 := hp.mem_iff.1 hm
      obtain ⟨j, hj, rfl⟩ := List.getElem_of_mem hm2
      have hj2 : j < i := by simp at hj; omega
      rw [List.getElem_take, rdq (by omega)]
      exact ⟨List.pairwise_iff_getElem.1 ha j i (by omega) (by omega) hj2, List.pairwise_iff_getElem.1 he j i (by omega) (by omega) hj2⟩
    rw [sortT]
    generalize sortT e all i = l at *
    generalize rd all i = u at *
    have hgt := posM_gt (e := e) (l := l) (u := u) l.length
    unfold insM'
    generalize posM e l u l.length = k at *
    rw [List.append_assoc, List.pairwise_append]
    have hl := ih
    rw [← List.take_append_drop k l, List.pairwise_append] at hl
    refine ⟨hl.1, ?_, ?_⟩
    · rw [List.cons_append, List.nil_append, List.pairwise_cons]
      refine ⟨fun b hb e1 => ?_, hl.2.1⟩
      obtain ⟨j, hj, rfl⟩ := List.getElem_of_mem hb
      rw [List.getElem_drop] at e1 ⊢
      have hj2 : k + j < l.length := by simp at hj; omega
      have h1 := hgt (k + j) (by omega) hj2
      have h2 := (hu l[k + j] (List.getElem_mem hj2)).2 e1.symm
      rw [rdq hj2] at h1
      omega
    · intro a hm b hb
      rw [List.cons_append, List.nil_append] at hb
      rcases List.mem_cons.1 hb with rfl | hb
      · exact (hu a (List.mem_of_mem_take hm)).1
      · exact hl.2.2 a hm b hb
/-- The uses of a resource in lexicographic order. -/
theorem allRP_mem {r : Int} {t : Nat} {p : List Stg} : ∀ k, ∀ u ∈ allRP r t p k, ∃ j : Nat, j < k ∧ u = ((t : Int), (j : Int)) ∧ usedB (rd p j) r = true
  | 0, u, hu => by simp [allRP] at hu
  | k + 1, u, hu => by
    rw [allRP, List.mem_append] at hu
    rcases hu with hu | hu
    · obtain ⟨j, h1, h2, h3⟩ := allRP_mem k u hu
      exact ⟨j, by omega, h2, h3⟩
    · split at hu
      · rename_i hc
        rw [List.mem_singleton] at hu
        exact ⟨k, by omega, hu, hc⟩
      · cases hu
theorem allR_mem {ps : List (List Stg)} {r : Int} : ∀ T, ∀ u ∈ allR ps r T, ∃ t j : Nat, t < T ∧ j < (rd ps t).length ∧ u = ((t : Int), (j : Int)) ∧ usedB (rd (rd ps t) j) r = true
  | 0, u, hu => by simp [allR] at hu
  | T + 1, u, hu => by
    rw [allR, List.mem_append] at hu
    rcases hu with hu | hu
    · obtain ⟨t, j, h1, h2, h3, h4⟩ := allR_mem T u hu
      exact ⟨t, j, by omega, h2, h3, h4⟩
    · obtain ⟨j, h1, h2, h3⟩ := allRP_mem _ u hu
      exact ⟨T, j, by omega, h1, h2, h3⟩
theorem allRP_asc {r : Int} {t : Nat} {p : List Stg} : ∀ k, (allRP r t p k).Pairwise rlt
  | 0 => by simp [allRP]
  | k + 1 => by
    rw [allRP, List.pairwise_append]
    refine ⟨allRP_asc k, by split <;> simp, fun a ha b hb => ?_⟩
    obtain ⟨j, h1, rfl, _⟩ := allRP_mem k a ha
    split at hb
    · rw [List.mem_singleton] at hb
      subst hb
      exact .inr ⟨rfl, by simp only; omega⟩
    · cases hb
theorem allR_asc {ps : List (List Stg)} {r : Int} : ∀ T, (allR ps r T).Pairwise rlt
  | 0 => by simp [allR]
  | T + 1 => by
    rw [allR, List.pairwise_append]
    refine ⟨allR_asc T, allRP_asc _, fun a ha b hb => ?_⟩
    obtain ⟨t, j, h1, _, rfl, _⟩ := allR_mem T a ha
    obtain ⟨j', _, rfl, _⟩ := allRP_mem _ b hb
    exact .inl (by simp only; omega)
end Go.Proofs.Ythofdojknjhpgaa
set_option linter.unusedVariables false
set_option linter.unusedSimpArgs false
namespace Go.Proofs.Ythofdojknjhpgaa
open Go
section
variable {h : AH} {bs : List (Option Blk)} {α : Type} [Enc α] {t : TypeId} {v : Value} {xs ys : List α}
/-- Any source, appended to a list of one's own. -/
theorem OwnG.appendL {e bytes : Nat} {u : Value} (he : Enc.w α = e) (hw : Wf h) (o : OwnG t h.next bs v xs) (hs : (h.app bs).src e u = some (F ys)) (hm : lenV u = some ys.length) (hb : (xs.length + ys.length) * bytes ≤ 140737488355328) (hb2 : xs.length + ys.length ≤ 9223372036854775807) :
    ∃ (v2 : Value) (bs2 : List (Option Blk)), app1 t e bytes v u (h.app bs) = some (v2, h.app bs2) ∧ OwnG t h.next bs2 v2 (xs ++ ys) ∧ (∀ (k : Nat) (b : Blk), bs[k]? = some (some b) → (∀ x y, v ≠ .slice (some ⟨h.next + k, 0, none⟩) x y) → bs2[k]? = some (some b)) ∧ ((ys = [] ∧ v2 = v ∧ bs2 = bs) ∨ (ys ≠ [] ∧ ∃ n, v2 = .slice (some ⟨h.next + bs.length, 0, none⟩) n n)) := by
  subst he
  by_cases hy : ys = []
  · subst hy
    refine ⟨v, bs, ?_, by simpa using o, fun k b hk _ => hk, .inl ⟨rfl, rfl, rfl⟩⟩
    rcases o with ⟨rfl, rfl⟩ | ⟨i, rfl, _, _⟩
    · simp only [app1, hs, hm, List.length_nil, if_true]
    · simp only [app1, hs, hm, List.length_nil, if_true]
  · have hl : ys.length ≠ 0 := fun e => hy (List.eq_nil_of_length_eq_zero e)
    have ho1 : (F ys).all one = true := F_one
    rcases o with ⟨rfl, rfl⟩ | ⟨i, rfl, hne, h2⟩
    · refine ⟨_, bs ++ [some (.row t (Enc.w α) (F ys))], ?_, .inr ⟨bs.length, rfl, by simpa using hy, by simp⟩, fun k b hk _ => get_ext hk, .inr ⟨hy, _, rfl⟩⟩
      simp only [app1, hs, hm, app_new]
      rw [if_neg hl, if_pos ⟨by simpa using hb, by simpa using hb2, ho1⟩]
      simp [app_next]
    · have hi := getElem?_lt h2
      have hlen : (F xs).length = xs.length * Enc.w α := F_len
      have hg : (h.app bs).row? (h.next + i) = some (t, Enc.w α, F xs) := by
        simp only [AH.row?, app_get, h2]; rfl
      have ht : (F xs).take (xs.length * Enc.w α) = F xs := List.take_of_length_le (by omega)
      refine ⟨.slice (some ⟨h.next + bs.length, 0, none⟩) (xs.length + ys.length) (xs.length + ys.length), (bs ++ [some (Blk.row t (Enc.w α) (F (xs ++ ys)))]).set i none, ?_, .inr ⟨bs.length, by simp, by simp [hne], ?_⟩, ?_, .inr ⟨hy, _, rfl⟩⟩
      · simp only [app1, hs, hm, hg, ht, app_new]
        have ho : (F xs).all one = true := F_one
        have hro := hw.ro
        rw [if_neg hl, if_pos ⟨hb, hb2, ho1⟩, if_pos ⟨by show h.ro ≤ _; omega, trivial, trivial, trivial, by omega, ho⟩, app_put (by simp; omega)]
        simp [app_next, F_append]
      · rw [List.getElem?_set, if_neg (by omega)]; exact get_last
      · intro k b hk hbn
        have := getElem?_lt hk
        have hki : k ≠ i := by rintro rfl; exact hbn _ _ rfl
        rw [List.getElem?_set, if_neg (fun e => hki e.symm)]; exact get_ext hk
/-- The first elements of a list of one's own. -/
theorem OwnG.take {e k : Nat} (he : Enc.w α = e) (o : OwnG t h.next bs v xs) (hk : k ≤ xs.length) : ∃ u : Value, (∀ H : AH, H.get = (h.app bs).get → sls1 e v none (some (.int .i64 (k : Nat))) H = some (u, H)) ∧ lenV u = some (xs.take k).length ∧ ∀ bs2 : List (Option Blk), (∀ (i : Nat) (b : Blk), bs[i]? = some (some b) → (∃ x y, v = .slice (some ⟨h.next + i, 0, none⟩) x y) → bs2[i]? = some (some b)) → (h.app bs2).src e u = some (F (xs.take k)) := by
  subst he
  rcases o with ⟨rfl, rfl⟩ | ⟨i, rfl, hne, h2⟩
  · obtain rfl : k = 0 := by simpa using hk
    exact ⟨.slice none 0 0, fun H _ => by simp [sls1, bnd1], rfl, fun bs2 _ => rfl⟩
  · refine ⟨.slice (some ⟨h.next + i, 0, none⟩) k k, fun H hH => ?_, by simp [lenV]; omega, fun bs2 hk2 => ?_⟩
    · have hg : H.row? (h.next + i) = some (t, Enc.w α, F xs) := by
        simp only [AH.row?, hH, app_get, h2]; rfl
      simp [sls1, bnd1, hg, hk]
    · have hb := hk2 i _ h2 ⟨_, _, rfl⟩
      have hl : (F xs).length = xs.length * Enc.w α := F_len
      by_cases h0 : k = 0
      · subst h0; simp [AH.src, F_nil]
      · have hmul : k * Enc.w α ≤ xs.length * Enc.w α := Nat.mul_le_mul_right _ hk
        simp only [AH.src, AH.row?, app_get, hb, Option.join_some]
        rw [if_neg h0, if_pos (by omega), List.drop_zero, F_take]
theorem OwnG.drop {e k : Nat} (he : Enc.w α = e) (o : OwnG t h.next bs v xs) (hk : k ≤ xs.length) : ∃ u : Value, (∀ bs2 : List (Option Blk), (∀ (i : Nat) (b : Blk), bs[i]? = some (some b) → (∃ x y, v = .slice (some ⟨h.next + i, 0, none⟩) x y) → bs2[i]? = some (some b)) → sls1 e v (some (.int .i64 (k : Nat))) none (h.app bs2) = some (u, h.app bs2) ∧ (h.app bs2).src e u = some (F (xs.drop k))) ∧ lenV u = some (xs.drop k).length := by
  subst he
  rcases o with ⟨rfl, rfl⟩ | ⟨i, rfl, hne, h2⟩
  · obtain rfl : k = 0 := by simpa using hk
    exact ⟨.slice none 0 0, fun bs2 _ => ⟨by simp [sls1, bnd1], rfl⟩, rfl⟩
  · refine ⟨.slice (some ⟨h.next + i, k * Enc.w α, none⟩) (xs.length - k) (xs.length - k), fun bs2 hk2 => ?_, by simp [lenV]⟩
    have hb := hk2 i _ h2 ⟨_, _, rfl⟩
    have hl : (F xs).length = xs.length * Enc.w α := F_len
    constructor
    · have hg : (h.app bs2).row? (h.next + i) = some (t, Enc.w α, F xs) := by
        simp only [AH.row?, app_get, hb]; rfl
      simp [sls1, bnd1, hg, hk]
    · by_cases h0 : xs.length - k = 0
      · rw [show xs.drop k = [] from List.drop_eq_nil_of_le (by omega)]
        simp [AH.src, F_nil, h0]
      · simp only [AH.src, AH.row?, app_get, hb, Option.join_some]
        have hmul : (xs.length - k) * Enc.w α + k * Enc.w α = xs.length * Enc.w α := by rw [← Nat.add_mul]; congr 1; omega
        rw [if_neg h0, if_pos (by omega), F_drop, List.take_of_length_le (by rw [F_len, List.length_drop]; exact Nat.le_refl _)]
end
theorem F_ref0 {xs : List (Int × Int)} {k : Nat} (hk : k < xs.length) : (F xs)[k * 2]? = some (.int .i64 (rd xs k).1) := by
  have := F_get (xs := xs) (o := 0) hk (by decide)
  rw [wref, Nat.add_zero] at this
  rw [this]; rfl
theorem F_ref1 {xs : List (Int × Int)} {k : Nat} (hk : k < xs.length) : (F xs)[k * 2 + 1]? = some (.int .i64 (rd xs k).2) := by
  have := F_get (xs := xs) (o := 1) hk (by decide)
  rw [wref] at this
  rw [this]; rfl
def ascB (l : List Int) : Bool := (List.range (l.length - 1)).all fun k => decide (rd l k ≤ rd l (k + 1))
def rowB (p : List Stg) (l : List Int) : Bool := decide (l.length = p.length) && ascB l
def enterB (ps : List (List Stg)) (enter : List (List Int)) : Bool := decide (enter.length = ps.length) && (List.range ps.length).all fun t => rowB (rd ps t) (rd enter t)
def sortL (ps : List (List Stg)) (enter : List (List Int)) (r : Nat) : List (Int × Int) := sortT (enO enter) (allR ps (r : Int) ps.length) (allR ps (r : Int) ps.length).length
end Go.Proofs.Ythofdojknjhpgaa
set_option linter.unusedVariables false
set_option linter.unusedSimpArgs false
namespace Go.Proofs.Ythofdojknjhpgaa
open Go
section
variable {h : AH} {bs : List (Option Blk)}
/-- A list in a slot becomes such that nobody changes. -/
theorem OwnG.frzT {α : Type} [Enc α] {t : TypeId} {v : Value} {xs : List α} {r : Nat} {T T0 : Tm} (hw : Wf h) (ho : OwnG t h.next bs v xs) (hl : xs.length < 4611686018427387904) (hr : T r = v) (ht : ∀ i, i ≠ r → T0 i = .tuple #[] ∨ T0 i = T i) :
    ∃ bs' : List (Option Blk), bs'.length = bs.length ∧ (∀ (k : Nat) (b : Blk), bs[k]? = some (some b) → (∀ x y, v ≠ .slice (some ⟨h.next + k, 0, none⟩) x y) → bs'[k]? = some (some b)) ∧ Wk h.next (upd T0 r (L xs)) (h.app bs') T (h.app bs) := by
  rcases ho with ⟨rfl, rfl⟩ | ⟨i, rfl, hx, hi⟩
  · refine ⟨bs, rfl, fun k b hb _ => hb, Wk.tell rfl rfl (fun i => ?_) fun C b0 hC => ⟨b0, hC, RB.same fun _ => GV.same⟩⟩
    unfold Go.Proofs.Ythofdojknjhpgaa.upd; split
    · rename_i e; subst e; rw [hr]; exact GV.nilL
    · rename_i e
      rcases ht i e with e1 | e1
      · rw [e1]; exact GV.any
      · rw [e1]; exact GV.same
  · refine ⟨bs.set i none, by simp, fun k b hb hv => by rw [List.getElem?_set, if_neg (by rintro rfl; exact hv _ _ rfl)]; exact hb, Wk.frzApp hw hi (by simp) (fun j b0 hj => ?_) (fun j => ?_)⟩
    · rw [List.getElem?_set] at hj
      split at hj
      · split at hj <;> cases hj
      · rename_i e2
        exact ⟨fun e => e2 e.symm, b0, hj, RB.same fun _ => FV.same⟩
    · unfold Go.Proofs.Ythofdojknjhpgaa.upd; split
      · rename_i e; subst e; rw [hr]
        refine .inr (.inr (.inr ⟨0, xs.length, xs.length, hl, by rw [F_len]; omega, rfl, ?_⟩))
        rw [List.drop_zero, List.take_of_length_le (by rw [F_len]; omega)]
        rfl
      · rename_i e
        rcases ht j e with e1 | e1
        · exact .inl e1
        · rw [e1]; exact FV.same
theorem ascB_snoc {l : List Int} {x : Int} (h : ascB l = true) (hx : ∀ y ∈ l, y ≤ x) : ascB (l ++ [x]) = true := by
  unfold ascB at *
  rw [List.all_eq_true] at *
  intro k hk
  have hk' : k < l.length := by simpa using hk
  rw [decide_eq_true_eq]
  rcases Nat.lt_or_ge (k + 1) l.length with h1 | h1
  · rw [rd_append_l hk', rd_append_l h1]
    have := h k (List.mem_range.2 (by omega))
    exact of_decide_eq_true this
  · rw [rd_append_l hk', rd_append_r h1, show k + 1 - l.length = 0 by omega]
    exact hx _ (rd_mem hk')
def EntOk (ps : List (List Stg)) (out : List (List Int)) : Prop := ∀ t, t < out.length → rowB (rd ps t) (rd out t) = true
/-- 'Enter'. -/
theorem f48_ok {ps : List (List Stg)} {l : List Int} (hp : PathsA ps) (hl : l.length < 4611686018427387904) : ∃ enter, enterB ps enter = true ∧ AC Go.Proofs.Try.prog 48 [L ps, L l] h (L enter) h := by
  by_cases hw : Wf h
  case neg => 
    refine ⟨ps.map fun p => List.replicate p.length 0, ?_, AC.wf fun hw' => absurd hw' hw⟩
    unfold enterB
    simp only [List.length_map, decide_true, Bool.true_and, List.all_eq_true, List.mem_range]
    intro t ht
    rw [rdq (xs := ps) ht, rdq (by simpa using ht)]
    simp only [List.getElem_map, rowB, List.length_replicate, decide_true, Bool.true_and, ascB, List.all_eq_true, List.mem_range, decide_eq_true_eq]
    intro k hk
    rw [rdq (by simp; omega), rdq (by simp; omega)]
    simp
  suffices k : EC Go.Proofs.Try.prog 48 [L ps, L l] h fun r h' => ∃ enter, r = L enter ∧ h' = h ∧ enterB ps enter = true by
    obtain ⟨_, _, g, en, rfl, rfl, hg⟩ := k
    exact ⟨en, hg, g⟩
  have lp := hp.1
  refine EC.intro f48_is ?_
  unfold f48_c
  (refine EX.rg (by intro KK hkk; unfold f48_r0; simp only [SX, Nat.reduceEqDiff, ↓reduceIte, Nat.reduceSub, Nat.reduceAdd, Nat.reduceLT, Nat.reduceLeDiff, I.quiet, false_implies, implies_true, -List.reduceReplicate]; exact hkk) ?_)
  (refine EX.rg (by intro KK hkk; unfold f48_r1; simp only [SX, Nat.reduceEqDiff, ↓reduceIte, Nat.reduceSub, Nat.reduceAdd, Nat.reduceLT, Nat.reduceLeDiff, I.quiet, false_implies, implies_true, -List.reduceReplicate, new_app hw]; refine RO_callE (f51_ok) ?_; simp only [SX, Nat.reduceEqDiff, ↓reduceIte, Nat.reduceSub, Nat.reduceAdd, Nat.reduceLT, Nat.reduceLeDiff, I.quiet, false_implies, implies_true, -List.reduceReplicate, new_app hw]; exact hkk) ?_)
  (refine EX.rg (by intro KK hkk; unfold f48_r2; simp only [SX, Nat.reduceEqDiff, ↓reduceIte, Nat.reduceSub, Nat.reduceAdd, Nat.reduceLT, Nat.reduceLeDiff, I.quiet, false_implies, implies_true, -List.reduceReplicate]; exact hkk) ?_)
  (refine EX.rg (by intro KK hkk; unfold f48_r3; simp only [SX, Nat.reduceEqDiff, ↓reduceIte, Nat.reduceSub, Nat.reduceAdd, Nat.reduceLT, Nat.reduceLeDiff, I.quiet, false_implies, implies_true, -List.reduceReplicate]; exact hkk) ?_)
  have hs0 : [some (Blk.row 130 0 [L l, .int .i64 0])][0]? = some (src l l) := by rw [src, Nat.sub_self]; rfl
  (with_reducible repeat first|apply EX.seq|apply EX.blk)
  refine EX.loop (σ := Nat × List Int × Value × List (List Int) × List (Option Blk)) (fun s => upd (upd (upd (upd (upd TE 5 (.pointer (some ⟨h.next, 0, none⟩))) 6 s.2.2.1) 13 (L ps)) 14 (.int .i64 ps.length)) 15 (.int .i64 (s.1 : Nat))) (fun s => h.app s.2.2.2.2)
    (fun s => s.1 ≤ ps.length ∧ s.2.1 <:+ l ∧ s.2.2.2.2[0]? = some (src l s.2.1) ∧ OwnG 22 h.next s.2.2.2.2 s.2.2.1 s.2.2.2.1 ∧ s.2.2.2.1.length = s.1 ∧ EntOk ps s.2.2.2.1) (fun s => ps.length - s.1) (0, l, .slice none 0 0, [], [some (.row 130 0 [L l, .int .i64 0])]) ⟨Nat.zero_le _, List.suffix_refl _, hs0, .inl ⟨rfl, rfl⟩, rfl, fun t ht => by simp at ht⟩ (Less.wk (by (repeat refine Less.upd ?_ (by rfl)); exact Less.nil)) ?_
  rintro ⟨t, rem, v, out, bs⟩ ⟨ht, hrem, hb0, hov, hol, hent⟩
  simp only at ht hrem hb0 hov hol hent
  (refine EX.rg (by intro KK hkk; unfold f48_r4; simp only [SX, Nat.reduceEqDiff, ↓reduceIte, Nat.reduceSub, Nat.reduceAdd, Nat.reduceLT, Nat.reduceLeDiff, I.quiet, false_implies, implies_true, -List.reduceReplicate, lt_nat]; exact hkk) ?_)
  (with_reducible repeat first|apply EX.seq|apply EX.blk)
  refine EX.dec rfl (fun hlt => ?_) (fun hlt => ?_)
  · (refine EX.skip ?_; (with_reducible repeat first|apply nA|apply nB|apply nC|apply nD|apply nE|apply nF|apply nG (by decide)|apply nH|apply nI|apply nJ))
    obtain ⟨hp1, hp2⟩ := hp.2 _ (rd_mem hlt)
    (refine EX.rg (by intro KK hkk; unfold f48_r5; simp only [SX, Nat.reduceEqDiff, ↓reduceIte, Nat.reduceSub, Nat.reduceAdd, Nat.reduceLT, Nat.reduceLeDiff, I.quiet, false_implies, implies_true, -List.reduceReplicate, hlt, ld1_ef hlt o1l]; exact hkk) ?_)
    have hc0 := f52_ok (h := h.app bs) (B := h.next) (n := 40) (by rw [app_get0, hb0]; rfl) hrem hl hw.ro0 (by omega) (by omega)
    have b0 := nx_ge rem (n := 40) (by omega)
    have b1 := nx_lt rem (n := 40) (by omega)
    have hr1 := nx_suf (n := 40) hrem
    have hbl := getElem?_lt hb0
    rw [app_put0 hbl] at hc0
    generalize nx rem 40 = q1 at *
    obtain ⟨x0, rem1⟩ := q1
    simp only at hc0 b0 b1 hr1
    (refine EX.rg (by intro KK hkk; unfold f48_r6; simp only [SX, Nat.reduceEqDiff, ↓reduceIte, Nat.reduceSub, Nat.reduceAdd, Nat.reduceLT, Nat.reduceLeDiff, I.quiet, false_implies, implies_true, -List.reduceReplicate]; refine RO_callE (hc0) ?_; simp only [SX, Nat.reduceEqDiff, ↓reduceIte, Nat.reduceSub, Nat.reduceAdd, Nat.reduceLT, Nat.reduceLeDiff, I.quiet, false_implies, implies_true, -List.reduceReplicate]; exact hkk) ?_)
    (refine EX.rg (by intro KK hkk; unfold f48_r7; simp only [SX, Nat.reduceEqDiff, ↓reduceIte, Nat.reduceSub, Nat.reduceAdd, Nat.reduceLT, Nat.reduceLeDiff, I.quiet, false_implies, implies_true, -List.reduceReplicate]; exact hkk) ?_)
    have hb01 : (bs.set 0 (src l rem1))[0]? = some (src l rem1) := List.getElem?_set_self hbl
    have hov1 : OwnG 22 h.next (bs.set 0 (src l rem1)) v out := hov.keep fun k c hk => by
      rw [List.getElem?_set, if_neg (by rintro rfl; rw [hb0] at hk; cases hk)]; exact hk
    generalize bs.set 0 (src l rem1) = bs1 at *
    generalize hpd : rd ps t = p at *
    (refine EX.rg (by intro KK hkk; unfold f48_r8; simp only [SX, Nat.reduceEqDiff, ↓reduceIte, Nat.reduceSub, Nat.reduceAdd, Nat.reduceLT, Nat.reduceLeDiff, I.quiet, false_implies, implies_true, -List.reduceReplicate]; exact hkk) ?_)
    refine EX.cutR (F := fun T1 H1 => ∃ rem2 row vr bs2, T1 5 = .pointer (some ⟨h.next, 0, none⟩) ∧ T1 6 = v ∧ T1 10 = vr ∧ T1 13 = L ps ∧ T1 14 = .int .i64 ps.length ∧ T1 15 = .int .i64 (t : Nat) ∧ H1 = h.app bs2 ∧ rem2 <:+ l ∧ bs2[0]? = some (src l rem2) ∧ OwnG 22 h.next bs2 v out ∧ OwnG 3 h.next bs2 vr row ∧ rowB p row = true) ?_ ?_
    · (with_reducible repeat first|apply EX.seq|apply EX.blk)
      refine EX.loop (σ := Nat × Int × List Int × Value × List Int × List (Option Blk)) (fun s => upd (upd (upd (upd (upd (upd (upd (upd (upd TE 5 (.pointer (some ⟨h.next, 0, none⟩))) 6 v) 9 (.int .i64 s.2.1)) 10 s.2.2.2.1) 13 (L ps)) 14 (.int .i64 ps.length)) 15 (.int .i64 (t : Nat))) 22 (.int .i64 p.length)) 23 (.int .i64 (s.1 : Nat))) (fun s => h.app s.2.2.2.2.2)
        (fun s => s.1 ≤ p.length ∧ (0 ≤ s.2.1 ∧ s.2.1 ≤ 40 + 25 * (s.1 : Nat)) ∧ s.2.2.1 <:+ l ∧ s.2.2.2.2.2[0]? = some (src l s.2.2.1) ∧ OwnG 22 h.next s.2.2.2.2.2 v out ∧ OwnG 3 h.next s.2.2.2.2.2 s.2.2.2.1 s.2.2.2.2.1 ∧ s.2.2.2.2.1.length = s.1 ∧ ascB s.2.2.2.2.1 = true ∧ ∀ y ∈ s.2.2.2.2.1, y ≤ s.2.1) (fun s => p.length - s.1) (0, x0, rem1, .slice none 0 0, [], bs1) ⟨Nat.zero_le _, ⟨b0, by simp only; omega⟩, hr1, hb01, hov1, .inl ⟨rfl, rfl⟩, rfl, rfl, by simp⟩ (Less.wk (by (repeat refine Less.upd ?_ (by rfl)); exact Less.nil)) ?_
      rintro ⟨k, x, rm, vr, row, bs3⟩ ⟨hk, ⟨hx0, hx1⟩, hrm, c0, c1, c2, c3, c4, c5⟩
      simp only at hk hx0 hx1 hrm c0 c1 c2 c3 c4 c5
      (refine EX.rg (by intro KK hkk; unfold f48_r9; simp only [SX, Nat.reduceEqDiff, ↓reduceIte, Nat.reduceSub, Nat.reduceAdd, Nat.reduceLT, Nat.reduceLeDiff, I.quiet, false_implies, implies_true, -List.reduceReplicate, lt_nat]; exact hkk) ?_)
      (with_reducible repeat first|apply EX.seq|apply EX.blk)
      refine EX.dec rfl (fun hlk => ?_) (fun hlk => ?_)
      · (refine EX.skip ?_; (with_reducible repeat first|apply nA|apply nB|apply nC|apply nD|apply nE|apply nF|apply nG (by decide)|apply nH|apply nI|apply nJ))
        obtain ⟨bs4, ap, ow, keep⟩ := c2.push (x := x) (e := 1) (bytes := 8) rfl hw (by omega) (by omega)
        rw [cells_int] at ap
        obtain ⟨r0, hr0⟩ : ∃ r0, src l rm = some r0 := ⟨_, rfl⟩
        have k0 : bs4[0]? = some (src l rm) := by
          rw [hr0] at c0 ⊢
          exact keep 0 _ c0 (by intro c e; rw [src] at hr0; cases hr0; cases e)
        have c1' : OwnG 22 h.next bs4 v out := c1.keep fun i c hi => keep _ _ hi (by intro c e; cases e)
        generalize (Value.slice (some ⟨h.next + (bs3.length + 1), 0, none⟩) (row.length + 1) (row.length + 1)) = vr2 at *
        (refine EX.rg (by intro KK hkk; unfold f48_r10; simp only [SX, Nat.reduceEqDiff, ↓reduceIte, Nat.reduceSub, Nat.reduceAdd, Nat.reduceLT, Nat.reduceLeDiff, I.quiet, false_implies, implies_true, -List.reduceReplicate, ap]; exact hkk) ?_)
        have hc1 := f52_ok (h := h.app bs4) (B := h.next) (n := 25) (by rw [app_get0, k0]; rfl) hrm hl hw.ro0 (by omega) (by omega)
        have d0 := nx_ge rm (n := 25) (by omega)
        have d1 := nx_lt rm (n := 25) (by omega)
        have hr2 := nx_suf (n := 25) hrm
        have hbl4 := getElem?_lt k0
        rw [app_put0 hbl4] at hc1
        generalize nx rm 25 = q2 at *
        obtain ⟨y0, rem3⟩ := q2
        simp only at hc1 d0 d1 hr2
        have hwx : IntKind.wrap .i64 (x + y0) = x + y0 := wrap_id (by omega) (by omega)
        (refine EX.rg (by intro KK hkk; unfold f48_r11; simp only [SX, Nat.reduceEqDiff, ↓reduceIte, Nat.reduceSub, Nat.reduceAdd, Nat.reduceLT, Nat.reduceLeDiff, I.quiet, false_implies, implies_true, -List.reduceReplicate, hwx]; refine RO_callE (hc1) ?_; simp only [SX, Nat.reduceEqDiff, ↓reduceIte, Nat.reduceSub, Nat.reduceAdd, Nat.reduceLT, Nat.reduceLeDiff, I.quiet, false_implies, implies_true, -List.reduceReplicate, hwx]; exact hkk) ?_)
        (refine EX.rg (by intro KK hkk; unfold f48_r12; simp only [SX, Nat.reduceEqDiff, ↓reduceIte, Nat.reduceSub, Nat.reduceAdd, Nat.reduceLT, Nat.reduceLeDiff, I.quiet, false_implies, implies_true, -List.reduceReplicate, wrap_nat (show k < 4611686018427387904 by omega)]; exact hkk) ?_)
        refine ⟨(k + 1, x + y0, rem3, vr2, row ++ [x], bs4.set 0 (src l rem3)), ⟨hlk, ⟨by show 0 ≤ x + y0; omega, by show x + y0 ≤ 40 + 25 * ((k + 1 : Nat) : Int); omega⟩, hr2, List.getElem?_set_self hbl4, ?_, ?_, by simp [c3], ascB_snoc c4 c5, ?_⟩, by show p.length - (k + 1) < p.length - k; omega, Less.wk (by (repeat refine Less.upd ?_ (by rfl)); exact Less.nil)⟩
        · exact c1'.keep fun i c hi => by rw [List.getElem?_set, if_neg (by rintro rfl; rw [k0] at hi; cases hi)]; exact hi
        · exact ow.keep fun i c hi => by rw [List.getElem?_set, if_neg (by rintro rfl; rw [k0] at hi; cases hi)]; exact hi
        · intro y hy
          show y ≤ x + y0
          rcases List.mem_append.1 hy with hy | hy
          · have := c5 y hy; omega
          · rw [List.mem_singleton] at hy; omega
      · (refine EX.exit ?_; (with_reducible repeat first|apply nA|apply nB|apply nC|apply nD|apply nE|apply nF|apply nG (by decide)|apply nH|apply nI|apply nJ))
        obtain rfl : k = p.length := by omega
        exact ⟨rm, row, vr, bs3, rfl, rfl, rfl, rfl, rfl, rfl, rfl, hrm, c0, c1, c2, by simp [rowB, c3, c4]⟩
    · rintro T1 H1 ⟨rem2, row, vr, bs2, t5, t6, t10, t13, t14, t15, rfl, hr2, c0, c1, c2, c3⟩
      have hrl : row.length = p.length := by simp only [rowB, Bool.and_eq_true, decide_eq_true_eq] at c3; exact c3.1
      obtain ⟨bs5, l5, k5, wk⟩ := c2.frzT (r := 10) (T := T1) (T0 := upd (upd (upd (upd (upd TE 5 (.pointer (some ⟨h.next, 0, none⟩))) 6 v) 13 (L ps)) 14 (.int .i64 ps.length)) 15 (.int .i64 (t : Nat))) hw (by omega) t10 (fun i hi => by
        unfold Go.Proofs.Ythofdojknjhpgaa.upd
        repeat' split
        all_goals first | (rename_i e; subst e; first | exact .inr t15.symm | exact .inr t14.symm | exact .inr t13.symm | exact .inr t6.symm | exact .inr t5.symm) | exact .inl rfl)
      have e0 : bs5[0]? = some (src l rem2) := by
        obtain ⟨r0, hr0⟩ : ∃ r0, src l rem2 = some r0 := ⟨_, rfl⟩
        rw [hr0] at c0 ⊢
        refine k5 0 _ c0 fun x y e => ?_
        obtain ⟨i, g1, g2⟩ := c2.lt e
        obtain rfl : i = 0 := by omega
        rw [c0] at g2; rw [src] at hr0; cases hr0; cases g2
      have e1 : OwnG 22 h.next bs5 v out := c1.keep fun i c hi => k5 i _ hi fun x y e => by
        obtain ⟨j, g1, g2⟩ := c2.lt e
        obtain rfl : j = i := by omega
        rw [hi] at g2; cases g2
      refine EX.wk ?_ wk
      obtain ⟨bs6, ap, ow, keep⟩ := e1.push (x := row) (e := 1) (bytes := 24) rfl hw (by omega) (by omega)
      rw [cells_list] at ap
      have f0 : bs6[0]? = some (src l rem2) := by
        obtain ⟨r0, hr0⟩ : ∃ r0, src l rem2 = some r0 := ⟨_, rfl⟩
        rw [hr0] at e0 ⊢
        exact keep 0 _ e0 (by intro c e; rw [src] at hr0; cases hr0; cases e)
      (with_reducible repeat first|apply nA|apply nB|apply nC|apply nD|apply nE|apply nF|apply nG (by decide)|apply nH|apply nI|apply nJ)
      (refine EX.rg (by intro KK hkk; unfold f48_r13; simp only [SX, Nat.reduceEqDiff, ↓reduceIte, Nat.reduceSub, Nat.reduceAdd, Nat.reduceLT, Nat.reduceLeDiff, I.quiet, false_implies, implies_true, -List.reduceReplicate, fill1_set, ap]; exact hkk) ?_)
      (refine EX.rg (by intro KK hkk; unfold f48_r14; simp only [SX, Nat.reduceEqDiff, ↓reduceIte, Nat.reduceSub, Nat.reduceAdd, Nat.reduceLT, Nat.reduceLeDiff, I.quiet, false_implies, implies_true, -List.reduceReplicate, wrap_nat (show t < 4611686018427387904 by omega)]; exact hkk) ?_)
      refine ⟨(t + 1, rem2, _, out ++ [row], bs6), ⟨hlt, hr2, f0, ow, by simp [hol], fun i hi => ?_⟩, by show ps.length - (t + 1) < ps.length - t; omega, Less.wk (by (repeat refine Less.upd ?_ (by rfl)); exact Less.nil)⟩
      rcases Nat.lt_or_ge i out.length with h1 | h1
      · show rowB (rd ps i) (rd (out ++ [row]) i) = true
        rw [rd_append_l h1]; exact hent i h1
      · have : i = t := by simp at hi; omega
        subst this
        show rowB (rd ps i) (rd (out ++ [row]) i) = true
        rw [rd_append_r h1, show i - out.length = 0 by omega, hpd]; exact c3
  · (refine EX.exit ?_; (with_reducible repeat first|apply nA|apply nB|apply nC|apply nD|apply nE|apply nF|apply nG (by decide)|apply nH|apply nI|apply nJ))
    obtain rfl : t = ps.length := by omega
    (refine EX.rg (by intro KK hkk; unfold f48_r15; simp only [SX, Nat.reduceEqDiff, ↓reduceIte, Nat.reduceSub, Nat.reduceAdd, Nat.reduceLT, Nat.reduceLeDiff, I.quiet, false_implies, implies_true, -List.reduceReplicate]; exact hkk) ?_)
    (with_reducible repeat first|apply EX.seq|apply EX.blk)
    refine EX.wk ?_ (hov.retR (r := 4) hw (by omega) rfl)
    ((with_reducible repeat first|apply EX.seq|apply EX.blk); refine EX.ret ?_; (with_reducible repeat first|apply nA|apply nB|apply nC|apply nD|apply nE|apply nF|apply nG (by decide)|apply nH|apply nI|apply nJ); refine ⟨_, rfl, ?_⟩; simp only [packV, upd, Nat.reduceEqDiff, reduceIte, if_true, if_false, Nat.one_ne_zero, Nat.zero_ne_one])
    refine ⟨out, rfl, trivial, ?_⟩
    unfold enterB
    rw [decide_eq_true hol, Bool.true_and, List.all_eq_true]
    exact fun i hi => hent i (by have := List.mem_range.1 hi; omega)
end
end Go.Proofs.Ythofdojknjhpgaa
set_option linter.unusedVariables false
set_option linter.unusedSimpArgs false
namespace Go.Proofs.Ythofdojknjhpgaa
open Go
section
variable {h : AH} {bs : List (Option Blk)}
def sortM (ps : List (List Stg)) (enter : List (List Int)) : List Ordr × Int := if enterB ps enter = true then (allTo (sortL ps enter) 144, 0) else ([], 1)
theorem srtV_cl {os : List Ordr} {e : Int} : Cl (.tuple #[L os, .int .i64 e]) := Cl.tuple (vs := [_, _]) (by
  intro v hv
  simp only [List.mem_cons, List.not_mem_nil, or_false] at hv
  rcases hv with rfl | rfl
  · exact L_cl
  · exact Cl.int)
theorem ascB_false {l : List Int} {k : Nat} (h : k + 1 < l.length) (h2 : rd l (k + 1) < rd l k) : ascB l = false := by
  unfold ascB
  exact List.all_eq_false.2 ⟨k, List.mem_range.2 (by omega), by simp; omega⟩
theorem ascB_true {l : List Int} (h : ∀ k, k + 1 < l.length → rd l k ≤ rd l (k + 1)) : ascB l = true := by
  unfold ascB
  exact List.all_eq_true.2 fun k hk => decide_eq_true (h k (by have := List.mem_range.1 hk; omega))
theorem enterB_row {ps : List (List Stg)} {enter : List (List Int)} (h : enterB ps enter = true) {t : Nat} (ht : t < ps.length) : (rd enter t).length = (rd ps t).length ∧ ascB (rd enter t) = true := by
  unfold enterB at h
  simp only [Bool.and_eq_true, List.all_eq_true, List.mem_range] at h
  have := h.2 t ht
  simp only [rowB, Bool.and_eq_true, decide_eq_true_eq] at this
  exact this
theorem enterB_len {ps : List (List Stg)} {enter : List (List Int)} (h : enterB ps enter = true) : enter.length = ps.length := by
  unfold enterB at h
  simp only [Bool.and_eq_true, decide_eq_true_eq] at h
  exact h.1
theorem f47_r23_ok {m n0 i14 : Nat} {ps : List (List Stg)} {enter : List (List Int)} {l : List (Int × Int)} {u : Int × Int} {v : Value} {T : Tm} {k : Nat} {Q : Exit → Tm → AH → Prop} (hen : enterB ps enter = true) (hu : UseOk ps u) (hl : ∀ x ∈ l, UseOk ps x) (hll : l.length ≤ 100000) (hov : OwnG 48 h.next bs v l) (b14 : bs[i14]? = some (some (.row 48 0 [.int .i64 u.1, .int .i64 u.2]))) (hk : k ≤ l.length)
    (t1 : T 1 = L enter) (t11 : T 11 = v) (t14 : T 14 = .pointer (some ⟨h.next + i14, 0, none⟩)) (t15 : T 15 = .int .i64 (k : Nat))
    (kk : ∀ T2 : Tm, (∀ j, j < 74 ∨ 104 < j → T2 j = T j) → T2 104 = .bool (match k with | 0 => false | k' + 1 => decide (enO enter u < enO enter (rd l k'))) → Q .normal T2 (h.app bs)) : EX Go.Proofs.Try.prog m n0 (.drw f47_r23) T (h.app bs) Q := by
  cases k with
  | zero =>
    refine EX.drwx (by
      intro KK hkk; unfold f47_r23
      simp only [SX, Nat.reduceEqDiff, ↓reduceIte, Nat.reduceSub, Nat.reduceAdd, Nat.reduceLT, Nat.reduceLeDiff, I.quiet, false_implies, implies_true, -List.reduceReplicate, t15, show decide ((((0 : Nat) : Int)) > 0) = false from rfl]
      exact hkk) ?_
    refine kk _ (fun j hj => ?_) rfl
    simp only [upd]
    repeat rw [if_neg (by omega)]
  | succ k' =>
    have hk' : k' < l.length := hk
    have hx := hl _ (rd_mem hk')
    obtain ⟨xt, xk, hxe, hxt, hxk⟩ := use_nat hx
    obtain ⟨ut, uk, hue, hut, huk⟩ := use_nat hu
    have hel := enterB_len hen
    have rx := (enterB_row hen hxt).1
    have ru := (enterB_row hen hut).1
    have e1 : enO enter (rd l k') = rd (rd enter xt) xk := by rw [hxe, enO, Int.toNat_natCast, Int.toNat_natCast]
    have e2 : enO enter u = rd (rd enter ut) uk := by rw [hue, enO, Int.toNat_natCast, Int.toNat_natCast]
    rcases hov with ⟨_, e⟩ | ⟨j, rfl, _, hj⟩
    · rw [e] at hk'; simp at hk'
    have hws := wrap_sub1 (show k' < 4611686018427387904 by omega)
    have f0 := F_ref0 hk'
    have f1 := F_ref1 hk'
    have xt1 : xt < enter.length := by omega
    have ut1 : ut < enter.length := by omega
    have xk1 : xk < (rd enter xt).length := by omega
    have uk1 : uk < (rd enter ut).length := by omega
    rw [hxe] at f0 f1
    simp only at f0 f1
    rw [hue] at b14
    simp only at b14
    refine EX.drwx (by
      intro KK hkk; unfold f47_r23
      simp only [SX, Nat.reduceEqDiff, ↓reduceIte, Nat.reduceSub, Nat.reduceAdd, Nat.reduceLT, Nat.reduceLeDiff, I.quiet, false_implies, implies_true, -List.reduceReplicate, t1, t11, t14, t15, show decide ((((k' + 1 : Nat) : Int)) > 0) = true from decide_eq_true (by omega), hws, ias1_own hk', hj, f0, f1, b14, xt1, ut1, ld1_ef xt1 o1l, ld1_ef ut1 o1l, xk1, uk1, ld1_ef xk1 o1i, ld1_ef uk1 o1i]
      exact hkk) ?_
    refine kk _ (fun j hj => ?_) ?_
    · simp only [upd]
      repeat rw [if_neg (by omega)]
    · simp only [upd, Nat.reduceEqDiff, reduceIte, e1, e2]
end
end Go.Proofs.Ythofdojknjhpgaa
set_option linter.unusedVariables false
set_option linter.unusedSimpArgs false
namespace Go.Proofs.Ythofdojknjhpgaa
open Go
section
variable {h : AH} {bs : List (Option Blk)}
theorem OwnG.lens {α : Type} [Enc α] {t : TypeId} {n : Nat} {v : Value} {xs : List α} (o : OwnG t n bs v xs) {H : AH} : lens1 v H = some (.int .i64 xs.length, H) := by
  rcases o with ⟨rfl, rfl⟩ | ⟨i, rfl, _⟩ <;> rfl
theorem allR_ok {ps : List (List Stg)} {r : Int} {T : Nat} (hT : T ≤ ps.length) : ∀ u ∈ allR ps r T, UseOk ps u := fun u hu => by
  obtain ⟨t, j, h1, h2, rfl, _⟩ := allR_mem T u hu
  exact ⟨by omega, by simp only [Int.toNat_natCast]; omega, by omega, by simpa using h2⟩
theorem sortT_mem {e : Int × Int → Int} {all : List (Int × Int)} {i : Nat} (hi : i ≤ all.length) : ∀ x ∈ sortT e all i, x ∈ all := fun x hx => List.mem_of_mem_take ((sortT_perm i hi).mem_iff.1 hx)
/-- The regions that put a use in its place. -/
theorem f47_ins_ok {m n0 i14 k : Nat} {l : List (Int × Int)} {u : Int × Int} {v v9 : Value} {os : List Ordr} {T : Tm} {Q : Exit → Tm → AH → Prop} (hw : Wf h) (hll : l.length ≤ 100000) (ho9 : OwnG 45 h.next bs v9 os) (hov : OwnG 48 h.next bs v l) (b14 : bs[i14]? = some (some (.row 48 0 [.int .i64 u.1, .int .i64 u.2]))) (hk : k ≤ l.length)
    (t11 : T 11 = v) (t14 : T 14 = .pointer (some ⟨h.next + i14, 0, none⟩)) (t15 : T 15 = .int .i64 (k : Nat))
    (kk : ∀ (T2 : Tm) (bs2 : List (Option Blk)) (v2 : Value), (∀ j, j < 11 ∨ (16 < j ∧ j < 107) ∨ 119 < j → T2 j = T j) → T2 11 = v2 → OwnG 45 h.next bs2 v9 os → OwnG 48 h.next bs2 v2 (l.take k ++ [u] ++ l.drop k) → Q .normal T2 (h.app bs2)) : EX Go.Proofs.Try.prog m n0 (.seq (.reg f47_r25) (.seq (.reg f47_r26) (.reg f47_r27))) T (h.app bs) Q := by
  obtain ⟨ut, hts, htl, htsrc⟩ := hov.take (e := 2) rfl hk
  obtain ⟨ud, hds, hdl⟩ := hov.drop (e := 2) rfl hk
  have hkl : (l.take k).length = k := by rw [List.length_take]; omega
  obtain ⟨v16, bs1, ap1, ow1, k1, w1⟩ := OwnG.appendL (t := 48) (v := .slice none 0 0) (xs := ([] : List (Int × Int))) (ys := l.take k) (e := 2) (bytes := 16) (u := ut) (bs := bs) rfl hw (.inl ⟨rfl, rfl⟩) (htsrc bs (fun i b hb _ => hb)) htl (by simp; omega) (by simp; omega)
  rw [List.nil_append] at ow1
  have keep1 : ∀ (i : Nat) (b : Blk), bs[i]? = some (some b) → bs1[i]? = some (some b) := fun i b hb => k1 i b hb fun x y e => by cases e
  obtain ⟨bs2, ap2, l2, b2, k2⟩ := ow1.push2 (x := u) (e := 2) (bytes := 16) rfl hw (by omega) (by omega)
  have hcr : Enc.cells u = [.int .i64 u.1, .int .i64 u.2] := rfl
  rw [hcr] at ap2
  have keep2 : ∀ (i : Nat) (b : Blk), bs[i]? = some (some b) → bs2[i]? = some (some b) := fun i b hb => k2 i b (keep1 i b hb) fun x y e => by
    have := getElem?_lt hb
    rcases w1 with ⟨_, e1, _⟩ | ⟨_, n, e1⟩
    · rw [e1] at e; cases e
    · rw [e1] at e
      injection e with e; injection e with e; injection e with e
      omega
  have hkl2 : (l.drop k).length ≤ 100000 := by rw [List.length_drop]; omega
  have ow2 : OwnG 48 h.next bs2 (.slice (some ⟨h.next + (bs1.length + 1), 0, none⟩) ((l.take k).length + 1) ((l.take k).length + 1)) (l.take k ++ [u]) := .inr ⟨bs1.length + 1, by simp, by simp, b2⟩
  obtain ⟨s1, s2⟩ := hds bs2 (fun i b hb _ => keep2 i b hb)
  obtain ⟨v11, bs3, ap3, ow3, k3, _⟩ := OwnG.appendL (ys := l.drop k) (e := 2) (bytes := 16) (u := ud) rfl hw ow2 s2 hdl (by simp; omega) (by simp; omega)
  have keep3 : ∀ (i : Nat) (b : Blk), bs[i]? = some (some b) → i < bs1.length + 1 → bs3[i]? = some (some b) := fun i b hb hi => k3 i b (keep2 i b hb) fun x y e => by
    injection e with e; injection e with e; injection e with e
    omega
  have hl1 : bs.length ≤ bs1.length := by
    rcases w1 with ⟨_, _, e1⟩ | ⟨_, n, e1⟩
    · rw [e1]; exact Nat.le_refl _
    · obtain ⟨i, g1, g2⟩ := ow1.lt e1
      have := getElem?_lt g2
      omega
  have ho9' : OwnG 45 h.next bs3 v9 os := ho9.keep fun i c hi => keep3 i _ hi (by have := getElem?_lt hi; omega)
  have d14 := keep1 _ _ b14
  refine EX.seq (EX.regx (by intro KK hkk; unfold f47_r25; simp only [SX, Nat.reduceEqDiff, ↓reduceIte, Nat.reduceSub, Nat.reduceAdd, Nat.reduceLT, Nat.reduceLeDiff, I.quiet, false_implies, implies_true, -List.reduceReplicate, t11, t15, hts (h.app bs) rfl, ap1]; exact hkk) ?_)
  (with_reducible repeat first|apply nA|apply nB|apply nC|apply nD|apply nE|apply nF|apply nG (by decide)|apply nH|apply nI|apply nJ)
  refine EX.seq (EX.regx (by intro KK hkk; unfold f47_r26; simp only [SX, Nat.reduceEqDiff, ↓reduceIte, Nat.reduceSub, Nat.reduceAdd, Nat.reduceLT, Nat.reduceLeDiff, I.quiet, false_implies, implies_true, -List.reduceReplicate, t14, d14, ldsAt_row, Nat.le_refl, fill1_agg, ap2]; exact hkk) ?_)
  (with_reducible repeat first|apply nA|apply nB|apply nC|apply nD|apply nE|apply nF|apply nG (by decide)|apply nH|apply nI|apply nJ)
  refine EX.regx (by intro KK hkk; unfold f47_r27; simp only [SX, Nat.reduceEqDiff, ↓reduceIte, Nat.reduceSub, Nat.reduceAdd, Nat.reduceLT, Nat.reduceLeDiff, I.quiet, false_implies, implies_true, -List.reduceReplicate, t11, t15, s1, ap3]; exact hkk) ?_
  refine kk _ _ _ (fun j hj => ?_) rfl ho9' ow3
  simp only [upd]
  repeat rw [if_neg (by omega)]
end
end Go.Proofs.Ythofdojknjhpgaa
