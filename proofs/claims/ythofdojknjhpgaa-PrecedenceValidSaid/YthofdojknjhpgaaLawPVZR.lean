/- Own texts, merged: a part of the proof that is told in the last text of this claim. -/
import Derived.Test.YthofdojknjhpgaaLawPVZQ
set_option linter.unnecessarySimpa false
set_option linter.unusedSectionVars false
set_option linter.defProp false
set_option linter.unusedVariables false
set_option linter.unusedSimpArgs false
namespace Go.Proofs.Ythofdojknjhpgaa
open Go
section
variable {h : AH}
set_option maxHeartbeats 4000000 in
/-- 'changed'. -/
theorem f24_ok {ps : List (List Stg)} {how at' v : Int} (hm : MadeP ps) : ∃ qs : List (List Stg), AC Go.Proofs.Try.prog 24 [L ps, .int .i64 how, .int .i64 at', .int .i64 v] h (L qs) h := by
  by_cases hw : Wf h
  case neg => exact ⟨[], AC.wf fun hw' => absurd hw' hw⟩
  suffices k : EC Go.Proofs.Try.prog 24 [L ps, .int .i64 how, .int .i64 at', .int .i64 v] h fun r h' => ∃ qs : List (List Stg), r = L qs ∧ h' = h by
    obtain ⟨_, _, g, qs, rfl, rfl⟩ := k
    exact ⟨qs, g⟩
  have hpl := hm.1
  have hpl2 := hm.2.1
  have hpb : ∀ r, r < ps.length → 1 ≤ (rd ps r).length ∧ (rd ps r).length ≤ 4 := fun r hr => by
    have := hm.2.2 _ (rd_mem hr)
    exact ⟨this.1, this.2.1⟩
  refine EC.intro f24_is ?_
  unfold f24_c
  ((with_reducible repeat first | refine EX.seq ?_ | refine EX.blk ?_); refine EX.regx (by intro KK hkk; unfold f24_r0; simp only [SX, Nat.reduceEqDiff, ↓reduceIte, Nat.reduceSub, Nat.reduceAdd, Nat.reduceLT, Nat.reduceLeDiff, I.quiet, false_implies, implies_true, -List.reduceReplicate]; exact hkk) ?_; (with_reducible repeat first | refine nA ?_ | refine nB ?_ | refine nC ?_ | refine nD ?_ | refine nE ?_ | refine nF ?_ | refine nG (by decide) ?_ | refine nH ?_ | refine nI ?_ | refine nJ ?_))
  ((with_reducible repeat first | refine EX.seq ?_ | refine EX.blk ?_); refine EX.regx (by intro KK hkk; unfold f24_r1; simp only [SX, Nat.reduceEqDiff, ↓reduceIte, Nat.reduceSub, Nat.reduceAdd, Nat.reduceLT, Nat.reduceLeDiff, I.quiet, false_implies, implies_true, -List.reduceReplicate]; exact hkk) ?_; (with_reducible repeat first | refine nA ?_ | refine nB ?_ | refine nC ?_ | refine nD ?_ | refine nE ?_ | refine nF ?_ | refine nG (by decide) ?_ | refine nH ?_ | refine nI ?_ | refine nJ ?_))
  ((with_reducible repeat first | refine EX.seq ?_ | refine EX.blk ?_); refine EX.regx (by intro KK hkk; unfold f24_r2; simp only [SX, Nat.reduceEqDiff, ↓reduceIte, Nat.reduceSub, Nat.reduceAdd, Nat.reduceLT, Nat.reduceLeDiff, I.quiet, false_implies, implies_true, -List.reduceReplicate]; exact hkk) ?_; (with_reducible repeat first | refine nA ?_ | refine nB ?_ | refine nC ?_ | refine nD ?_ | refine nE ?_ | refine nF ?_ | refine nG (by decide) ?_ | refine nH ?_ | refine nI ?_ | refine nJ ?_))
  refine EX.nxtR (F := fun T1 H1 => ∃ bs a cells, T1 1 = .int .i64 how ∧ T1 2 = .int .i64 at' ∧ T1 3 = .int .i64 v ∧ T1 9 = .slice (some ⟨h.next + a, 0, none⟩) ps.length ps.length ∧ H1 = h.app bs ∧ CpOk h bs a cells ps) ?_ ?_
  · (with_reducible repeat first | refine EX.seq ?_ | refine EX.blk ?_)
    refine EX.loop (σ := Nat × Value × List Value × (Nat → List Stg) × List (Option Blk)) (fun s => upd (upd (upd (upd (upd (upd (upd TE 1 (.int .i64 how)) 2 (.int .i64 at')) 3 (.int .i64 v)) 9 s.2.1) 15 (L ps)) 16 (.int .i64 ps.length)) 17 (.int .i64 (s.1 : Nat))) (fun s => h.app s.2.2.2.2)
      (fun s => s.1 ≤ ps.length ∧ s.2.2.1.length = s.1 ∧ OwnO 65 36 h.next s.2.2.2.2 s.2.1 s.2.2.1 s.2.2.2.1 ∧ ∀ r, r < s.1 → s.2.2.2.1 r = rd ps r) (fun s => ps.length - s.1) (0, .slice none 0 0, [], fun _ => [], []) ⟨Nat.zero_le _, rfl, ⟨.inl ⟨rfl, rfl⟩, fun r hr => by simp at hr, fun r r' B x y x' y' h1 => by simp at h1⟩, fun r hr => by omega⟩ (by rw [app_nil hw]; exact Less.wk (by (repeat refine Less.upd ?_ (by rfl)); exact Less.nil)) ?_
    rintro ⟨i, vo, cells, ls, bs⟩ ⟨hi, hcl, ho, hls⟩
    simp only at hi hcl ho hls
    ((with_reducible repeat first | refine EX.seq ?_ | refine EX.blk ?_); refine EX.regx (by intro KK hkk; unfold f24_r3; simp only [SX, Nat.reduceEqDiff, ↓reduceIte, Nat.reduceSub, Nat.reduceAdd, Nat.reduceLT, Nat.reduceLeDiff, I.quiet, false_implies, implies_true, -List.reduceReplicate, lt_nat]; exact hkk) ?_; (with_reducible repeat first | refine nA ?_ | refine nB ?_ | refine nC ?_ | refine nD ?_ | refine nE ?_ | refine nF ?_ | refine nG (by decide) ?_ | refine nH ?_ | refine nI ?_ | refine nJ ?_))
    (with_reducible repeat first | refine EX.seq ?_ | refine EX.blk ?_)
    refine EX.dec rfl (fun hlt => ?_) (fun hlt => ?_)
    · (refine EX.skip ?_; (with_reducible repeat first | refine nA ?_ | refine nB ?_ | refine nC ?_ | refine nD ?_ | refine nE ?_ | refine nF ?_ | refine nG (by decide) ?_ | refine nH ?_ | refine nI ?_ | refine nJ ?_))
      have hb := hpb i hlt
      ((with_reducible repeat first | refine EX.seq ?_ | refine EX.blk ?_); refine EX.regx (by intro KK hkk; unfold f24_r4; simp only [SX, Nat.reduceEqDiff, ↓reduceIte, Nat.reduceSub, Nat.reduceAdd, Nat.reduceLT, Nat.reduceLeDiff, I.quiet, false_implies, implies_true, -List.reduceReplicate, hlt, ld1_ef hlt o1l]; exact hkk) ?_; (with_reducible repeat first | refine nA ?_ | refine nB ?_ | refine nC ?_ | refine nD ?_ | refine nE ?_ | refine nF ?_ | refine nG (by decide) ?_ | refine nH ?_ | refine nI ?_ | refine nJ ?_))
      have hx : rd ps i ≠ [] := by intro e; rw [e] at hb; simp at hb
      have cp := fun bs : List (Option Blk) => app1_copy (h := h) (bs := bs) (e := 4) (bytes := 48) (t := 65) (xs := rd ps i) rfl hx (by omega) (by omega)
      obtain ⟨bs2, vo2, ap, ho2⟩ := ho.push (xs := rd ps i) (bytes := 24) hw (by decide) hx (by omega) (by omega)
      rw [w4s] at ap
      have hl1 : (bs ++ [some (Blk.row 65 4 (F (rd ps i)))]).length = bs.length + 1 := by simp
      have hone1 : one (.slice (some ⟨h.next + bs.length, 0, none⟩) (rd ps i).length (rd ps i).length) = true := rfl
      ((with_reducible repeat first | refine EX.seq ?_ | refine EX.blk ?_); refine EX.regx (by intro KK hkk; unfold f24_r5; simp only [SX, Nat.reduceEqDiff, ↓reduceIte, Nat.reduceSub, Nat.reduceAdd, Nat.reduceLT, Nat.reduceLeDiff, I.quiet, false_implies, implies_true, -List.reduceReplicate, cp, fill1_set, hone1, hl1, ap]; exact hkk) ?_; (with_reducible repeat first | refine nA ?_ | refine nB ?_ | refine nC ?_ | refine nD ?_ | refine nE ?_ | refine nF ?_ | refine nG (by decide) ?_ | refine nH ?_ | refine nI ?_ | refine nJ ?_))
      ((with_reducible repeat first | refine EX.seq ?_ | refine EX.blk ?_); refine EX.regx (by intro KK hkk; unfold f24_r6; simp only [SX, Nat.reduceEqDiff, ↓reduceIte, Nat.reduceSub, Nat.reduceAdd, Nat.reduceLT, Nat.reduceLeDiff, I.quiet, false_implies, implies_true, -List.reduceReplicate, wrap_nat (show i < 4611686018427387904 by omega)]; exact hkk) ?_; (with_reducible repeat first | refine nA ?_ | refine nB ?_ | refine nC ?_ | refine nD ?_ | refine nE ?_ | refine nF ?_ | refine nG (by decide) ?_ | refine nH ?_ | refine nI ?_ | refine nJ ?_))
      refine ⟨(i + 1, vo2, _, _, bs2), ⟨hlt, ?_, ho2, fun r hr => ?_⟩, by show ps.length - (i + 1) < ps.length - i; omega, Less.wk (by (repeat refine Less.upd ?_ (by rfl)); exact Less.nil)⟩
      · simp [hcl]
      · have hr' : r < i + 1 := hr
        show (if r = cells.length then rd ps i else ls r) = rd ps r
        split
        · rename_i e; rw [e, hcl]
        · exact hls r (by omega)
    · (refine EX.exit ?_; (with_reducible repeat first | refine nA ?_ | refine nB ?_ | refine nC ?_ | refine nD ?_ | refine nE ?_ | refine nF ?_ | refine nG (by decide) ?_ | refine nH ?_ | refine nI ?_ | refine nJ ?_))
      obtain rfl : i = ps.length := by omega
      rcases ho.out with ⟨_, rfl⟩ | ⟨a, rfl, _, ha⟩
      · simp at hcl; omega
      · refine ⟨bs, a, cells, rfl, rfl, rfl, by rw [← hcl]; rfl, rfl, hcl, ha, fun r hr => ?_, ho.inj⟩
        obtain ⟨v', h1, h2⟩ := ho.own r hr
        rw [hls r (by omega)] at h2
        exact ⟨v', h1, h2⟩
  · rintro T1 H1 ⟨bs, a, cells, t1, t2, t3, t9, rfl, hcp⟩
    obtain ⟨t, hpt, htl⟩ := pk_nat at' (n := ps.length) (by omega)
    obtain ⟨pb1, pb2⟩ := hpb t htl
    obtain ⟨k, hpk, hkl⟩ := pk_nat (IntKind.wrap .i64 (at'.tdiv 8)) (n := (rd ps t).length) (by omega)
    obtain ⟨mm, hpm, hml⟩ := pk_nat how (n := 7) (by omega)
    obtain ⟨vt, hvt, ovt⟩ := hcp.own t (by rw [hcp.len]; exact htl)
    have hpne : rd ps t ≠ [] := by intro e; rw [e] at pb1; simp at pb1
    rcases ovt with ⟨_, e⟩ | ⟨i1, rfl, _, hi1⟩
    · exact absurd e hpne
    rw [w4s] at hi1
    have hil := getElem?_lt hi1
    have hal := getElem?_lt hcp.arr
    have c18a : ∀ H : AH, AC Go.Proofs.Try.prog 18 [.int .i64 at', .int .i64 (ps.length : Nat)] H (.int .i64 (t : Nat)) H := fun H => by
      have := f18_ok (h := H) (v := at') (n := (ps.length : Nat)) (by omega) (by omega)
      rw [hpt] at this; exact this
    have c18b : ∀ H : AH, AC Go.Proofs.Try.prog 18 [.int .i64 (IntKind.wrap .i64 (at'.tdiv 8)), .int .i64 ((rd ps t).length : Nat)] H (.int .i64 (k : Nat)) H := fun H => by
      have := f18_ok (h := H) (v := IntKind.wrap .i64 (at'.tdiv 8)) (n := ((rd ps t).length : Nat)) (by omega) (by omega)
      rw [hpk] at this; exact this
    have c18c : ∀ H : AH, AC Go.Proofs.Try.prog 18 [.int .i64 how, .int .i64 7] H (.int .i64 (mm : Nat)) H := fun H => by
      have := f18_ok (h := H) (v := how) (n := 7) (by omega) (by omega)
      rw [show (IntKind.wrap .u64 how) % 7 = (mm : Int) from hpm] at this; exact this
    have c18v : ∀ (n : Int) (H : AH), 0 < n → n < 4294967296 → AC Go.Proofs.Try.prog 18 [.int .i64 v, .int .i64 n] H (.int .i64 ((IntKind.wrap .u64 v) % n)) H := fun n H h1 h2 => f18_ok h1 h2
    have hq8 : ∀ eqs : List (Nat × Nat), vbin .quo 0 eqs (.int .i64 at') (.int .i64 8) = some (.int .i64 (IntKind.wrap .i64 (at'.tdiv 8))) := fun eqs => vbin_quo (by decide)
    (with_reducible repeat first | refine nA ?_ | refine nB ?_ | refine nC ?_ | refine nD ?_ | refine nE ?_ | refine nF ?_ | refine nG (by decide) ?_ | refine nH ?_ | refine nI ?_ | refine nJ ?_)
    ((with_reducible repeat first | refine EX.seq ?_ | refine EX.blk ?_); refine EX.regx (by intro KK hkk; unfold f24_r7; simp only [SX, Nat.reduceEqDiff, ↓reduceIte, Nat.reduceSub, Nat.reduceAdd, Nat.reduceLT, Nat.reduceLeDiff, I.quiet, false_implies, implies_true, -List.reduceReplicate, t2, t9]; refine RO_callvS (c18a _) ?_; simp only [SX, Nat.reduceEqDiff, ↓reduceIte, Nat.reduceSub, Nat.reduceAdd, Nat.reduceLT, Nat.reduceLeDiff, I.quiet, false_implies, implies_true, -List.reduceReplicate, t2, t9]; exact hkk) ?_; (with_reducible repeat first | refine nA ?_ | refine nB ?_ | refine nC ?_ | refine nD ?_ | refine nE ?_ | refine nF ?_ | refine nG (by decide) ?_ | refine nH ?_ | refine nI ?_ | refine nJ ?_))
    (with_reducible repeat first | refine EX.seq ?_ | refine EX.blk ?_)
    refine EX.regx (by intro KK hkk; unfold f24_r8; simp only [SX, Nat.reduceEqDiff, ↓reduceIte, Nat.reduceSub, Nat.reduceAdd, Nat.reduceLT, Nat.reduceLeDiff, I.quiet, false_implies, implies_true, -List.reduceReplicate, t2, t9, hq8, ias1_own htl, hcp.arr, hvt]; refine RO_callvS (c18b _) ?_; simp only [SX, Nat.reduceEqDiff, ↓reduceIte, Nat.reduceSub, Nat.reduceAdd, Nat.reduceLT, Nat.reduceLeDiff, I.quiet, false_implies, implies_true, -List.reduceReplicate]; exact hkk) ?_
    (with_reducible repeat first | refine nA ?_ | refine nB ?_ | refine nC ?_ | refine nD ?_ | refine nE ?_ | refine nF ?_ | refine nG (by decide) ?_ | refine nH ?_ | refine nI ?_ | refine nJ ?_)
    ((with_reducible repeat first | refine EX.seq ?_ | refine EX.blk ?_); refine EX.regx (by intro KK hkk; unfold f24_r9; simp only [SX, Nat.reduceEqDiff, ↓reduceIte, Nat.reduceSub, Nat.reduceAdd, Nat.reduceLT, Nat.reduceLeDiff, I.quiet, false_implies, implies_true, -List.reduceReplicate, t9, ias1_own htl, hcp.arr, hvt, ias1_own hkl]; exact hkk) ?_; (with_reducible repeat first | refine nA ?_ | refine nB ?_ | refine nC ?_ | refine nD ?_ | refine nE ?_ | refine nF ?_ | refine nG (by decide) ?_ | refine nH ?_ | refine nI ?_ | refine nJ ?_))
    ((with_reducible repeat first | refine EX.seq ?_ | refine EX.blk ?_); refine EX.regx (by intro KK hkk; unfold f24_r10; simp only [SX, Nat.reduceEqDiff, ↓reduceIte, Nat.reduceSub, Nat.reduceAdd, Nat.reduceLT, Nat.reduceLeDiff, I.quiet, false_implies, implies_true, -List.reduceReplicate, t1]; refine RO_callvS (c18c _) ?_; simp only [SX, Nat.reduceEqDiff, ↓reduceIte, Nat.reduceSub, Nat.reduceAdd, Nat.reduceLT, Nat.reduceLeDiff, I.quiet, false_implies, implies_true, -List.reduceReplicate, t1]; exact hkk) ?_; (with_reducible repeat first | refine nA ?_ | refine nB ?_ | refine nC ?_ | refine nD ?_ | refine nE ?_ | refine nF ?_ | refine nG (by decide) ?_ | refine nH ?_ | refine nI ?_ | refine nJ ?_))
    refine EX.nxtR (F := fun T2 H2 => ∃ T3 bs2 qs, T3 9 = .slice (some ⟨h.next + a, 0, none⟩) ps.length ps.length ∧ Wk h.next T3 (h.app bs2) T2 H2 ∧ ChOk h bs2 (.slice (some ⟨h.next + a, 0, none⟩) ps.length ps.length) qs ∧ qs.length = ps.length ∧ ∀ q ∈ qs, q.length ≤ 1000) ?_ ?_
    · have hkp := hkl
      have hro : ∀ bs' : List (Option Blk), (h.app bs').ro ≤ h.next + i1 := fun _ => hw.roi
      have hFl : (F (rd ps t)).length = (rd ps t).length * 4 := F_len
      have hb4 : ∀ q : List Stg, q.length ≤ 4 → ∀ x ∈ ps.set t q, x.length ≤ 1000 := fun q hq x hx => by
        rcases List.mem_or_eq_of_mem_set hx with h1 | rfl
        · have := (hm.2.2 x h1).2.1; omega
        · omega
      have hset : ∀ g : Stg, ChOk h (bs.set i1 (some (.row 65 4 (F ((rd ps t).set k g))))) (.slice (some ⟨h.next + a, 0, none⟩) ps.length ps.length) (ps.set t ((rd ps t).set k g)) := fun g => hcp.set htl hvt (by simp) hpne hi1
      have st : ∀ (o : Nat) (x : Value) (g : Stg), o < 4 → one x = true → (Enc.cells (rd (rd ps t) k)).set o x = Enc.cells g → stAt 1 (some (.row 65 4 (F (rd ps t)))) (h.next + i1) (k * 4 + o) x (h.app bs) = some (.tuple #[], h.app (bs.set i1 (some (.row 65 4 (F ((rd ps t).set k g)))))) := fun o x g h1 h2 h3 => by
        rw [stAt_stg (hro _) hkp h1 h2 h3, app_put hil]
      have st0 : ∀ x : Int, stAt 1 (some (.row 65 4 (F (rd ps t)))) (h.next + i1) (k * 4) (.int .i64 x) (h.app bs) = some (.tuple #[], h.app (bs.set i1 (some (.row 65 4 (F ((rd ps t).set k { rd (rd ps t) k with sec := x })))))) := fun x => st 0 (.int .i64 x) _ (by decide) rfl rfl
      have st2 : ∀ x : Int, stAt 1 (some (.row 65 4 (F (rd ps t)))) (h.next + i1) (k * 4 + 2) (.int .i64 x) (h.app bs) = some (.tuple #[], h.app (bs.set i1 (some (.row 65 4 (F ((rd ps t).set k { rd (rd ps t) k with min := x })))))) := fun x => st 2 (.int .i64 x) _ (by decide) rfl rfl
      have st3 : ∀ x : Int, stAt 1 (some (.row 65 4 (F (rd ps t)))) (h.next + i1) (k * 4 + 3) (.int .i64 x) (h.app bs) = some (.tuple #[], h.app (bs.set i1 (some (.row 65 4 (F ((rd ps t).set k { rd (rd ps t) k with not := x })))))) := fun x => st 3 (.int .i64 x) _ (by decide) rfl rfl
      ((with_reducible repeat first | refine EX.seq ?_ | refine EX.blk ?_); refine EX.regx (by intro KK hkk; unfold f24_r11; simp only [SX, Nat.reduceEqDiff, ↓reduceIte, Nat.reduceSub, Nat.reduceAdd, Nat.reduceLT, Nat.reduceLeDiff, I.quiet, false_implies, implies_true, -List.reduceReplicate]; exact hkk) ?_; (with_reducible repeat first | refine nA ?_ | refine nB ?_ | refine nC ?_ | refine nD ?_ | refine nE ?_ | refine nF ?_ | refine nG (by decide) ?_ | refine nH ?_ | refine nI ?_ | refine nJ ?_))
      refine EX.dec rfl (fun hd => ?_) (fun hd => ?_)
      · ((with_reducible repeat first | refine EX.seq ?_ | refine EX.blk ?_); refine EX.regx (by intro KK hkk; unfold f24_r12; simp only [SX, Nat.reduceEqDiff, ↓reduceIte, Nat.reduceSub, Nat.reduceAdd, Nat.reduceLT, Nat.reduceLeDiff, I.quiet, false_implies, implies_true, -List.reduceReplicate, t3, hi1, st0]; refine RO_callvS (c18v 9 _ (by decide) (by decide)) ?_; simp only [SX, Nat.reduceEqDiff, ↓reduceIte, Nat.reduceSub, Nat.reduceAdd, Nat.reduceLT, Nat.reduceLeDiff, I.quiet, false_implies, implies_true, -List.reduceReplicate, t3, hi1, st0]; exact hkk) ?_; (with_reducible repeat first | refine nA ?_ | refine nB ?_ | refine nC ?_ | refine nD ?_ | refine nE ?_ | refine nF ?_ | refine nG (by decide) ?_ | refine nH ?_ | refine nI ?_ | refine nJ ?_))
        exact ⟨_, _, _, by simp [upd, t9], Wk.refl, hset _, by simp, hb4 _ (by simp; omega)⟩
      ((with_reducible repeat first | refine EX.seq ?_ | refine EX.blk ?_); refine EX.regx (by intro KK hkk; unfold f24_r13; simp only [SX, Nat.reduceEqDiff, ↓reduceIte, Nat.reduceSub, Nat.reduceAdd, Nat.reduceLT, Nat.reduceLeDiff, I.quiet, false_implies, implies_true, -List.reduceReplicate]; exact hkk) ?_; (with_reducible repeat first | refine nA ?_ | refine nB ?_ | refine nC ?_ | refine nD ?_ | refine nE ?_ | refine nF ?_ | refine nG (by decide) ?_ | refine nH ?_ | refine nI ?_ | refine nJ ?_))
      refine EX.dec rfl (fun hd1 => ?_) (fun hd1 => ?_)
      · have hgp := (hm.2.2 _ (rd_mem htl)).2.2.1 _ (rd_mem hkp)
        have hpt2 : (rd (rd ps t) k).pts.length ≤ 10 := by
          rcases hgp.2.2.2 with e | e | e <;> rw [e] <;> decide
        have hFk : (F (rd ps t))[k * 4 + 1]? = some (L (rd (rd ps t) k).pts) := by
          have := F_get (xs := rd ps t) (o := 1) hkp (by decide)
          rw [w4s] at this
          rw [this]; rfl
        generalize hptsd : (rd (rd ps t) k).pts = pts at *
        obtain ⟨v68, bs1, ap1, ov1, k1⟩ : ∃ (v68 : Value) (bs1 : List (Option Blk)), app1 3 1 8 (.slice none 0 0) (L pts) (h.app bs) = some (v68, h.app bs1) ∧ OwnG 3 h.next bs1 v68 pts ∧ ∀ (i : Nat) (b : Blk), bs[i]? = some (some b) → bs1[i]? = some (some b) := by
          by_cases hp0 : pts = []
          · subst hp0
            exact ⟨.slice none 0 0, bs, by simp [app1, AH.src, L, fz, F_nil, lenV], .inl ⟨rfl, rfl⟩, fun i b hb => hb⟩
          · exact ⟨_, _, app1_copy rfl hp0 (by omega) (by omega), .inr ⟨bs.length, rfl, hp0, get_last⟩, fun i b hb => get_ext hb⟩
        have hpk9 := f18_ok (h := h.app bs1) (v := v) (n := 9) (by decide) (by decide)
        obtain ⟨bs2, ap2, hbl2, hb2, k2⟩ := ov1.push2 (x := IntKind.wrap .i64 ((IntKind.wrap .u64 v) % 9 - 1)) (e := 1) (bytes := 8) rfl hw (by omega) (by omega)
        rw [cells_int] at ap2
        have hkeep : ∀ (i : Nat) (b : Blk), bs[i]? = some (some b) → (∀ c, b ≠ .row 3 1 c) → bs2[i]? = some (some b) := fun i b hb hne => k2 i b (k1 i b hb) fun x y e => by
          obtain ⟨j, g1, g2⟩ := ov1.lt e
          obtain rfl : i = j := by omega
          rw [k1 _ _ hb] at g2; cases g2; exact hne _ rfl
        have e1 := hkeep _ _ hi1 (by intro c e; cases e)
        have hil2 := getElem?_lt e1
        have hko : k * 4 + 1 < (F (rd ps t)).length := by omega
        have hcp2 : CpOk h bs2 a cells ps := ⟨hcp.len, hkeep _ _ hcp.arr (by intro c e; cases e), fun r hr => by
          obtain ⟨v', g1, g2⟩ := hcp.own r hr
          exact ⟨v', g1, g2.keep fun i c hi => hkeep _ _ hi (by intro c e; cases e)⟩, hcp.inj⟩
        obtain ⟨bs', hch, wk⟩ := hcp2.pts (bs := bs2) (k := k) (j := bs1.length + 1) (xs := pts ++ [IntKind.wrap .i64 ((IntKind.wrap .u64 v) % 9 - 1)]) (T := upd TE 9 (.slice (some ⟨h.next + a, 0, none⟩) ps.length ps.length)) hw htl hvt hkp e1 (fun i b hb => hb) hb2 (by simp) (by simp; omega) rfl
        rw [show (pts ++ [IntKind.wrap .i64 ((IntKind.wrap .u64 v) % 9 - 1)]).length = pts.length + 1 by simp] at wk
        (with_reducible repeat first | refine EX.seq ?_ | refine EX.blk ?_)
        refine EX.regx (by intro KK hkk; unfold f24_r14; simp only [SX, Nat.reduceEqDiff, ↓reduceIte, Nat.reduceSub, Nat.reduceAdd, Nat.reduceLT, Nat.reduceLeDiff, I.quiet, false_implies, implies_true, -List.reduceReplicate, t3, hi1, hFk, ap1]; refine RO_callvS hpk9 ?_; simp only [SX, Nat.reduceEqDiff, ↓reduceIte, Nat.reduceSub, Nat.reduceAdd, Nat.reduceLT, Nat.reduceLeDiff, I.quiet, false_implies, implies_true, -List.reduceReplicate, t3, ap2, e1, hw.roi, stAt_row, hko, hil2]; exact hkk) ?_
        (with_reducible repeat first | refine nA ?_ | refine nB ?_ | refine nC ?_ | refine nD ?_ | refine nE ?_ | refine nF ?_ | refine nG (by decide) ?_ | refine nH ?_ | refine nI ?_ | refine nJ ?_)
        refine ⟨_, bs', _, rfl, (Less.wk (Less.upd Less.nil ?_)).trans wk, hch, by simp, hb4 _ (by simp; omega)⟩
        simp [upd, t9]
      ((with_reducible repeat first | refine EX.seq ?_ | refine EX.blk ?_); refine EX.regx (by intro KK hkk; unfold f24_r15; simp only [SX, Nat.reduceEqDiff, ↓reduceIte, Nat.reduceSub, Nat.reduceAdd, Nat.reduceLT, Nat.reduceLeDiff, I.quiet, false_implies, implies_true, -List.reduceReplicate]; exact hkk) ?_; (with_reducible repeat first | refine nA ?_ | refine nB ?_ | refine nC ?_ | refine nD ?_ | refine nE ?_ | refine nF ?_ | refine nG (by decide) ?_ | refine nH ?_ | refine nI ?_ | refine nJ ?_))
      refine EX.dec rfl (fun hd2 => ?_) (fun hd2 => ?_)
      · ((with_reducible repeat first | refine EX.seq ?_ | refine EX.blk ?_); refine EX.regx (by intro KK hkk; unfold f24_r16; simp only [SX, Nat.reduceEqDiff, ↓reduceIte, Nat.reduceSub, Nat.reduceAdd, Nat.reduceLT, Nat.reduceLeDiff, I.quiet, false_implies, implies_true, -List.reduceReplicate, t3, hi1, st2]; refine RO_callvS (c18v 4 _ (by decide) (by decide)) ?_; simp only [SX, Nat.reduceEqDiff, ↓reduceIte, Nat.reduceSub, Nat.reduceAdd, Nat.reduceLT, Nat.reduceLeDiff, I.quiet, false_implies, implies_true, -List.reduceReplicate, t3, hi1, st2]; exact hkk) ?_; (with_reducible repeat first | refine nA ?_ | refine nB ?_ | refine nC ?_ | refine nD ?_ | refine nE ?_ | refine nF ?_ | refine nG (by decide) ?_ | refine nH ?_ | refine nI ?_ | refine nJ ?_))
        exact ⟨_, _, _, by simp [upd, t9], Wk.refl, hset _, by simp, hb4 _ (by simp; omega)⟩
      ((with_reducible repeat first | refine EX.seq ?_ | refine EX.blk ?_); refine EX.regx (by intro KK hkk; unfold f24_r17; simp only [SX, Nat.reduceEqDiff, ↓reduceIte, Nat.reduceSub, Nat.reduceAdd, Nat.reduceLT, Nat.reduceLeDiff, I.quiet, false_implies, implies_true, -List.reduceReplicate]; exact hkk) ?_; (with_reducible repeat first | refine nA ?_ | refine nB ?_ | refine nC ?_ | refine nD ?_ | refine nE ?_ | refine nF ?_ | refine nG (by decide) ?_ | refine nH ?_ | refine nI ?_ | refine nJ ?_))
      refine EX.dec rfl (fun hd3 => ?_) (fun hd3 => ?_)
      · ((with_reducible repeat first | refine EX.seq ?_ | refine EX.blk ?_); refine EX.regx (by intro KK hkk; unfold f24_r18; simp only [SX, Nat.reduceEqDiff, ↓reduceIte, Nat.reduceSub, Nat.reduceAdd, Nat.reduceLT, Nat.reduceLeDiff, I.quiet, false_implies, implies_true, -List.reduceReplicate, t3, hi1, st3]; refine RO_callvS (c18v 2 _ (by decide) (by decide)) ?_; simp only [SX, Nat.reduceEqDiff, ↓reduceIte, Nat.reduceSub, Nat.reduceAdd, Nat.reduceLT, Nat.reduceLeDiff, I.quiet, false_implies, implies_true, -List.reduceReplicate, t3, hi1, st3]; exact hkk) ?_; (with_reducible repeat first | refine nA ?_ | refine nB ?_ | refine nC ?_ | refine nD ?_ | refine nE ?_ | refine nF ?_ | refine nG (by decide) ?_ | refine nH ?_ | refine nI ?_ | refine nJ ?_))
        exact ⟨_, _, _, by simp [upd, t9], Wk.refl, hset _, by simp, hb4 _ (by simp; omega)⟩
      ((with_reducible repeat first | refine EX.seq ?_ | refine EX.blk ?_); refine EX.regx (by intro KK hkk; unfold f24_r19; simp only [SX, Nat.reduceEqDiff, ↓reduceIte, Nat.reduceSub, Nat.reduceAdd, Nat.reduceLT, Nat.reduceLeDiff, I.quiet, false_implies, implies_true, -List.reduceReplicate]; exact hkk) ?_; (with_reducible repeat first | refine nA ?_ | refine nB ?_ | refine nC ?_ | refine nD ?_ | refine nE ?_ | refine nF ?_ | refine nG (by decide) ?_ | refine nH ?_ | refine nI ?_ | refine nJ ?_))
      refine EX.dec rfl (fun hd4 => ?_) (fun hd4 => ?_)
      · have hsl : sls1 4 (.slice (some ⟨h.next + i1, 0, none⟩) (rd ps t).length (rd ps t).length) none (some (.int .i64 (k : Nat))) (h.app bs) = some (.slice (some ⟨h.next + i1, 0, none⟩) k k, h.app bs) := by
          have hk' : k ≤ (rd ps t).length := by omega
          simp [sls1, bnd1, AH.row?, app_get, hi1, hk']
        have htc : t < cells.length := by rw [hcp.len]; exact htl
        obtain ⟨bs', hch, wk⟩ := hcp.cut (k := k) (T := upd TE 9 (.slice (some ⟨h.next + a, 0, none⟩) ps.length ps.length)) hw htl hvt (by omega) (by omega) hi1 rfl
        ((with_reducible repeat first | refine EX.seq ?_ | refine EX.blk ?_); refine EX.regx (by intro KK hkk; unfold f24_r20; simp only [SX, Nat.reduceEqDiff, ↓reduceIte, Nat.reduceSub, Nat.reduceAdd, Nat.reduceLT, Nat.reduceLeDiff, I.quiet, false_implies, implies_true, -List.reduceReplicate, t9, ias1_own htl, hcp.arr, hvt, hsl, hw.roi, stAt_row, htc, hal]; exact hkk) ?_; (with_reducible repeat first | refine nA ?_ | refine nB ?_ | refine nC ?_ | refine nD ?_ | refine nE ?_ | refine nF ?_ | refine nG (by decide) ?_ | refine nH ?_ | refine nI ?_ | refine nJ ?_))
        refine ⟨_, bs', _, rfl, (Less.wk (Less.upd Less.nil ?_)).trans wk, hch, by simp, hb4 _ (by simp; omega)⟩
        simp [upd, t9]
      ((with_reducible repeat first | refine EX.seq ?_ | refine EX.blk ?_); refine EX.regx (by intro KK hkk; unfold f24_r21; simp only [SX, Nat.reduceEqDiff, ↓reduceIte, Nat.reduceSub, Nat.reduceAdd, Nat.reduceLT, Nat.reduceLeDiff, I.quiet, false_implies, implies_true, -List.reduceReplicate]; exact hkk) ?_; (with_reducible repeat first | refine nA ?_ | refine nB ?_ | refine nC ?_ | refine nD ?_ | refine nE ?_ | refine nF ?_ | refine nG (by decide) ?_ | refine nH ?_ | refine nI ?_ | refine nJ ?_))
      refine EX.dec rfl (fun hd5 => ?_) (fun hd5 => ?_)
      · have hpk9 := f18_ok (h := h.app bs) (v := v) (n := 9) (by decide) (by decide)
        have e1 := get_ext (l := [some (Blk.row 3 1 [.int .i64 5, .int .i64 6, .int .i64 ((IntKind.wrap .u64 v) % 9)])]) hi1
        have hil2 := getElem?_lt e1
        have hko : k * 4 + 1 < (F (rd ps t)).length := by omega
        obtain ⟨bs', hch, wk⟩ := hcp.pts (bs := bs ++ [some (Blk.row 3 1 [.int .i64 5, .int .i64 6, .int .i64 ((IntKind.wrap .u64 v) % 9)])]) (k := k) (j := bs.length) (xs := [(5 : Int), 6, (IntKind.wrap .u64 v) % 9]) (T := upd TE 9 (.slice (some ⟨h.next + a, 0, none⟩) ps.length ps.length)) hw htl hvt hkp hi1 (fun i b hb => get_ext hb) get_last (by simp) (by simp) rfl
        rw [show [(5 : Int), 6, (IntKind.wrap .u64 v) % 9].length = 3 from rfl] at wk
        (with_reducible repeat first | refine EX.seq ?_ | refine EX.blk ?_)
        refine EX.regx (by intro KK hkk; unfold f24_r22; simp only [SX, Nat.reduceEqDiff, ↓reduceIte, Nat.reduceSub, Nat.reduceAdd, Nat.reduceLT, Nat.reduceLeDiff, I.quiet, false_implies, implies_true, -List.reduceReplicate, t3]; refine RO_callvS hpk9 ?_; simp only [SX, Nat.reduceEqDiff, ↓reduceIte, Nat.reduceSub, Nat.reduceAdd, Nat.reduceLT, Nat.reduceLeDiff, I.quiet, false_implies, implies_true, -List.reduceReplicate, t3, e1, hw.roi, stAt_row, hko, hil2]; exact hkk) ?_
        (with_reducible repeat first | refine nA ?_ | refine nB ?_ | refine nC ?_ | refine nD ?_ | refine nE ?_ | refine nF ?_ | refine nG (by decide) ?_ | refine nH ?_ | refine nI ?_ | refine nJ ?_)
        refine ⟨_, bs', _, rfl, (Less.wk (Less.upd Less.nil ?_)).trans wk, hch, by simp, hb4 _ (by simp; omega)⟩
        simp [upd, t9]
      · ((with_reducible repeat first | refine EX.seq ?_ | refine EX.blk ?_); refine EX.regx (by intro KK hkk; unfold f24_r23; simp only [SX, Nat.reduceEqDiff, ↓reduceIte, Nat.reduceSub, Nat.reduceAdd, Nat.reduceLT, Nat.reduceLeDiff, I.quiet, false_implies, implies_true, -List.reduceReplicate, t3, hi1, st0]; refine RO_callvS (c18v 2 _ (by decide) (by decide)) ?_; simp only [SX, Nat.reduceEqDiff, ↓reduceIte, Nat.reduceSub, Nat.reduceAdd, Nat.reduceLT, Nat.reduceLeDiff, I.quiet, false_implies, implies_true, -List.reduceReplicate, t3, hi1, st0]; exact hkk) ?_; (with_reducible repeat first | refine nA ?_ | refine nB ?_ | refine nC ?_ | refine nD ?_ | refine nE ?_ | refine nF ?_ | refine nG (by decide) ?_ | refine nH ?_ | refine nI ?_ | refine nJ ?_))
        exact ⟨_, _, _, by simp [upd, t9], Wk.refl, hset _, by simp, hb4 _ (by simp; omega)⟩
    · rintro T2 H2 ⟨T3, bs2, qs, u9, wk3, hch, hql, hqb⟩
      (with_reducible repeat first | refine nA ?_ | refine nB ?_ | refine nC ?_ | refine nD ?_ | refine nE ?_ | refine nF ?_ | refine nG (by decide) ?_ | refine nH ?_ | refine nI ?_ | refine nJ ?_)
      refine EX.wk ?_ wk3
      ((with_reducible repeat first | refine EX.seq ?_ | refine EX.blk ?_); refine EX.regx (by intro KK hkk; unfold f24_r24; simp only [SX, Nat.reduceEqDiff, ↓reduceIte, Nat.reduceSub, Nat.reduceAdd, Nat.reduceLT, Nat.reduceLeDiff, I.quiet, false_implies, implies_true, -List.reduceReplicate, u9]; exact hkk) ?_; (with_reducible repeat first | refine nA ?_ | refine nB ?_ | refine nC ?_ | refine nD ?_ | refine nE ?_ | refine nF ?_ | refine nG (by decide) ?_ | refine nH ?_ | refine nI ?_ | refine nJ ?_))
      (with_reducible repeat first | refine EX.seq ?_ | refine EX.blk ?_)
      refine EX.wk ?_ (hch.ret hw (by rintro rfl; simp at hql; omega) (by omega) hqb rfl)
      ((with_reducible repeat first | refine EX.seq ?_ | refine EX.blk ?_); refine EX.ret ?_; (with_reducible repeat first | refine nA ?_ | refine nB ?_ | refine nC ?_ | refine nD ?_ | refine nE ?_ | refine nF ?_ | refine nG (by decide) ?_ | refine nH ?_ | refine nI ?_ | refine nJ ?_); refine ⟨_, rfl, ?_⟩; simp only [packV, upd, Nat.reduceEqDiff, reduceIte, if_true, if_false, Nat.one_ne_zero, Nat.zero_ne_one])
      exact ⟨qs, rfl, trivial⟩
end
end Go.Proofs.Ythofdojknjhpgaa
