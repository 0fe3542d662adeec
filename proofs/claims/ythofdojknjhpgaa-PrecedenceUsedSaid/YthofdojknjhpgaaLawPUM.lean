/- Own texts, merged: a part of the proof that is told in the last text of this claim. -/
import Derived.Test.YthofdojknjhpgaaLawPUD
import Derived.Test.YthofdojknjhpgaaLawPUL
set_option linter.unnecessarySimpa false
set_option linter.unusedSectionVars false
set_option linter.defProp false
set_option linter.unusedVariables false
set_option linter.unusedSimpArgs false
namespace Go.Proofs.Ythofdojknjhpgaa
open Go
def ixs1 (x i : Value) (h : AH) : Option (Value × AH) := match x, i with
  | .string s, .int _ i => if 0 ≤ i then match s.data[i.toNat]? with | some b => some (.int .u8 b.toNat, h) | none => none else none
  | _, _ => none
theorem run_ixs {x i : Opd} {T : Tm} {h : AH} : (I.ixs x i).run T h = ixs1 (x.ev T) (i.ev T) h := nr (by simp only [I.run, ixs1]; rfl)
theorem ixs1_ok {s : ByteArray} {k : IntKind} {x : Nat} {h : AH} (hx : x < s.data.size) : ixs1 (.string s) (.int k (x : Nat)) h = some (.int .u8 (s.data[x].toNat : Nat), h) := by
  simp only [ixs1, Int.toNat_natCast]
  rw [if_pos (by omega), Array.getElem?_eq_getElem hx]
section
variable {h : AH} {B : Nat} {xs : List (Int × Int)}
/-- 'pdqsortCmpFunc' of few references by 'before'. -/
theorem f114_ok {n : Nat} {l : Int} (hB : h.get B = some (.row 48 2 (F xs))) (hr : h.ro ≤ B) (hn : xs.length = n) (hl : n ≤ 12) : EC Go.Proofs.Try.prog 114 [.slice (some ⟨B, 0, none⟩) n n, .int .i64 0, .int .i64 (n : Nat), .int .i64 l, .func (.func 64) #[] #[]] h fun r h' => r = .tuple #[] ∧ ∃ zs, h' = h.put B (some (.row 48 2 (F zs))) ∧ zs.Perm xs ∧ SortedR zs := by
  obtain ⟨_, _, g, rfl, zs, rfl, hp, hs⟩ := f117_ok hB hr hn (by omega)
  refine EC.intro f114_is ?_
  unfold f114_c
  (refine EX.rg (by intro KK hkk; unfold f114_r0; simp only [SX, Nat.reduceEqDiff, ↓reduceIte, Nat.reduceSub, Nat.reduceAdd, Nat.reduceLT, Nat.reduceLeDiff, I.quiet, false_implies, implies_true, -List.reduceReplicate]; exact hkk) ?_)
  (refine EX.rg (by intro KK hkk; unfold f114_r1; simp only [SX, Nat.reduceEqDiff, ↓reduceIte, Nat.reduceSub, Nat.reduceAdd, Nat.reduceLT, Nat.reduceLeDiff, I.quiet, false_implies, implies_true, -List.reduceReplicate]; exact hkk) ?_)
  (with_reducible repeat first|apply EX.seq|apply EX.blk)
  refine EX.loop (σ := Unit) (fun _ => upd (upd (upd (upd (upd (upd (upd TE 0 (.slice (some ⟨B, 0, none⟩) n n)) 1 (.int .i64 0)) 2 (.int .i64 (n : Nat))) 3 (.int .i64 l)) 4 (.func (.func 64) #[] #[])) 10 (.bool true)) 11 (.bool true)) (fun _ => h) (fun _ => True) (fun _ => 0) () trivial (Less.wk (by (repeat refine Less.upd ?_ (by rfl)); exact Less.nil)) ?_
  intro _ _
  have ws : IntKind.wrap .i64 ((n : Int) - 0) = (n : Int) := by rw [wrap_id (by omega) (by omega)]; omega
  (with_reducible repeat first|apply EX.seq|apply EX.blk)
  (refine EX.rg (by intro KK hkk; unfold f114_r2; simp only [SX, Nat.reduceEqDiff, ↓reduceIte, Nat.reduceSub, Nat.reduceAdd, Nat.reduceLT, Nat.reduceLeDiff, I.quiet, false_implies, implies_true, -List.reduceReplicate, ws]; exact hkk) ?_)
  (refine EX.rg (by intro KK hkk; unfold f114_r3; simp only [SX, Nat.reduceEqDiff, ↓reduceIte, Nat.reduceSub, Nat.reduceAdd, Nat.reduceLT, Nat.reduceLeDiff, I.quiet, false_implies, implies_true, -List.reduceReplicate, show decide ((n : Int) ≤ 12) = true from decide_eq_true (by omega)]; exact hkk) ?_)
  refine EX.condT rfl ?_
  (refine EX.rg (by intro KK hkk; unfold f114_r4; simp only [SX, Nat.reduceEqDiff, ↓reduceIte, Nat.reduceSub, Nat.reduceAdd, Nat.reduceLT, Nat.reduceLeDiff, I.quiet, false_implies, implies_true, -List.reduceReplicate]; refine RO_callE (g) ?_; simp only [SX, Nat.reduceEqDiff, ↓reduceIte, Nat.reduceSub, Nat.reduceAdd, Nat.reduceLT, Nat.reduceLeDiff, I.quiet, false_implies, implies_true, -List.reduceReplicate]; exact hkk) ?_)
  ((with_reducible repeat first|apply EX.seq|apply EX.blk); refine EX.ret ?_; (with_reducible repeat first|apply nA|apply nB|apply nC|apply nD|apply nE|apply nF|apply nG (by decide)|apply nH|apply nI|apply nJ); refine ⟨_, rfl, ?_⟩; simp only [packV, upd, Nat.reduceEqDiff, reduceIte, if_true, if_false, Nat.one_ne_zero, Nat.zero_ne_one])
  exact ⟨trivial, zs, rfl, hp, hs⟩
set_option maxRecDepth 20000 in
/-- 'bits.Len64' of a small number. -/
theorem f127_ok {x : Nat} (hx : x ≤ 12) : ∃ r : Int, AC Go.Proofs.Try.prog 127 [.int .u64 (x : Nat)] h (.int .i64 r) h := by
  suffices k : EC Go.Proofs.Try.prog 127 [.int .u64 (x : Nat)] h fun r h' => h' = h ∧ ∃ i : Int, r = .int .i64 i by
    obtain ⟨_, _, g, rfl, i, rfl⟩ := k
    exact ⟨i, g⟩
  refine EC.intro f127_is ?_
  unfold f127_c
  (refine EX.rg (by intro KK hkk; unfold f127_r0; simp only [SX, Nat.reduceEqDiff, ↓reduceIte, Nat.reduceSub, Nat.reduceAdd, Nat.reduceLT, Nat.reduceLeDiff, I.quiet, false_implies, implies_true, -List.reduceReplicate]; exact hkk) ?_)
  (refine EX.rg (by intro KK hkk; unfold f127_r1; simp only [SX, Nat.reduceEqDiff, ↓reduceIte, Nat.reduceSub, Nat.reduceAdd, Nat.reduceLT, Nat.reduceLeDiff, I.quiet, false_implies, implies_true, -List.reduceReplicate, show decide ((x : Int) ≥ 4294967296) = false from decide_eq_false (by omega)]; exact hkk) ?_)
  refine EX.condF rfl ?_
  (refine EX.skip ?_; (with_reducible repeat first|apply nA|apply nB|apply nC|apply nD|apply nE|apply nF|apply nG (by decide)|apply nH|apply nI|apply nJ))
  (refine EX.rg (by intro KK hkk; unfold f127_r4; simp only [SX, Nat.reduceEqDiff, ↓reduceIte, Nat.reduceSub, Nat.reduceAdd, Nat.reduceLT, Nat.reduceLeDiff, I.quiet, false_implies, implies_true, -List.reduceReplicate, show decide ((x : Int) ≥ 65536) = false from decide_eq_false (by omega)]; exact hkk) ?_)
  refine EX.condF rfl ?_
  (refine EX.skip ?_; (with_reducible repeat first|apply nA|apply nB|apply nC|apply nD|apply nE|apply nF|apply nG (by decide)|apply nH|apply nI|apply nJ))
  (refine EX.rg (by intro KK hkk; unfold f127_r7; simp only [SX, Nat.reduceEqDiff, ↓reduceIte, Nat.reduceSub, Nat.reduceAdd, Nat.reduceLT, Nat.reduceLeDiff, I.quiet, false_implies, implies_true, -List.reduceReplicate, show decide ((x : Int) ≥ 256) = false from decide_eq_false (by omega)]; exact hkk) ?_)
  refine EX.condF rfl ?_
  (refine EX.skip ?_; (with_reducible repeat first|apply nA|apply nB|apply nC|apply nD|apply nE|apply nF|apply nG (by decide)|apply nH|apply nI|apply nJ))
  have w8 : IntKind.wrap .u8 (x : Int) = (x : Int) := IntWalk.u8_in _ (by omega)
  refine EX.rg (by intro KK hkk; unfold f127_r10; simp only [SX, Nat.reduceEqDiff, ↓reduceIte, Nat.reduceSub, Nat.reduceAdd, Nat.reduceLT, Nat.reduceLeDiff, I.quiet, false_implies, implies_true, -List.reduceReplicate, run_ixs, w8]; rw [ixs1_ok (Nat.lt_of_le_of_lt hx (by decide))]; simp only [SX, Nat.reduceEqDiff, ↓reduceIte, Nat.reduceSub, Nat.reduceAdd, Nat.reduceLT, Nat.reduceLeDiff, I.quiet, false_implies, implies_true, -List.reduceReplicate]; exact hkk) ?_
  ((with_reducible repeat first|apply EX.seq|apply EX.blk); refine EX.ret ?_; (with_reducible repeat first|apply nA|apply nB|apply nC|apply nD|apply nE|apply nF|apply nG (by decide)|apply nH|apply nI|apply nJ); refine ⟨_, rfl, ?_⟩; simp only [packV, upd, Nat.reduceEqDiff, reduceIte, if_true, if_false, Nat.one_ne_zero, Nat.zero_ne_one])
  exact ⟨trivial, _, rfl⟩
/-- 'bits.Len' of a small number. -/
theorem f115_ok {x : Nat} (hx : x ≤ 12) : ∃ r : Int, AC Go.Proofs.Try.prog 115 [.int .u64 (x : Nat)] h (.int .i64 r) h := by
  obtain ⟨r, c127⟩ := f127_ok (h := h) hx
  refine ⟨r, AC.of_ec (EC.intro f115_is ?_)⟩
  unfold f115_c
  (refine EX.rg (by intro KK hkk; unfold f115_r0; simp only [SX, Nat.reduceEqDiff, ↓reduceIte, Nat.reduceSub, Nat.reduceAdd, Nat.reduceLT, Nat.reduceLeDiff, I.quiet, false_implies, implies_true, -List.reduceReplicate]; exact hkk) ?_)
  (with_reducible repeat first|apply EX.seq|apply EX.blk)
  refine EX.condF rfl ?_
  (refine EX.skip ?_; (with_reducible repeat first|apply nA|apply nB|apply nC|apply nD|apply nE|apply nF|apply nG (by decide)|apply nH|apply nI|apply nJ))
  (refine EX.rg (by intro KK hkk; unfold f115_r2; simp only [SX, Nat.reduceEqDiff, ↓reduceIte, Nat.reduceSub, Nat.reduceAdd, Nat.reduceLT, Nat.reduceLeDiff, I.quiet, false_implies, implies_true, -List.reduceReplicate]; refine RO_callvS (c127) ?_; simp only [SX, Nat.reduceEqDiff, ↓reduceIte, Nat.reduceSub, Nat.reduceAdd, Nat.reduceLT, Nat.reduceLeDiff, I.quiet, false_implies, implies_true, -List.reduceReplicate]; exact hkk) ?_)
  ((with_reducible repeat first|apply EX.seq|apply EX.blk); refine EX.ret ?_; (with_reducible repeat first|apply nA|apply nB|apply nC|apply nD|apply nE|apply nF|apply nG (by decide)|apply nH|apply nI|apply nJ); refine ⟨_, rfl, ?_⟩; simp only [packV, upd, Nat.reduceEqDiff, reduceIte, if_true, if_false, Nat.one_ne_zero, Nat.zero_ne_one])
  exact ⟨trivial, trivial⟩
/-- 'slices.SortFunc' of few references by 'before'. -/
theorem f98_ok {n : Nat} (hB : h.get B = some (.row 48 2 (F xs))) (hr : h.ro ≤ B) (hn : xs.length = n) (hl : n ≤ 12) : EC Go.Proofs.Try.prog 98 [.slice (some ⟨B, 0, none⟩) n n, .func (.func 64) #[] #[]] h fun r h' => r = .tuple #[] ∧ ∃ zs, h' = h.put B (some (.row 48 2 (F zs))) ∧ zs.Perm xs ∧ SortedR zs := by
  obtain ⟨l, c115⟩ := f115_ok (h := h) hl
  obtain ⟨_, _, g, rfl, zs, rfl, hp, hs⟩ := f114_ok (l := l) hB hr hn hl
  refine EC.intro f98_is ?_
  unfold f98_c
  (refine EX.rg (by intro KK hkk; unfold f98_r0; simp only [SX, Nat.reduceEqDiff, ↓reduceIte, Nat.reduceSub, Nat.reduceAdd, Nat.reduceLT, Nat.reduceLeDiff, I.quiet, false_implies, implies_true, -List.reduceReplicate]; exact hkk) ?_)
  have wu : IntKind.wrap .u64 (n : Int) = (n : Int) := IntWalk.u64_in _ (by omega)
  (refine EX.rg (by intro KK hkk; unfold f98_r1; simp only [SX, Nat.reduceEqDiff, ↓reduceIte, Nat.reduceSub, Nat.reduceAdd, Nat.reduceLT, Nat.reduceLeDiff, I.quiet, false_implies, implies_true, -List.reduceReplicate, wu]; refine RO_callvS (c115) ?_; simp only [SX, Nat.reduceEqDiff, ↓reduceIte, Nat.reduceSub, Nat.reduceAdd, Nat.reduceLT, Nat.reduceLeDiff, I.quiet, false_implies, implies_true, -List.reduceReplicate, wu]; refine RO_callE (g) ?_; simp only [SX, Nat.reduceEqDiff, ↓reduceIte, Nat.reduceSub, Nat.reduceAdd, Nat.reduceLT, Nat.reduceLeDiff, I.quiet, false_implies, implies_true, -List.reduceReplicate, wu]; exact hkk) ?_)
  exact ⟨_, rfl, rfl, zs, rfl, hp, hs⟩
/-- 'slices.Values'. -/
theorem f63_ok : AC Go.Proofs.Try.prog 63 [L xs] h (.func (.func 99) #[] #[.pointer (some ⟨h.next, 0, none⟩)]) (h.new (.row 43 0 [L xs])) := by
  have k : EC Go.Proofs.Try.prog 63 [L xs] h fun r h' => r = .func (.func 99) #[] #[.pointer (some ⟨h.next, 0, none⟩)] ∧ h' = h.new (.row 43 0 [L xs]) := by
    refine EC.intro f63_is ?_
    unfold f63_c
    (refine EX.rg (by intro KK hkk; unfold f63_r0; simp only [SX, Nat.reduceEqDiff, ↓reduceIte, Nat.reduceSub, Nat.reduceAdd, Nat.reduceLT, Nat.reduceLeDiff, I.quiet, false_implies, implies_true, -List.reduceReplicate]; exact hkk) ?_)
    (refine EX.rg (by intro KK hkk; unfold f63_r1; simp only [SX, Nat.reduceEqDiff, ↓reduceIte, Nat.reduceSub, Nat.reduceAdd, Nat.reduceLT, Nat.reduceLeDiff, I.quiet, false_implies, implies_true, -List.reduceReplicate]; exact hkk) ?_)
    ((with_reducible repeat first|apply EX.seq|apply EX.blk); refine EX.ret ?_; (with_reducible repeat first|apply nA|apply nB|apply nC|apply nD|apply nE|apply nF|apply nG (by decide)|apply nH|apply nI|apply nJ); refine ⟨_, rfl, ?_⟩; simp only [packV, upd, Nat.reduceEqDiff, reduceIte, if_true, if_false, Nat.one_ne_zero, Nat.zero_ne_one])
    exact ⟨trivial, trivial⟩
  obtain ⟨_, _, g, rfl, rfl⟩ := k
  exact g
/-- 'slices.Collect' over 'slices.Values'. -/
theorem f97_ok {t : TypeId} (hB : h.get B = some (.row t 0 [L xs])) (hro : h.ro ≤ B) (hl : xs.length * 16 ≤ 140737488351232) :
    AC Go.Proofs.Try.prog 97 [.func (.func 99) #[] #[.pointer (some ⟨B, 0, none⟩)]] h (if xs = [] then .slice none 0 0 else .slice (some ⟨h.next, 0, none⟩) xs.length xs.length) (if xs = [] then h else h.new (.row 48 2 (F xs))) := by
  have c113 := f113_ok hB hro hl
  generalize (if xs = [] then Value.slice none 0 0 else .slice (some ⟨h.next, 0, none⟩) xs.length xs.length) = r at *
  generalize (if xs = [] then h else h.new (.row 48 2 (F xs))) = h2 at *
  have k : EC Go.Proofs.Try.prog 97 [.func (.func 99) #[] #[.pointer (some ⟨B, 0, none⟩)]] h fun r' h' => r' = r ∧ h' = h2 := by
    refine EC.intro f97_is ?_
    unfold f97_c
    (refine EX.rg (by intro KK hkk; unfold f97_r0; simp only [SX, Nat.reduceEqDiff, ↓reduceIte, Nat.reduceSub, Nat.reduceAdd, Nat.reduceLT, Nat.reduceLeDiff, I.quiet, false_implies, implies_true, -List.reduceReplicate]; exact hkk) ?_)
    (refine EX.rg (by intro KK hkk; unfold f97_r1; simp only [SX, Nat.reduceEqDiff, ↓reduceIte, Nat.reduceSub, Nat.reduceAdd, Nat.reduceLT, Nat.reduceLeDiff, I.quiet, false_implies, implies_true, -List.reduceReplicate]; refine RO_callE (c113) ?_; simp only [SX, Nat.reduceEqDiff, ↓reduceIte, Nat.reduceSub, Nat.reduceAdd, Nat.reduceLT, Nat.reduceLeDiff, I.quiet, false_implies, implies_true, -List.reduceReplicate]; exact hkk) ?_)
    ((with_reducible repeat first|apply EX.seq|apply EX.blk); refine EX.ret ?_; (with_reducible repeat first|apply nA|apply nB|apply nC|apply nD|apply nE|apply nF|apply nG (by decide)|apply nH|apply nI|apply nJ); refine ⟨_, rfl, ?_⟩; simp only [packV, upd, Nat.reduceEqDiff, reduceIte, if_true, if_false, Nat.one_ne_zero, Nat.zero_ne_one])
    exact ⟨trivial, trivial⟩
  obtain ⟨_, _, g, rfl, rfl⟩ := k
  exact g
end
end Go.Proofs.Ythofdojknjhpgaa
set_option linter.unusedVariables false
set_option linter.unusedSimpArgs false
namespace Go.Proofs.Ythofdojknjhpgaa
open Go
section
variable {h : AH} {B : Nat} {xs ys : List (Int × Int)}
theorem new_put {b : Blk} {b' : Blk} : (h.new b).put h.next (some b') = h.new b' := by
  refine ah_ext (fun C => ?_) rfl rfl
  simp only [AH.get_put, AH.get_new]; split <;> rfl
/-- 'slices.SortedFunc' of references by 'before'. -/
theorem f62_ok {t : TypeId} (hrn : h.ro ≤ h.next) (hB : h.get B = some (.row t 0 [L xs])) (hro : h.ro ≤ B) (hl : xs.length ≤ 12) (hne : xs ≠ []) :
    EC Go.Proofs.Try.prog 62 [.func (.func 99) #[] #[.pointer (some ⟨B, 0, none⟩)], .func (.func 64) #[] #[]] h fun r h' => ∃ zs, r = .slice (some ⟨h.next, 0, none⟩) xs.length xs.length ∧ h' = h.new (.row 48 2 (F zs)) ∧ zs.Perm xs ∧ SortedR zs := by
  have c97 := f97_ok hB hro (by omega)
  rw [if_neg hne, if_neg hne] at c97
  obtain ⟨_, _, g, rfl, zs, rfl, hp, hs⟩ := f98_ok (h := h.new (.row 48 2 (F xs))) (B := h.next) (n := xs.length) (by rw [AH.get_new, if_pos rfl]) hrn rfl hl
  rw [new_put] at g
  refine EC.intro f62_is ?_
  unfold f62_c
  (refine EX.rg (by intro KK hkk; unfold f62_r0; simp only [SX, Nat.reduceEqDiff, ↓reduceIte, Nat.reduceSub, Nat.reduceAdd, Nat.reduceLT, Nat.reduceLeDiff, I.quiet, false_implies, implies_true, -List.reduceReplicate]; exact hkk) ?_)
  (refine EX.rg (by intro KK hkk; unfold f62_r1; simp only [SX, Nat.reduceEqDiff, ↓reduceIte, Nat.reduceSub, Nat.reduceAdd, Nat.reduceLT, Nat.reduceLeDiff, I.quiet, false_implies, implies_true, -List.reduceReplicate]; refine RO_callE (c97) ?_; simp only [SX, Nat.reduceEqDiff, ↓reduceIte, Nat.reduceSub, Nat.reduceAdd, Nat.reduceLT, Nat.reduceLeDiff, I.quiet, false_implies, implies_true, -List.reduceReplicate]; exact hkk) ?_)
  (refine EX.rg (by intro KK hkk; unfold f62_r2; simp only [SX, Nat.reduceEqDiff, ↓reduceIte, Nat.reduceSub, Nat.reduceAdd, Nat.reduceLT, Nat.reduceLeDiff, I.quiet, false_implies, implies_true, -List.reduceReplicate]; refine RO_callE (g) ?_; simp only [SX, Nat.reduceEqDiff, ↓reduceIte, Nat.reduceSub, Nat.reduceAdd, Nat.reduceLT, Nat.reduceLeDiff, I.quiet, false_implies, implies_true, -List.reduceReplicate]; exact hkk) ?_)
  (refine EX.rg (by intro KK hkk; unfold f62_r3; simp only [SX, Nat.reduceEqDiff, ↓reduceIte, Nat.reduceSub, Nat.reduceAdd, Nat.reduceLT, Nat.reduceLeDiff, I.quiet, false_implies, implies_true, -List.reduceReplicate]; exact hkk) ?_)
  ((with_reducible repeat first|apply EX.seq|apply EX.blk); refine EX.ret ?_; (with_reducible repeat first|apply nA|apply nB|apply nC|apply nD|apply nE|apply nF|apply nG (by decide)|apply nH|apply nI|apply nJ); refine ⟨_, rfl, ?_⟩; simp only [packV, upd, Nat.reduceEqDiff, reduceIte, if_true, if_false, Nat.one_ne_zero, Nat.zero_ne_one])
  exact ⟨zs, trivial, rfl, hp, hs⟩
theorem veq_rv {a b : Int × Int} : vbin .neq 6 [(0, 2), (1, 2)] (rvA a) (rvA b) = some (.bool (decide (a ≠ b))) := by
  obtain ⟨a1, a2⟩ := a; obtain ⟨b1, b2⟩ := b
  by_cases h1 : a1 = b1 <;> by_cases h2 : a2 = b2 <;> simp [vbin, rvA, oeq, aeq, veq, h1, h2]
/-- 'slices.Equal' of references of one's own and others. -/
theorem f65_ok {n : Nat} (hB : h.get B = some (.row 48 2 (F xs))) (hn : xs.length = n) (hl : n < 4611686018427387904) (hyl : ys.length < 4611686018427387904) : AC Go.Proofs.Try.prog 65 [.slice (some ⟨B, 0, none⟩) n n, L ys] h (.bool (decide (xs = ys))) h := by
  refine AC.of_ec (EC.intro f65_is ?_)
  unfold f65_c
  (refine EX.rg (by intro KK hkk; unfold f65_r0; simp only [SX, Nat.reduceEqDiff, ↓reduceIte, Nat.reduceSub, Nat.reduceAdd, Nat.reduceLT, Nat.reduceLeDiff, I.quiet, false_implies, implies_true, -List.reduceReplicate]; exact hkk) ?_)
  by_cases hlen : xs.length = ys.length
  · have hlen2 : (n : Int) = (ys.length : Int) := by omega
    (refine EX.rg (by intro KK hkk; unfold f65_r1; simp only [SX, Nat.reduceEqDiff, ↓reduceIte, Nat.reduceSub, Nat.reduceAdd, Nat.reduceLT, Nat.reduceLeDiff, I.quiet, false_implies, implies_true, -List.reduceReplicate, show decide ((n : Int) ≠ (ys.length : Int)) = false from decide_eq_false (fun e => e hlen2)]; exact hkk) ?_)
    refine EX.condF rfl ?_
    (refine EX.skip ?_; (with_reducible repeat first|apply nA|apply nB|apply nC|apply nD|apply nE|apply nF|apply nG (by decide)|apply nH|apply nI|apply nJ))
    (refine EX.rg (by intro KK hkk; unfold f65_r3; simp only [SX, Nat.reduceEqDiff, ↓reduceIte, Nat.reduceSub, Nat.reduceAdd, Nat.reduceLT, Nat.reduceLeDiff, I.quiet, false_implies, implies_true, -List.reduceReplicate]; exact hkk) ?_)
    (with_reducible repeat first|apply EX.seq|apply EX.blk)
    refine EX.loop (σ := Nat) (fun i => upd (upd (upd (upd TE 0 (.slice (some ⟨B, 0, none⟩) n n)) 1 (L ys)) 12 (.int .i64 (n : Nat))) 13 (.int .i64 (i : Nat))) (fun _ => h)
      (fun i => i ≤ n ∧ xs.take i = ys.take i) (fun i => n - i) 0 ⟨Nat.zero_le _, rfl⟩ (Less.wk (by (repeat refine Less.upd ?_ (by rfl)); exact Less.nil)) ?_
    rintro i ⟨hi, ht⟩
    (refine EX.rg (by intro KK hkk; unfold f65_r4; simp only [SX, Nat.reduceEqDiff, ↓reduceIte, Nat.reduceSub, Nat.reduceAdd, Nat.reduceLT, Nat.reduceLeDiff, I.quiet, false_implies, implies_true, -List.reduceReplicate, lt_nat]; exact hkk) ?_)
    (with_reducible repeat first|apply EX.seq|apply EX.blk)
    refine EX.dec rfl (fun hlt => ?_) (fun hlt => ?_)
    · (refine EX.skip ?_; (with_reducible repeat first|apply nA|apply nB|apply nC|apply nD|apply nE|apply nF|apply nG (by decide)|apply nH|apply nI|apply nJ))
      (refine EX.rg (by intro KK hkk; unfold f65_r5; simp only [SX, Nat.reduceEqDiff, ↓reduceIte, Nat.reduceSub, Nat.reduceAdd, Nat.reduceLT, Nat.reduceLeDiff, I.quiet, false_implies, implies_true, -List.reduceReplicate]; exact hkk) ?_)
      have hx : i < xs.length := by omega
      have hy : i < ys.length := by omega
      have s1 : ias1 2 (.slice (some ⟨B, 0, none⟩) n n) (.int .i64 (i : Nat)) h = some (.pointer (some ⟨B, i * 2, none⟩), h) := by
        have := ias1_sl2 (h := h) (B := B) (n := n) (m := n) (k := .i64) (j := (i : Nat)) (by omega) (by omega)
        simpa only [Int.toNat_natCast] using this
      have l1 : ldsAt 2 (some (.row 48 2 (F xs))) (i * 2) h = some (rvA (rd xs i), h) := ldsAt_ref hx
      have l2 : lds1 2 (ef ys i 0) h = some (rvA (rd ys i), h) := lds1_ef hy (Nat.le_refl 2)
      (refine EX.dg (by intro KK hkk; unfold f65_r6; simp only [SX, Nat.reduceEqDiff, ↓reduceIte, Nat.reduceSub, Nat.reduceAdd, Nat.reduceLT, Nat.reduceLeDiff, I.quiet, false_implies, implies_true, -List.reduceReplicate, s1, hB, l1, wref, hy, l2, veq_rv]; exact hkk) ?_)
      refine EX.dec rfl (fun hd => ?_) (fun hd => ?_)
      · (refine EX.rg (by intro KK hkk; unfold f65_r7; simp only [SX, Nat.reduceEqDiff, ↓reduceIte, Nat.reduceSub, Nat.reduceAdd, Nat.reduceLT, Nat.reduceLeDiff, I.quiet, false_implies, implies_true, -List.reduceReplicate]; exact hkk) ?_)
        ((with_reducible repeat first|apply EX.seq|apply EX.blk); refine EX.ret ?_; (with_reducible repeat first|apply nA|apply nB|apply nC|apply nD|apply nE|apply nF|apply nG (by decide)|apply nH|apply nI|apply nJ); refine ⟨_, rfl, ?_⟩; simp only [packV, upd, Nat.reduceEqDiff, reduceIte, if_true, if_false, Nat.one_ne_zero, Nat.zero_ne_one])
        rw [rd_eq hx, rd_eq hy] at hd
        rw [decide_eq_false (fun e => hd (by subst e; rfl))]; exact ⟨rfl, trivial⟩
      · (refine EX.skip ?_; (with_reducible repeat first|apply nA|apply nB|apply nC|apply nD|apply nE|apply nF|apply nG (by decide)|apply nH|apply nI|apply nJ))
        (refine EX.rg (by intro KK hkk; unfold f65_r8; simp only [SX, Nat.reduceEqDiff, ↓reduceIte, Nat.reduceSub, Nat.reduceAdd, Nat.reduceLT, Nat.reduceLeDiff, I.quiet, false_implies, implies_true, -List.reduceReplicate, wrap_nat (show i < 4611686018427387904 by omega)]; exact hkk) ?_)
        refine ⟨i + 1, ⟨by omega, ?_⟩, by omega, Less.wk (by (repeat refine Less.upd ?_ (by rfl)); exact Less.nil)⟩
        rw [List.take_succ_eq_append_getElem hx, List.take_succ_eq_append_getElem hy, ht]
        rw [rd_eq hx, rd_eq hy] at hd
        rw [Decidable.not_not.1 hd]
    · (refine EX.exit ?_; (with_reducible repeat first|apply nA|apply nB|apply nC|apply nD|apply nE|apply nF|apply nG (by decide)|apply nH|apply nI|apply nJ))
      (refine EX.rg (by intro KK hkk; unfold f65_r9; simp only [SX, Nat.reduceEqDiff, ↓reduceIte, Nat.reduceSub, Nat.reduceAdd, Nat.reduceLT, Nat.reduceLeDiff, I.quiet, false_implies, implies_true, -List.reduceReplicate]; exact hkk) ?_)
      ((with_reducible repeat first|apply EX.seq|apply EX.blk); refine EX.ret ?_; (with_reducible repeat first|apply nA|apply nB|apply nC|apply nD|apply nE|apply nF|apply nG (by decide)|apply nH|apply nI|apply nJ); refine ⟨_, rfl, ?_⟩; simp only [packV, upd, Nat.reduceEqDiff, reduceIte, if_true, if_false, Nat.one_ne_zero, Nat.zero_ne_one])
      rw [List.take_of_length_le (by omega), List.take_of_length_le (by omega)] at ht
      rw [decide_eq_true ht]; exact ⟨rfl, trivial⟩
  · have hlen2 : ¬ (n : Int) = (ys.length : Int) := by omega
    (refine EX.rg (by intro KK hkk; unfold f65_r1; simp only [SX, Nat.reduceEqDiff, ↓reduceIte, Nat.reduceSub, Nat.reduceAdd, Nat.reduceLT, Nat.reduceLeDiff, I.quiet, false_implies, implies_true, -List.reduceReplicate, show decide ((n : Int) ≠ (ys.length : Int)) = true from decide_eq_true hlen2]; exact hkk) ?_)
    refine EX.condT rfl ?_
    (refine EX.rg (by intro KK hkk; unfold f65_r2; simp only [SX, Nat.reduceEqDiff, ↓reduceIte, Nat.reduceSub, Nat.reduceAdd, Nat.reduceLT, Nat.reduceLeDiff, I.quiet, false_implies, implies_true, -List.reduceReplicate]; exact hkk) ?_)
    ((with_reducible repeat first|apply EX.seq|apply EX.blk); refine EX.ret ?_; (with_reducible repeat first|apply nA|apply nB|apply nC|apply nD|apply nE|apply nF|apply nG (by decide)|apply nH|apply nI|apply nJ); refine ⟨_, rfl, ?_⟩; simp only [packV, upd, Nat.reduceEqDiff, reduceIte, if_true, if_false, Nat.one_ne_zero, Nat.zero_ne_one])
    rw [decide_eq_false (fun e => hlen (by rw [e]))]; exact ⟨rfl, trivial⟩
end
end Go.Proofs.Ythofdojknjhpgaa
set_option linter.unusedVariables false
set_option linter.unusedSimpArgs false
namespace Go.Proofs.Ythofdojknjhpgaa
open Go
def addL (ls : Nat → List (Int × Int)) (r : Nat) (u : Int × Int) : Nat → List (Int × Int) := fun i => if i = r then ls i ++ [u] else ls i
/-- A slice of one's own that shows its whole row. -/
def OwnV (n : Nat) (bs : List (Option Blk)) (v : Value) (xs : List (Int × Int)) : Prop :=
  (v = .slice none 0 0 ∧ xs = []) ∨ ∃ i, v = .slice (some ⟨n + i, 0, none⟩) xs.length xs.length ∧ xs ≠ [] ∧ bs[i]? = some (some (.row 48 2 (F xs)))
/-- Block a holds 144 such slices, each with a block of its own. -/
structure Own144 (n : Nat) (bs : List (Option Blk)) (a : Nat) (cells : List Value) (ls : Nat → List (Int × Int)) : Prop where
  len : cells.length = 144
  arr : bs[a]? = some (some (.row 133 1 cells))
  own : ∀ r, r < 144 → ∃ v, cells[r]? = some v ∧ OwnV n bs v (ls r)
  inj : ∀ (r r' B x y x' y' : Nat), cells[r]? = some (.slice (some ⟨B, 0, none⟩) x y) → cells[r']? = some (.slice (some ⟨B, 0, none⟩) x' y') → r = r'
section
variable {h : AH} {bs : List (Option Blk)} {v : Value} {xs : List (Int × Int)} {a : Nat} {cells : List Value} {ls : Nat → List (Int × Int)}
theorem OwnV.one1 {n : Nat} (o : OwnV n bs v xs) : one v = true := by rcases o with ⟨rfl, _⟩ | ⟨i, rfl, _⟩ <;> rfl
theorem OwnV.lens (o : OwnV h.next bs v xs) : lens1 v h = some (.int .i64 xs.length, h) := by rcases o with ⟨rfl, rfl⟩ | ⟨i, rfl, _⟩ <;> rfl
theorem OwnV.keep {n : Nat} {bs' : List (Option Blk)} (o : OwnV n bs v xs) (hk : ∀ (i : Nat) (c : List Value), bs[i]? = some (some (.row 48 2 c)) → (∃ x y, v = .slice (some ⟨n + i, 0, none⟩) x y) → bs'[i]? = some (some (.row 48 2 c))) : OwnV n bs' v xs := by
  rcases o with o | ⟨i, h1, h2, h3⟩
  · exact .inl o
  · exact .inr ⟨i, h1, h2, hk _ _ h3 ⟨_, _, h1⟩⟩
/-- One more reference. -/
theorem OwnV.push {u : Int × Int} (hw : Wf h) (o : OwnV h.next bs v xs) (hl : xs.length ≤ 100000) : ∃ bs2 : List (Option Blk), app1 48 2 16 v (.slice (some ⟨h.next + bs.length, 0, none⟩) 1 1) (h.app (bs ++ [some (.row 48 2 [.int .i64 u.1, .int .i64 u.2])])) = some (.slice (some ⟨h.next + (bs.length + 1), 0, none⟩) (xs.length + 1) (xs.length + 1), h.app bs2) ∧ bs2.length = bs.length + 2 ∧
    bs2[bs.length + 1]? = some (some (.row 48 2 (F (xs ++ [u])))) ∧ ∀ (k : Nat) (b : Blk), bs[k]? = some (some b) → (∀ x y, v ≠ .slice (some ⟨h.next + k, 0, none⟩) x y) → bs2[k]? = some (some b) := by
  have hs : (h.app (bs ++ [some (.row 48 2 [.int .i64 u.1, .int .i64 u.2])])).src 2 (.slice (some ⟨h.next + bs.length, 0, none⟩) 1 1) = some [.int .i64 u.1, .int .i64 u.2] := by
    simp [AH.src, AH.row?, app_get]
  rcases o with ⟨rfl, rfl⟩ | ⟨i, rfl, hne, h2⟩
  · refine ⟨(bs ++ [some (Blk.row 48 2 [.int .i64 u.1, .int .i64 u.2])]) ++ [some (Blk.row 48 2 [.int .i64 u.1, .int .i64 u.2])], ?_, by simp, ?_, ?_⟩
    · simp only [app1, hs, lenV, app_new]
      simp [one, app_next]
    · rw [List.getElem?_append_right (by simp)]; simp; rfl
    · intro k b hk _
      rw [List.append_assoc, List.getElem?_append_left (getElem?_lt hk)]; exact hk
  · have hi := getElem?_lt h2
    have hlen : (F xs).length = xs.length * 2 := F_len
    have hg : (h.app (bs ++ [some (.row 48 2 [.int .i64 u.1, .int .i64 u.2])])).row? (h.next + i) = some (48, 2, F xs) := by
      simp only [AH.row?, app_get, List.getElem?_append_left hi, h2]; rfl
    have ht : (F xs).take (xs.length * 2) = F xs := List.take_of_length_le (by omega)
    refine ⟨((bs ++ [some (Blk.row 48 2 [.int .i64 u.1, .int .i64 u.2])]) ++ [some (Blk.row 48 2 (F (xs ++ [u])))]).set i none, ?_, by simp, ?_, ?_⟩
    · simp only [app1, hs, lenV, hg, ht, app_new]
      have ho : (F xs).all one = true := F_one
      have hro := hw.ro
      rw [if_neg (by decide), if_pos ⟨by omega, by omega, by simp [one]⟩, if_pos ⟨by show h.ro ≤ _; omega, trivial, trivial, trivial, by omega, ho⟩, app_put (by simp; omega)]
      simp [app_next, F_append]; rfl
    · rw [List.getElem?_set, if_neg (by omega), List.getElem?_append_right (by simp)]; simp
    · intro k b hk hv
      have := getElem?_lt hk
      have hki : k ≠ i := by rintro rfl; exact hv _ _ rfl
      rw [List.getElem?_set, if_neg (fun e => hki e.symm), List.append_assoc, List.getElem?_append_left this]; exact hk
/-- One more reference at resource r. -/
theorem Own144.push {u : Int × Int} {r : Nat} (hw : Wf h) (o : Own144 h.next bs a cells ls) (hr : r < 144) (hl : (ls r).length ≤ 100000) : ∃ (v : Value) (bs2 : List (Option Blk)) (v2 : Value), cells[r]? = some v ∧ app1 48 2 16 v (.slice (some ⟨h.next + bs.length, 0, none⟩) 1 1) (h.app (bs ++ [some (.row 48 2 [.int .i64 u.1, .int .i64 u.2])])) = some (v2, h.app bs2) ∧ one v2 = true ∧ bs2.length = bs.length + 2 ∧ bs2[a]? = some (some (.row 133 1 cells)) ∧
    Own144 h.next (bs2.set a (some (.row 133 1 (cells.set r v2)))) a (cells.set r v2) (addL ls r u) ∧ ∀ (k : Nat) (b : Blk), bs[k]? = some (some b) → (∀ c, b ≠ .row 48 2 c) → bs2[k]? = some (some b) := by
  obtain ⟨v, hv, ov⟩ := o.own r hr
  obtain ⟨bs2, a1, a2, a3, a4⟩ := ov.push (u := u) hw hl
  have hal := getElem?_lt o.arr
  have hcl := o.len
  have keep : ∀ (k : Nat) (b : Blk), bs[k]? = some (some b) → (∀ c, b ≠ .row 48 2 c) → bs2[k]? = some (some b) := by
    intro k b hk hb
    refine a4 k b hk fun x y e => ?_
    rcases ov with ⟨rfl, _⟩ | ⟨i, rfl, _, h3⟩
    · cases e
    · have e1 : h.next + i = h.next + k := by
        injection e with e1
        injection e1 with e2
        injection e2
      obtain rfl : i = k := by omega
      rw [h3] at hk; cases hk; exact hb _ rfl
  have harr := keep a _ o.arr (by intro c e; cases e)
  have old : ∀ (r' : Nat) (v' : Value), cells[r']? = some v' → r' ≠ r → ∀ B x y, v' = .slice (some ⟨B, 0, none⟩) x y → B < h.next + bs.length ∧ ∀ x' y', v ≠ .slice (some ⟨B, 0, none⟩) x' y' := by
    intro r' v' hv' hne B x y e
    subst e
    have hr' : r' < 144 := by have := getElem?_lt hv'; omega
    obtain ⟨w, hw', ow'⟩ := o.own r' hr'
    rw [hv'] at hw'; cases hw'
    constructor
    · rcases ow' with ⟨e, _⟩ | ⟨i, e, _, h3⟩
      · cases e
      · cases e; have := getElem?_lt h3; omega
    · rintro x' y' rfl
      exact hne (o.inj _ _ _ _ _ _ _ hv' hv)
  refine ⟨v, bs2, _, hv, a1, rfl, a2, harr, ⟨by simpa using hcl, List.getElem?_set_self (by omega), ?_, ?_⟩, keep⟩
  · intro r' hr'
    have hna : ∀ (i : Nat) (c : List Value), bs2[i]? = some (some (Blk.row 48 2 c)) → (bs2.set a (some (Blk.row 133 1 (cells.set r (.slice (some ⟨h.next + (bs.length + 1), 0, none⟩) ((ls r).length + 1) ((ls r).length + 1))))))[i]? = some (some (Blk.row 48 2 c)) := by
      intro i c hi
      have : a ≠ i := by rintro rfl; rw [harr] at hi; cases hi
      rw [List.getElem?_set, if_neg this]; exact hi
    by_cases e : r' = r
    · subst e
      refine ⟨_, List.getElem?_set_self (by omega), .inr ⟨bs.length + 1, ?_, ?_, ?_⟩⟩
      · simp [addL]
      · simp [addL]
      · have e1 : addL ls r' u r' = ls r' ++ [u] := by simp [addL]
        rw [e1]; exact hna _ _ a3
    · obtain ⟨v', hv', ov'⟩ := o.own r' hr'
      refine ⟨v', by rw [List.getElem?_set, if_neg (fun h => e h.symm)]; exact hv', ?_⟩
      have e1 : addL ls r u r' = ls r' := by simp [addL, e]
      rw [e1]
      refine ov'.keep fun i c hi hvi => hna _ _ (a4 _ _ hi fun x y => ?_)
      obtain ⟨x0, y0, hx0⟩ := hvi
      exact (old r' v' hv' e _ _ _ hx0).2 x y
  · intro r1 r2 B x y x' y' h1 h2
    rw [List.getElem?_set] at h1 h2
    have hrl : r < cells.length := by omega
    by_cases e1 : r = r1 <;> by_cases e2 : r = r2
    · omega
    · rw [if_pos e1, if_pos hrl] at h1
      rw [if_neg e2] at h2
      cases h1
      have := (old r2 _ h2 (fun h => e2 h.symm) _ _ _ rfl).1
      omega
    · rw [if_neg e1] at h1
      rw [if_pos e2, if_pos hrl] at h2
      cases h2
      have := (old r1 _ h1 (fun h => e1 h.symm) _ _ _ rfl).1
      omega
    · rw [if_neg e1] at h1
      rw [if_neg e2] at h2
      exact o.inj _ _ _ _ _ _ _ h1 h2
end
end Go.Proofs.Ythofdojknjhpgaa
set_option linter.unusedVariables false
set_option linter.unusedSimpArgs false
namespace Go.Proofs.Ythofdojknjhpgaa
open Go
section
variable {h : AH} {bs : List (Option Blk)} {cells : List Value} {ls : Nat → List (Int × Int)} {T : Tm}
/-- What the loops of 'all' keep. -/
structure AllI (h : AH) (bs : List (Option Blk)) (i7 i8 : Nat) (g : Stg) (u : Int × Int) (ls : Nat → List (Int × Int)) : Prop where
  own : ∃ cells, Own144 h.next bs 0 cells ls
  b7 : bs[i7]? = some (some (.row 65 0 [.int .i64 g.sec, L g.pts, .int .i64 g.min, .int .i64 g.not]))
  b8 : bs[i8]? = some (some (.row 48 0 [.int .i64 u.1, .int .i64 u.2]))
theorem f61_r9_ok {i7 i8 n0 : Nat} {g : Stg} {u : Int × Int} {m : Nat} {Q : Exit → Tm → AH → Prop} (hw : Wf h) (hi : AllI h bs i7 i8 g u ls) (t3 : T 3 = .pointer (some ⟨h.next, 0, none⟩)) (t7 : T 7 = .pointer (some ⟨h.next + i7, 0, none⟩)) (t8 : T 8 = .pointer (some ⟨h.next + i8, 0, none⟩)) (s0 : 0 ≤ g.sec) (s1 : g.sec < 144) (hl : (ls g.sec.toNat).length ≤ 100000)
    (k : ∀ (T2 : Tm) (bs2 : List (Option Blk)), (∀ j, j < 31 ∨ 40 < j → T2 j = T j) → AllI h bs2 i7 i8 g u (addL ls g.sec.toNat u) → Q .normal T2 (h.app bs2)) : EX Go.Proofs.Try.prog m n0 (.drw f61_r9) T (h.app bs) Q := by
  obtain ⟨⟨cells, ho⟩, b7, b8⟩ := hi
  obtain ⟨v, bs2, v2, hv, ap, hone, hbl, harr, ho2, keep⟩ := ho.push (u := u) (r := g.sec.toNat) hw (by omega) hl
  have h7 := getElem?_lt b7
  have h8 := getElem?_lt b8
  have h0 := getElem?_lt ho.arr
  have hcl := ho.len
  have e7 : (bs ++ [some (Blk.row 48 2 [.int .i64 u.1, .int .i64 u.2])])[i7]? = _ := (List.getElem?_append_left h7).trans b7
  have e0 : (bs ++ [some (Blk.row 48 2 [.int .i64 u.1, .int .i64 u.2])])[0]? = _ := (List.getElem?_append_left h0).trans ho.arr
  have k7 := keep _ _ b7 (by intro c e; cases e)
  have k8 := keep _ _ b8 (by intro c e; cases e)
  have hal : 0 < bs2.length := by omega
  have hsc : g.sec.toNat < cells.length := by omega
  refine EX.drwx (by
    intro KK hkk; unfold f61_r9
    simp only [SX, Nat.reduceEqDiff, ↓reduceIte, Nat.reduceSub, Nat.reduceAdd, Nat.reduceLT, Nat.reduceLeDiff, I.quiet, false_implies, implies_true, -List.reduceReplicate, t3, t7, t8, RD_ldfw, b7, b8, ho.arr, iaa1_mk s0 s1, hv, ldsAt_row, Nat.le_refl, fill1_agg, ap, decP_2, decP_1, List.mem_cons, List.not_mem_nil, or_false, forall_eq_or_imp, forall_eq, step_ins, run_ld, e7, e0, k7, harr, app_next, Nat.le_add_right, stAt_row hw.ro0, hsc, hone, hal]
    exact ⟨by simp, by simp; omega, by simp, hkk⟩) ?_
  refine k _ _ ?_ ⟨⟨_, ho2⟩, ?_, ?_⟩
  · intro j hj
    simp only [upd]
    repeat rw [if_neg (by omega)]
  · rw [List.getElem?_set, if_neg (by rintro rfl; rw [ho.arr] at b7; cases b7)]; exact k7
  · rw [List.getElem?_set, if_neg (by rintro rfl; rw [ho.arr] at b8; cases b8)]; exact k8
theorem f61_r13_ok {i7 i8 n0 : Nat} {g : Stg} {u : Int × Int} {x : Int} {m : Nat} {Q : Exit → Tm → AH → Prop} (hw : Wf h) (hi : AllI h bs i7 i8 g u ls) (t3 : T 3 = .pointer (some ⟨h.next, 0, none⟩)) (t8 : T 8 = .pointer (some ⟨h.next + i8, 0, none⟩)) (t10 : T 10 = .int .i64 x) (s0 : 0 ≤ x) (s1 : x < 144) (hl : (ls x.toNat).length ≤ 100000)
    (k : ∀ (T2 : Tm) (bs2 : List (Option Blk)), (∀ j, j < 48 ∨ 55 < j → T2 j = T j) → AllI h bs2 i7 i8 g u (addL ls x.toNat u) → Q .normal T2 (h.app bs2)) : EX Go.Proofs.Try.prog m n0 (.drw f61_r13) T (h.app bs) Q := by
  obtain ⟨⟨cells, ho⟩, b7, b8⟩ := hi
  obtain ⟨v, bs2, v2, hv, ap, hone, hbl, harr, ho2, keep⟩ := ho.push (u := u) (r := x.toNat) hw (by omega) hl
  have h8 := getElem?_lt b8
  have h0 := getElem?_lt ho.arr
  have hcl := ho.len
  have e0 : (bs ++ [some (Blk.row 48 2 [.int .i64 u.1, .int .i64 u.2])])[0]? = _ := (List.getElem?_append_left h0).trans ho.arr
  have k7 := keep _ _ b7 (by intro c e; cases e)
  have k8 := keep _ _ b8 (by intro c e; cases e)
  have hal : 0 < bs2.length := by omega
  have hsc : x.toNat < cells.length := by omega
  refine EX.drwx (by
    intro KK hkk; unfold f61_r13
    simp only [SX, Nat.reduceEqDiff, ↓reduceIte, Nat.reduceSub, Nat.reduceAdd, Nat.reduceLT, Nat.reduceLeDiff, I.quiet, false_implies, implies_true, -List.reduceReplicate, t3, t8, t10, RD_ldfw, b8, ho.arr, iaa1_mk s0 s1, hv, ldsAt_row, Nat.le_refl, fill1_agg, ap, decP_2, decP_1, List.mem_cons, List.not_mem_nil, or_false, forall_eq_or_imp, forall_eq, step_ins, run_ld, e0, harr, app_next, Nat.le_add_right, stAt_row hw.ro0, hsc, hone, hal]
    exact ⟨by simp, by simp; omega, by simp, hkk⟩) ?_
  refine k _ _ ?_ ⟨⟨_, ho2⟩, ?_, ?_⟩
  · intro j hj
    simp only [upd]
    repeat rw [if_neg (by omega)]
  · rw [List.getElem?_set, if_neg (by rintro rfl; rw [ho.arr] at b7; cases b7)]; exact k7
  · rw [List.getElem?_set, if_neg (by rintro rfl; rw [ho.arr] at b8; cases b8)]; exact k8
end
end Go.Proofs.Ythofdojknjhpgaa
set_option linter.unusedVariables false
set_option linter.unusedSimpArgs false
namespace Go.Proofs.Ythofdojknjhpgaa
open Go
def lsT (ls : Nat → List (Int × Int)) (u : Int × Int) (pts : List Int) : Nat → Nat → List (Int × Int)
  | 0 => ls
  | j + 1 => addL (lsT ls u pts j) (rd pts j).toNat u
def stgL (ls : Nat → List (Int × Int)) (u : Int × Int) (g : Stg) : Nat → List (Int × Int) := lsT (addL ls g.sec.toNat u) u g.pts g.pts.length
def lsP (ls : Nat → List (Int × Int)) (t : Nat) (p : List Stg) : Nat → Nat → List (Int × Int)
  | 0 => ls
  | k + 1 => stgL (lsP ls t p k) ((t : Int), (k : Int)) (rd p k)
def lsA (ps : List (List Stg)) : Nat → Nat → List (Int × Int)
  | 0 => fun _ => []
  | t + 1 => lsP (lsA ps t) t (rd ps t) (rd ps t).length
def maxL (ls : Nat → List (Int × Int)) (n : Nat) : Prop := ∀ r, (ls r).length ≤ n
theorem maxL.add {ls : Nat → List (Int × Int)} {n r : Nat} {u : Int × Int} (h : maxL ls n) : maxL (addL ls r u) (n + 1) := by
  intro i
  have := h i
  unfold addL; split
  · simp; omega
  · omega
theorem maxL.pts {ls : Nat → List (Int × Int)} {n : Nat} {u : Int × Int} {pts : List Int} (h : maxL ls n) : ∀ j, maxL (lsT ls u pts j) (n + j)
  | 0 => h
  | j + 1 => (maxL.pts h j).add
theorem maxL.mono {ls : Nat → List (Int × Int)} {n m : Nat} (h : maxL ls n) (hm : n ≤ m) : maxL ls m := fun r => Nat.le_trans (h r) hm
def StgA (g : Stg) : Prop := (0 ≤ g.sec ∧ g.sec < 144) ∧ g.pts.length ≤ 2 ∧ ∀ x ∈ g.pts, 0 ≤ x ∧ x < 144
def PathsA (ps : List (List Stg)) : Prop := ps.length ≤ 10 ∧ ∀ p ∈ ps, p.length ≤ 64 ∧ ∀ g ∈ p, StgA g
theorem maxL.path {ls : Nat → List (Int × Int)} {n t : Nat} {p : List Stg} (h : maxL ls n) (hp : ∀ g ∈ p, StgA g) : ∀ k, k ≤ p.length → maxL (lsP ls t p k) (n + 3 * k)
  | 0, _ => h
  | k + 1, hk => by
    have hg := hp _ (List.getElem_mem (show k < p.length by omega))
    rw [← rd_eq (show k < p.length by omega)] at hg
    have := ((maxL.path (t := t) h hp k (by omega)).add (r := (rd p k).sec.toNat) (u := ((t : Int), (k : Int)))).pts (u := ((t : Int), (k : Int))) (pts := (rd p k).pts) (rd p k).pts.length
    exact this.mono (by have := hg.2.1; omega)
theorem maxL.paths {ps : List (List Stg)} (hp : PathsA ps) : ∀ t, t ≤ ps.length → maxL (lsA ps t) (192 * t)
  | 0, _ => fun _ => Nat.le_refl _
  | t + 1, ht => by
    have hg := hp.2 _ (List.getElem_mem (show t < ps.length by omega))
    rw [← rd_eq (show t < ps.length by omega)] at hg
    exact ((maxL.paths hp t (by omega)).path hg.2 _ (Nat.le_refl _)).mono (by have := hg.1; omega)
section
variable {h : AH}
structure Ordr where
  res : Int
  uses : List (Int × Int)
deriving DecidableEq, Inhabited
instance : Enc Ordr where
  w := 2
  cells o := [.int .i64 o.res, L o.uses]
  bd o := Bd o.uses
  len _ := rfl
  pos := by decide
  one _ := rfl
  cl a v hv := by
    simp only [List.mem_cons, List.not_mem_nil, or_false] at hv
    rcases hv with rfl | rfl
    · exact Cl.int
    · exact L_cl
  vbd a φ n us hu := by
    obtain ⟨c, _, hc⟩ := hu.get (i := 1) rfl
    exact L_bd hc
/-- A slice of one's own that shows its whole row, of any kind. -/
def OwnG {α : Type} [Enc α] (t : TypeId) (n : Nat) (bs : List (Option Blk)) (v : Value) (xs : List α) : Prop :=
  (v = .slice none 0 0 ∧ xs = []) ∨ ∃ i, v = .slice (some ⟨n + i, 0, none⟩) xs.length xs.length ∧ xs ≠ [] ∧ bs[i]? = some (some (.row t (Enc.w α) (F xs)))
theorem OwnG.one1 {α : Type} [Enc α] {t : TypeId} {n : Nat} {bs : List (Option Blk)} {v : Value} {xs : List α} (o : OwnG t n bs v xs) : one v = true := by rcases o with ⟨rfl, _⟩ | ⟨i, rfl, _⟩ <;> rfl
theorem OwnG.push {α : Type} [Enc α] {t : TypeId} {e bytes : Nat} {h : AH} {bs : List (Option Blk)} {v : Value} {xs : List α} {x : α} (he : Enc.w α = e) (hw : Wf h) (o : OwnG t h.next bs v xs) (hb : (xs.length + 1) * bytes ≤ 140737488355328) (hb2 : xs.length + 1 ≤ 9223372036854775807) : ∃ bs2 : List (Option Blk), app1 t e bytes v (.slice (some ⟨h.next + bs.length, 0, none⟩) 1 1) (h.app (bs ++ [some (.row t e (Enc.cells x))])) = some (.slice (some ⟨h.next + (bs.length + 1), 0, none⟩) (xs.length + 1) (xs.length + 1), h.app bs2) ∧
    OwnG t h.next bs2 (.slice (some ⟨h.next + (bs.length + 1), 0, none⟩) (xs.length + 1) (xs.length + 1)) (xs ++ [x]) ∧ ∀ (k : Nat) (b : Blk), bs[k]? = some (some b) → (∀ c, b ≠ .row t e c) → bs2[k]? = some (some b) := by
  subst he
  have hx := Enc.len x
  have hpos := Enc.pos (α := α)
  have hs : (h.app (bs ++ [some (.row t (Enc.w α) (Enc.cells x))])).src (Enc.w α) (.slice (some ⟨h.next + bs.length, 0, none⟩) 1 1) = some (Enc.cells x) := by
    simp only [AH.src, AH.row?, app_get, List.getElem?_append_right (Nat.le_refl _), Nat.sub_self, List.getElem?_cons_zero, Option.join_some]
    rw [if_neg (by decide), if_pos (by omega), List.drop_zero, List.take_of_length_le (by omega)]
  have ho1 : (Enc.cells x).all one = true := Enc.one x
  rcases o with ⟨rfl, rfl⟩ | ⟨i, rfl, hne, h2⟩
  · refine ⟨(bs ++ [some (Blk.row t (Enc.w α) (Enc.cells x))]) ++ [some (Blk.row t (Enc.w α) (Enc.cells x))], ?_, .inr ⟨bs.length + 1, by simp, by simp, ?_⟩, ?_⟩
    · simp only [app1, hs, lenV, app_new]
      rw [if_neg (by decide), if_pos ⟨by simpa using hb, by simpa using hb2, ho1⟩]
      simp [app_next]
    · rw [List.getElem?_append_right (by simp)]; simp [F]
    · intro k b hk _
      rw [List.append_assoc, List.getElem?_append_left (getElem?_lt hk)]; exact hk
  · have hi := getElem?_lt h2
    have hlen : (F xs).length = xs.length * Enc.w α := F_len
    have hg : (h.app (bs ++ [some (.row t (Enc.w α) (Enc.cells x))])).row? (h.next + i) = some (t, Enc.w α, F xs) := by
      simp only [AH.row?, app_get, List.getElem?_append_left hi, h2]; rfl
    have ht : (F xs).take (xs.length * Enc.w α) = F xs := List.take_of_length_le (by omega)
    refine ⟨((bs ++ [some (Blk.row t (Enc.w α) (Enc.cells x))]) ++ [some (Blk.row t (Enc.w α) (F (xs ++ [x])))]).set i none, ?_, .inr ⟨bs.length + 1, by simp, by simp, ?_⟩, ?_⟩
    · simp only [app1, hs, lenV, hg, ht, app_new]
      have ho : (F xs).all one = true := F_one
      have hro := hw.ro
      rw [if_neg (by decide), if_pos ⟨hb, hb2, ho1⟩, if_pos ⟨by show h.ro ≤ _; omega, trivial, trivial, trivial, by omega, ho⟩, app_put (by simp; omega)]
      simp [app_next, F_append, F]
    · rw [List.getElem?_set, if_neg (by omega), List.getElem?_append_right (by simp)]; simp
    · intro k b hk hbn
      have := getElem?_lt hk
      have hki : k ≠ i := by rintro rfl; rw [h2] at hk; cases hk; exact hbn _ rfl
      rw [List.getElem?_set, if_neg (fun e => hki e.symm), List.append_assoc, List.getElem?_append_left this]; exact hk
theorem OwnG.keep {α : Type} [Enc α] {t : TypeId} {n : Nat} {bs bs' : List (Option Blk)} {v : Value} {xs : List α} (o : OwnG t n bs v xs) (hk : ∀ (i : Nat) (c : List Value), bs[i]? = some (some (.row t (Enc.w α) c)) → bs'[i]? = some (some (.row t (Enc.w α) c))) : OwnG t n bs' v xs := by
  rcases o with o | ⟨i, h1, h2, h3⟩
  · exact .inl o
  · exact .inr ⟨i, h1, h2, hk _ _ h3⟩
theorem OwnG.ret {α : Type} [Enc α] {t : TypeId} {h : AH} {bs : List (Option Blk)} {v : Value} {xs : List α} {T : Tm} (hw : Wf h) (o : OwnG t h.next bs v xs) (hl : xs.length < 4611686018427387904) (h2 : T 2 = v) : Wk h.next (upd TE 2 (L xs)) h T (h.app bs) := by
  rcases o with ⟨rfl, rfl⟩ | ⟨j, rfl, _, hj⟩
  · exact Wk.app0 hw (RVs.upd RVs.nil (by rw [h2]; exact RV.nilL))
  · refine Wk.trans (Wk.frzApp (T0 := upd TE 2 (L xs)) (bs' := List.replicate bs.length none) hw hj (by simp) ?_ ?_) (Wk.app0 hw (RVs.updc RVs.nil L_cl rfl))
    · intro i b0 hi
      rw [List.getElem?_replicate] at hi
      split at hi <;> cases hi
    · intro i
      unfold Go.Proofs.Ythofdojknjhpgaa.upd; split
      · rename_i e; subst e
        rw [h2]
        refine .inr (.inr (.inr ⟨0, xs.length, xs.length, hl, by rw [F_len]; omega, rfl, ?_⟩))
        rw [List.drop_zero, List.take_of_length_le (by rw [F_len]; omega)]
        rfl
      · exact .inl rfl
theorem FVs.updF {B e d : Nat} {cs : List Value} {T0 T : Tm} {v : Value} (k : ∀ i, FV B e cs (T0 i) (T i)) (hv : FV B e cs v (T d)) : ∀ i, FV B e cs (Go.Proofs.Ythofdojknjhpgaa.upd T0 d v i) (T i) := fun i => by
  unfold Go.Proofs.Ythofdojknjhpgaa.upd; split
  · rename_i e1; subst e1; exact hv
  · exact k i
def allTo (ls : Nat → List (Int × Int)) : Nat → List Ordr
  | 0 => []
  | r + 1 => allTo ls r ++ if ls r ≠ [] then [⟨(r : Int), ls r⟩] else []
theorem allTo_len {ls : Nat → List (Int × Int)} : ∀ r, (allTo ls r).length ≤ r
  | 0 => Nat.le_refl _
  | r + 1 => by have := allTo_len (ls := ls) r; rw [allTo, List.length_append]; split <;> simp <;> omega
def ixa1 (n e : Nat) (x i : Value) (h : AH) : Option (Value × AH) := match x, i with
  | .agg cs, .int _ i => if 0 ≤ i ∧ i < n then match cs[i.toNat * e]? with | some v => some (v, h) | none => none else none
  | _, _ => none
theorem run_ixa {n e : Nat} {x i : Opd} {T : Tm} {h : AH} : (I.ixa n e none x i).run T h = ixa1 n e (x.ev T) (i.ev T) h := nr (by simp only [I.run, ixa1]; rfl)
theorem get_last {α : Type} {l : List α} {a : α} : (l ++ [a])[l.length]? = some a := by simp
theorem set_last {α : Type} {l : List α} {a b : α} : (l ++ [a]).set l.length b = l ++ [b] := by
  rw [List.set_append_right _ _ (Nat.le_refl _)]; simp
theorem lt_last {α : Type} {l : List α} {a : α} : l.length < (l ++ [a]).length := by simp
theorem Own144.ext {n a : Nat} {bs l : List (Option Blk)} {cells : List Value} {ls : Nat → List (Int × Int)} (o : Own144 n bs a cells ls) : Own144 n (bs ++ l) a cells ls := by
  refine ⟨o.len, (List.getElem?_append_left (getElem?_lt o.arr)).trans o.arr, fun r hr => ?_, o.inj⟩
  obtain ⟨v, h1, h2⟩ := o.own r hr
  exact ⟨v, h1, h2.keep fun i c hi _ => (List.getElem?_append_left (getElem?_lt hi)).trans hi⟩
theorem own144_start {n : Nat} {cells : List Value} (hc : cells = List.replicate 144 (.slice none 0 0)) : Own144 n [some (.row 133 1 cells)] 0 cells (fun _ => []) := by
  subst hc
  refine ⟨by simp, rfl, fun r hr => ⟨_, by rw [List.getElem?_replicate, if_pos hr], .inl ⟨rfl, rfl⟩⟩, ?_⟩
  intro r r' B x y x' y' h1
  rw [List.getElem?_replicate] at h1
  split at h1 <;> simp at h1
/-- 'all', up to the lists. -/
theorem f61_ok {ps : List (List Stg)} (hp : PathsA ps) : AC Go.Proofs.Try.prog 61 [L ps] h (L (allTo (lsA ps ps.length) 144)) h := by
  have lp := hp.1
  refine AC.wf fun hw => AC.of_app hw L_cl ?_
  refine EC.intro f61_is ?_
  unfold f61_c
  (refine EX.rg (by intro KK hkk; unfold f61_r0; simp only [SX, Nat.reduceEqDiff, ↓reduceIte, Nat.reduceSub, Nat.reduceAdd, Nat.reduceLT, Nat.reduceLeDiff, I.quiet, false_implies, implies_true, -List.reduceReplicate]; exact hkk) ?_)
  (refine EX.rg (by intro KK hkk; unfold f61_r1; simp only [SX, Nat.reduceEqDiff, ↓reduceIte, Nat.reduceSub, Nat.reduceAdd, Nat.reduceLT, Nat.reduceLeDiff, I.quiet, false_implies, implies_true, -List.reduceReplicate, new_app hw]; exact hkk) ?_)
  (refine EX.rg (by intro KK hkk; unfold f61_r2; simp only [SX, Nat.reduceEqDiff, ↓reduceIte, Nat.reduceSub, Nat.reduceAdd, Nat.reduceLT, Nat.reduceLeDiff, I.quiet, false_implies, implies_true, -List.reduceReplicate]; exact hkk) ?_)
  refine EX.nxtR (F := fun T1 H1 => ∃ bs cells, T1 3 = .pointer (some ⟨h.next, 0, none⟩) ∧ H1 = h.app bs ∧ Own144 h.next bs 0 cells (lsA ps ps.length)) ?_ ?_
  · (with_reducible repeat first|apply EX.seq|apply EX.blk)
    refine EX.loop (σ := Nat × List (Option Blk)) (fun s => upd (upd (upd (upd TE 3 (.pointer (some ⟨h.next, 0, none⟩))) 14 (L ps)) 15 (.int .i64 ps.length)) 16 (.int .i64 (s.1 : Nat))) (fun s => h.app s.2)
      (fun s => s.1 ≤ ps.length ∧ ∃ cells, Own144 h.next s.2 0 cells (lsA ps s.1)) (fun s => ps.length - s.1) (0, [some (.row 133 1 (List.replicate 144 (.slice none 0 0)))]) ⟨Nat.zero_le _, _, own144_start rfl⟩ (Less.wk (by (repeat refine Less.upd ?_ (by rfl)); exact Less.nil)) ?_
    rintro ⟨t, bs⟩ ⟨ht, cells, ho⟩
    simp only at ht ho
    (refine EX.rg (by intro KK hkk; unfold f61_r3; simp only [SX, Nat.reduceEqDiff, ↓reduceIte, Nat.reduceSub, Nat.reduceAdd, Nat.reduceLT, Nat.reduceLeDiff, I.quiet, false_implies, implies_true, -List.reduceReplicate, lt_nat]; exact hkk) ?_)
    (with_reducible repeat first|apply EX.seq|apply EX.blk)
    refine EX.dec rfl (fun hlt => ?_) (fun hlt => ?_)
    · (refine EX.skip ?_; (with_reducible repeat first|apply nA|apply nB|apply nC|apply nD|apply nE|apply nF|apply nG (by decide)|apply nH|apply nI|apply nJ))
      obtain ⟨hp1, hp2⟩ := hp.2 ps[t] (List.getElem_mem hlt)
      have hmx := maxL.paths hp t ht
      have hnx : lsA ps (t + 1) = lsP (lsA ps t) t ps[t] ps[t].length := by rw [lsA, rd_eq hlt]
      (refine EX.rg (by intro KK hkk; unfold f61_r4; simp only [SX, Nat.reduceEqDiff, ↓reduceIte, Nat.reduceSub, Nat.reduceAdd, Nat.reduceLT, Nat.reduceLeDiff, I.quiet, false_implies, implies_true, -List.reduceReplicate, hlt, ld1_ef hlt o1l, rd_eq hlt]; exact hkk) ?_)
      generalize ps[t] = p at *
      (refine EX.rg (by intro KK hkk; unfold f61_r5; simp only [SX, Nat.reduceEqDiff, ↓reduceIte, Nat.reduceSub, Nat.reduceAdd, Nat.reduceLT, Nat.reduceLeDiff, I.quiet, false_implies, implies_true, -List.reduceReplicate]; exact hkk) ?_)
      refine EX.cutR (F := fun T1 H1 => ∃ bs2 cells2, T1 3 = .pointer (some ⟨h.next, 0, none⟩) ∧ T1 14 = L ps ∧ T1 15 = .int .i64 ps.length ∧ T1 16 = .int .i64 (t : Nat) ∧ H1 = h.app bs2 ∧ Own144 h.next bs2 0 cells2 (lsP (lsA ps t) t p p.length)) ?_ ?_
      · (with_reducible repeat first|apply EX.seq|apply EX.blk)
        refine EX.loop (σ := Nat × List (Option Blk)) (fun s => upd (upd (upd (upd (upd (upd (upd (upd TE 3 (.pointer (some ⟨h.next, 0, none⟩))) 4 (.int .i64 (t : Nat))) 14 (L ps)) 15 (.int .i64 ps.length)) 16 (.int .i64 (t : Nat))) 21 (L p)) 22 (.int .i64 p.length)) 23 (.int .i64 (s.1 : Nat))) (fun s => h.app s.2)
          (fun s => s.1 ≤ p.length ∧ ∃ cells, Own144 h.next s.2 0 cells (lsP (lsA ps t) t p s.1)) (fun s => p.length - s.1) (0, bs) ⟨Nat.zero_le _, cells, ho⟩ (Less.wk (by (repeat refine Less.upd ?_ (by rfl)); exact Less.nil)) ?_
        rintro ⟨k, bs1⟩ ⟨hk, cells1, ho1⟩
        simp only at hk ho1
        (refine EX.rg (by intro KK hkk; unfold f61_r6; simp only [SX, Nat.reduceEqDiff, ↓reduceIte, Nat.reduceSub, Nat.reduceAdd, Nat.reduceLT, Nat.reduceLeDiff, I.quiet, false_implies, implies_true, -List.reduceReplicate, lt_nat]; exact hkk) ?_)
        (with_reducible repeat first|apply EX.seq|apply EX.blk)
        refine EX.dec rfl (fun hlk => ?_) (fun hlk => ?_)
        · (refine EX.skip ?_; (with_reducible repeat first|apply nA|apply nB|apply nC|apply nD|apply nE|apply nF|apply nG (by decide)|apply nH|apply nI|apply nJ))
          have hg := hp2 p[k] (List.getElem_mem hlk)
          have hmk := hmx.path (t := t) hp2 k hk
          have hnk : lsP (lsA ps t) t p (k + 1) = stgL (lsP (lsA ps t) t p k) ((t : Int), (k : Int)) p[k] := by rw [lsP, rd_eq hlk]
          (refine EX.rg (by intro KK hkk; unfold f61_r7; simp only [SX, Nat.reduceEqDiff, ↓reduceIte, Nat.reduceSub, Nat.reduceAdd, Nat.reduceLT, Nat.reduceLeDiff, I.quiet, false_implies, implies_true, -List.reduceReplicate, hlk, w4s, lds1_ef hlk (show 0 + 4 ≤ Enc.w Stg from Nat.le_refl 4), rd_eq hlk, cells_stg, hw.roi, stAt_all, get_last, set_last, lt_last]; exact hkk) ?_)
          (refine EX.rg (by intro KK hkk; unfold f61_r8; simp only [SX, Nat.reduceEqDiff, ↓reduceIte, Nat.reduceSub, Nat.reduceAdd, Nat.reduceLT, Nat.reduceLeDiff, I.quiet, false_implies, implies_true, -List.reduceReplicate, hw.roi, stAt_all, get_last, set_last, lt_last]; exact hkk) ?_)
          generalize p[k] = g at *
          have hI0 : AllI h (bs1 ++ [some (.row 65 0 [.int .i64 g.sec, L g.pts, .int .i64 g.min, .int .i64 g.not])] ++ [some (.row 48 0 [.int .i64 (t : Nat), .int .i64 (k : Nat)])]) bs1.length (bs1 ++ [some (Blk.row 65 0 [.int .i64 g.sec, L g.pts, .int .i64 g.min, .int .i64 g.not])]).length g ((t : Int), (k : Int)) (lsP (lsA ps t) t p k) :=
            ⟨⟨cells1, by rw [List.append_assoc]; exact ho1.ext⟩, by rw [List.append_assoc, List.getElem?_append_right (Nat.le_refl _)]; simp, get_last⟩
          (with_reducible repeat first|apply EX.seq|apply EX.blk)
          refine f61_r9_ok hw hI0 rfl rfl rfl hg.1.1 hg.1.2 (Nat.le_trans (hmk _) (by omega)) (fun T2 bs2 hT hI2 => ?_)
          have u3 := (hT 3 (.inl (by decide))).trans rfl
          have u4 := (hT 4 (.inl (by decide))).trans rfl
          have u7 := (hT 7 (.inl (by decide))).trans rfl
          have u8 := (hT 8 (.inl (by decide))).trans rfl
          have u14 := (hT 14 (.inl (by decide))).trans rfl
          have u15 := (hT 15 (.inl (by decide))).trans rfl
          have u16 := (hT 16 (.inl (by decide))).trans rfl
          have u21 := (hT 21 (.inl (by decide))).trans rfl
          have u22 := (hT 22 (.inl (by decide))).trans rfl
          have u23 := (hT 23 (.inl (by decide))).trans rfl
          simp only [upd, Nat.reduceEqDiff, reduceIte] at u3 u4 u7 u8 u14 u15 u16 u21 u22 u23
          clear hT hI0
          generalize (bs1 ++ [some (Blk.row 65 0 [.int .i64 g.sec, L g.pts, .int .i64 g.min, .int .i64 g.not])]).length = i8 at *
          generalize bs1.length = i7 at *
          (with_reducible repeat first|apply nA|apply nB|apply nC|apply nD|apply nE|apply nF|apply nG (by decide)|apply nH|apply nI|apply nJ)
          have b7 := hI2.b7
          (refine EX.rg (by intro KK hkk; unfold f61_r10; simp only [SX, Nat.reduceEqDiff, ↓reduceIte, Nat.reduceSub, Nat.reduceAdd, Nat.reduceLT, Nat.reduceLeDiff, I.quiet, false_implies, implies_true, -List.reduceReplicate, u7, b7]; exact hkk) ?_)
          refine EX.cutR (F := fun T1 H1 => ∃ bs3, T1 3 = .pointer (some ⟨h.next, 0, none⟩) ∧ T1 4 = .int .i64 (t : Nat) ∧ T1 14 = L ps ∧ T1 15 = .int .i64 ps.length ∧ T1 16 = .int .i64 (t : Nat) ∧ T1 21 = L p ∧ T1 22 = .int .i64 p.length ∧ T1 23 = .int .i64 (k : Nat) ∧ H1 = h.app bs3 ∧ AllI h bs3 i7 i8 g ((t : Int), (k : Int)) (stgL (lsP (lsA ps t) t p k) ((t : Int), (k : Int)) g)) ?_ ?_
          · (with_reducible repeat first|apply EX.seq|apply EX.blk)
            refine EX.loop (σ := Nat × List (Option Blk)) (fun s => upd (upd (upd (upd (upd (upd (upd (upd (upd (upd (upd (upd TE 3 (.pointer (some ⟨h.next, 0, none⟩))) 4 (.int .i64 (t : Nat))) 8 (.pointer (some ⟨h.next + i8, 0, none⟩))) 14 (L ps)) 15 (.int .i64 ps.length)) 16 (.int .i64 (t : Nat))) 21 (L p)) 22 (.int .i64 p.length)) 23 (.int .i64 (k : Nat))) 42 (L g.pts)) 43 (.int .i64 g.pts.length)) 44 (.int .i64 (s.1 : Nat))) (fun s => h.app s.2)
              (fun s => s.1 ≤ g.pts.length ∧ AllI h s.2 i7 i8 g ((t : Int), (k : Int)) (lsT (addL (lsP (lsA ps t) t p k) g.sec.toNat ((t : Int), (k : Int))) ((t : Int), (k : Int)) g.pts s.1)) (fun s => g.pts.length - s.1) (0, bs2) ⟨Nat.zero_le _, hI2⟩ ?_ ?_
            · refine Less.wk ?_
              refine Less.upd (Less.upd (Less.upd (Less.upd (Less.upd (Less.upd (Less.upd (Less.upd (Less.upd (Less.upd (Less.upd (Less.upd Less.nil ?_) ?_) ?_) ?_) ?_) ?_) ?_) ?_) ?_) ?_) ?_) ?_ <;> simp [upd, u3, u4, u8, u14, u15, u16, u21, u22, u23]
            rintro ⟨j, bs3⟩ ⟨hj, hI3⟩
            simp only at hj hI3
            (refine EX.rg (by intro KK hkk; unfold f61_r11; simp only [SX, Nat.reduceEqDiff, ↓reduceIte, Nat.reduceSub, Nat.reduceAdd, Nat.reduceLT, Nat.reduceLeDiff, I.quiet, false_implies, implies_true, -List.reduceReplicate, lt_nat]; exact hkk) ?_)
            (with_reducible repeat first|apply EX.seq|apply EX.blk)
            refine EX.dec rfl (fun hlj => ?_) (fun hlj => ?_)
            · (refine EX.skip ?_; (with_reducible repeat first|apply nA|apply nB|apply nC|apply nD|apply nE|apply nF|apply nG (by decide)|apply nH|apply nI|apply nJ))
              have hx := hg.2.2 g.pts[j] (List.getElem_mem hlj)
              have hm3 := ((hmk.add (r := g.sec.toNat) (u := ((t : Int), (k : Int)))).pts (u := ((t : Int), (k : Int))) (pts := g.pts) j)
              have hgl := hg.2.1
              (refine EX.rg (by intro KK hkk; unfold f61_r12; simp only [SX, Nat.reduceEqDiff, ↓reduceIte, Nat.reduceSub, Nat.reduceAdd, Nat.reduceLT, Nat.reduceLeDiff, I.quiet, false_implies, implies_true, -List.reduceReplicate, hlj, ld1_ef hlj o1i, rd_eq hlj]; exact hkk) ?_)
              (with_reducible repeat first|apply EX.seq|apply EX.blk)
              refine f61_r13_ok hw hI3 rfl rfl rfl hx.1 hx.2 (Nat.le_trans (hm3 _) (by omega)) (fun T4 bs4 hT hI4 => ?_)
              have w3 := (hT 3 (.inl (by decide))).trans rfl
              have w4 := (hT 4 (.inl (by decide))).trans rfl
              have w8 := (hT 8 (.inl (by decide))).trans rfl
              have w14 := (hT 14 (.inl (by decide))).trans rfl
              have w15 := (hT 15 (.inl (by decide))).trans rfl
              have w16 := (hT 16 (.inl (by decide))).trans rfl
              have w21 := (hT 21 (.inl (by decide))).trans rfl
              have w22 := (hT 22 (.inl (by decide))).trans rfl
              have w23 := (hT 23 (.inl (by decide))).trans rfl
              have w42 := (hT 42 (.inl (by decide))).trans rfl
              have w43 := (hT 43 (.inl (by decide))).trans rfl
              have w44 := (hT 44 (.inl (by decide))).trans rfl
              simp only [upd, Nat.reduceEqDiff, reduceIte] at w3 w4 w8 w14 w15 w16 w21 w22 w23 w42 w43 w44
              (with_reducible repeat first|apply nA|apply nB|apply nC|apply nD|apply nE|apply nF|apply nG (by decide)|apply nH|apply nI|apply nJ)
              (refine EX.rg (by intro KK hkk; unfold f61_r14; simp only [SX, Nat.reduceEqDiff, ↓reduceIte, Nat.reduceSub, Nat.reduceAdd, Nat.reduceLT, Nat.reduceLeDiff, I.quiet, false_implies, implies_true, -List.reduceReplicate, w44, wrap_nat (show j < 4611686018427387904 by omega)]; exact hkk) ?_)
              refine ⟨(j + 1, bs4), ⟨by show j + 1 ≤ _; omega, by rw [lsT, rd_eq hlj]; exact hI4⟩, by show _ - (j + 1) < _ - j; omega, Less.wk ?_⟩
              refine Less.upd (Less.upd (Less.upd (Less.upd (Less.upd (Less.upd (Less.upd (Less.upd (Less.upd (Less.upd (Less.upd (Less.upd Less.nil ?_) ?_) ?_) ?_) ?_) ?_) ?_) ?_) ?_) ?_) ?_) ?_ <;> simp [upd, w3, w4, w8, w14, w15, w16, w21, w22, w23, w42, w43]
            · (refine EX.exit ?_; (with_reducible repeat first|apply nA|apply nB|apply nC|apply nD|apply nE|apply nF|apply nG (by decide)|apply nH|apply nI|apply nJ))
              obtain rfl : j = g.pts.length := by omega
              exact ⟨bs3, rfl, rfl, rfl, rfl, rfl, rfl, rfl, rfl, rfl, hI3⟩
          · rintro T3 H3 ⟨bs3, t3, t4, t14, t15, t16, t21, t22, t23, rfl, ⟨cells3, ho3⟩, _, _⟩
            (with_reducible repeat first|apply nA|apply nB|apply nC|apply nD|apply nE|apply nF|apply nG (by decide)|apply nH|apply nI|apply nJ)
            (refine EX.rg (by intro KK hkk; unfold f61_r15; simp only [SX, Nat.reduceEqDiff, ↓reduceIte, Nat.reduceSub, Nat.reduceAdd, Nat.reduceLT, Nat.reduceLeDiff, I.quiet, false_implies, implies_true, -List.reduceReplicate, t23, wrap_nat (show k < 4611686018427387904 by omega)]; exact hkk) ?_)
            refine ⟨(k + 1, bs3), ⟨by show k + 1 ≤ _; omega, cells3, by rw [hnk]; exact ho3⟩, by show _ - (k + 1) < _ - k; omega, Less.wk ?_⟩
            refine Less.upd (Less.upd (Less.upd (Less.upd (Less.upd (Less.upd (Less.upd (Less.upd Less.nil ?_) ?_) ?_) ?_) ?_) ?_) ?_) ?_ <;> simp [upd, t3, t4, t14, t15, t16, t21, t22]
        · (refine EX.exit ?_; (with_reducible repeat first|apply nA|apply nB|apply nC|apply nD|apply nE|apply nF|apply nG (by decide)|apply nH|apply nI|apply nJ))
          obtain rfl : k = p.length := by omega
          exact ⟨bs1, cells1, rfl, rfl, rfl, rfl, rfl, ho1⟩
      · rintro T1 H1 ⟨bs2, cells2, t3, t14, t15, t16, rfl, ho2⟩
        (with_reducible repeat first|apply nA|apply nB|apply nC|apply nD|apply nE|apply nF|apply nG (by decide)|apply nH|apply nI|apply nJ)
        (refine EX.rg (by intro KK hkk; unfold f61_r16; simp only [SX, Nat.reduceEqDiff, ↓reduceIte, Nat.reduceSub, Nat.reduceAdd, Nat.reduceLT, Nat.reduceLeDiff, I.quiet, false_implies, implies_true, -List.reduceReplicate, t16, wrap_nat (show t < 4611686018427387904 by omega)]; exact hkk) ?_)
        refine ⟨(t + 1, bs2), ⟨by show t + 1 ≤ _; omega, cells2, by rw [hnx]; exact ho2⟩, by show _ - (t + 1) < _ - t; omega, Less.wk ?_⟩
        refine Less.upd (Less.upd (Less.upd (Less.upd Less.nil ?_) ?_) ?_) ?_ <;> simp [upd, t3, t14, t15]
    · (refine EX.exit ?_; (with_reducible repeat first|apply nA|apply nB|apply nC|apply nD|apply nE|apply nF|apply nG (by decide)|apply nH|apply nI|apply nJ))
      obtain rfl : t = ps.length := by omega
      exact ⟨bs, cells, rfl, rfl, ho⟩
  · rintro T1 H1 ⟨bs, cells, t3, rfl, ho⟩
    have hmx := maxL.paths hp ps.length (Nat.le_refl _)
    generalize lsA ps ps.length = ls at *
    have hcl := ho.len
    have l59 : ∀ H : AH, ldsAt 144 (some (.row 133 1 cells)) 0 H = some (.agg cells.toArray, H) := fun H => by
      rw [ldsAt_row (by omega), List.drop_zero, List.take_of_length_le (by omega)]
    (refine EX.rg (by intro KK hkk; unfold f61_r17; simp only [SX, Nat.reduceEqDiff, ↓reduceIte, Nat.reduceSub, Nat.reduceAdd, Nat.reduceLT, Nat.reduceLeDiff, I.quiet, false_implies, implies_true, -List.reduceReplicate]; exact hkk) ?_)
    (refine EX.rg (by intro KK hkk; unfold f61_r18; simp only [SX, Nat.reduceEqDiff, ↓reduceIte, Nat.reduceSub, Nat.reduceAdd, Nat.reduceLT, Nat.reduceLeDiff, I.quiet, false_implies, implies_true, -List.reduceReplicate, t3, ho.arr, l59]; exact hkk) ?_)
    (with_reducible repeat first|apply EX.seq|apply EX.blk)
    refine EX.loop (σ := Nat × List (Option Blk) × Value) (fun s => upd (upd (upd TE 11 s.2.2) 59 (.agg cells.toArray)) 60 (.int .i64 (s.1 : Nat))) (fun s => h.app s.2.1)
      (fun s => s.1 ≤ 144 ∧ OwnG 45 h.next s.2.1 s.2.2 (allTo ls s.1) ∧ ∀ r', s.1 ≤ r' → r' < 144 → ∃ w, cells[r']? = some w ∧ OwnV h.next s.2.1 w (ls r')) (fun s => 144 - s.1) (0, bs, .slice none 0 0) ⟨Nat.zero_le _, .inl ⟨rfl, rfl⟩, fun r' _ h2 => ho.own r' h2⟩ (Less.wk (by (repeat refine Less.upd ?_ (by rfl)); exact Less.nil)) ?_
    rintro ⟨r, bs1, v⟩ ⟨hr, hov, hrest⟩
    simp only at hr hov hrest
    have hlen := allTo_len (ls := ls) r
    have h144 : ((r : Int) < 144) = (r < 144) := by apply propext; omega
    (refine EX.rg (by intro KK hkk; unfold f61_r19; simp only [SX, Nat.reduceEqDiff, ↓reduceIte, Nat.reduceSub, Nat.reduceAdd, Nat.reduceLT, Nat.reduceLeDiff, I.quiet, false_implies, implies_true, -List.reduceReplicate, h144]; exact hkk) ?_)
    (with_reducible repeat first|apply EX.seq|apply EX.blk)
    refine EX.dec rfl (fun hlt => ?_) (fun hlt => ?_)
    · (refine EX.skip ?_; (with_reducible repeat first|apply nA|apply nB|apply nC|apply nD|apply nE|apply nF|apply nG (by decide)|apply nH|apply nI|apply nJ))
      obtain ⟨w, hcw, how⟩ := hrest r (Nat.le_refl _) hlt
      have hix : ixa1 144 1 (.agg cells.toArray) (.int .i64 (r : Nat)) (h.app bs1) = some (w, h.app bs1) := by
        simp only [ixa1, Int.toNat_natCast, Nat.mul_one]
        rw [if_pos (by omega)]
        simp [hcw]
      have hlw : lens1 w (h.app bs1) = some (.int .i64 (ls r).length, h.app bs1) := by
        rcases how with ⟨rfl, hz⟩ | ⟨i, rfl, _⟩
        · rw [hz]; rfl
        · rfl
      (refine EX.rg (by intro KK hkk; unfold f61_r20; simp only [SX, Nat.reduceEqDiff, ↓reduceIte, Nat.reduceSub, Nat.reduceAdd, Nat.reduceLT, Nat.reduceLeDiff, I.quiet, false_implies, implies_true, -List.reduceReplicate, run_ixa, hix]; exact hkk) ?_)
      (refine EX.rg (by intro KK hkk; unfold f61_r21; simp only [SX, Nat.reduceEqDiff, ↓reduceIte, Nat.reduceSub, Nat.reduceAdd, Nat.reduceLT, Nat.reduceLeDiff, I.quiet, false_implies, implies_true, -List.reduceReplicate, hlw]; exact hkk) ?_)
      refine EX.cutR (F := fun T2 H2 => ∃ bs2 v2, T2 11 = v2 ∧ T2 59 = .agg cells.toArray ∧ T2 60 = .int .i64 (r : Nat) ∧ H2 = h.app bs2 ∧ OwnG 45 h.next bs2 v2 (allTo ls (r + 1)) ∧ ∀ r', r + 1 ≤ r' → r' < 144 → ∃ w, cells[r']? = some w ∧ OwnV h.next bs2 w (ls r')) ?_ ?_
      · refine EX.dec rfl (fun hd => ?_) (fun hd => ?_)
        · have hne : ls r ≠ [] := by intro hz; rw [hz] at hd; simp at hd
          rcases how with ⟨rfl, hz⟩ | ⟨i, rfl, _, hi⟩
          · exact absurd hz hne
          have hil := getElem?_lt hi
          have hmr := hmx r
          have hFl : (F (ls r)).length = (ls r).length * 2 := F_len
          refine EX.wk (T0 := upd (upd (upd (upd (upd TE 11 v) 12 (.int .i64 (r : Nat))) 13 (L (ls r))) 59 (.agg cells.toArray)) 60 (.int .i64 (r : Nat))) (h0 := h.app (bs1.set i none)) ?_ (Wk.frzApp (bs' := bs1.set i none) hw hi (by simp) ?_ (FVs.upd (FVs.upd (FVs.updF (FVs.upd (FVs.upd FVs.nil rfl) rfl) (.inr (.inr (.inr ⟨0, (ls r).length, (ls r).length, by omega, by omega, rfl, ?_⟩)))) rfl) rfl))
          · have hov0 : OwnG 45 h.next (bs1.set i none) v (allTo ls r) := hov.keep fun k c hk => by
              rw [List.getElem?_set, if_neg (by rintro rfl; rw [hi] at hk; cases hk)]; exact hk
            have hrest0 : ∀ r', r + 1 ≤ r' → r' < 144 → ∃ w, cells[r']? = some w ∧ OwnV h.next (bs1.set i none) w (ls r') := by
              intro r' h1 h2
              obtain ⟨w', hw', ow'⟩ := hrest r' (by omega) h2
              refine ⟨w', hw', ow'.keep fun k c hk hx => ?_⟩
              obtain ⟨x, y, rfl⟩ := hx
              rw [List.getElem?_set, if_neg (by
                rintro rfl
                have := ho.inj _ _ _ _ _ _ _ hcw hw'
                omega)]
              exact hk
            generalize bs1.set i none = bs0 at *
            obtain ⟨bs2, ap, hov2, keep⟩ := hov0.push (x := (⟨(r : Int), ls r⟩ : Ordr)) (e := 2) (bytes := 32) rfl hw (by omega) (by omega)
            have hce : Enc.cells (⟨(r : Int), ls r⟩ : Ordr) = [.int .i64 (r : Int), L (ls r)] := rfl
            rw [hce] at ap
            refine EX.rg (by intro KK hkk; unfold f61_r22; simp only [SX, Nat.reduceEqDiff, ↓reduceIte, Nat.reduceSub, Nat.reduceAdd, Nat.reduceLT, Nat.reduceLeDiff, I.quiet, false_implies, implies_true, -List.reduceReplicate, fill1_agg, ap]; exact hkk) ?_
            refine ⟨bs2, _, rfl, rfl, rfl, rfl, by rw [allTo, if_pos hne]; exact hov2, fun r' h1 h2 => ?_⟩
            obtain ⟨w', hw', ow'⟩ := hrest0 r' h1 h2
            exact ⟨w', hw', ow'.keep fun k c hk _ => keep _ _ hk (by intro c e; cases e)⟩
          · intro k b0 hk
            rw [List.getElem?_set] at hk
            split at hk
            · cases hk
            · rename_i hne2
              exact ⟨fun e => hne2 e.symm, b0, hk, RB.same fun _ => FV.same⟩
          · rw [List.drop_zero, List.take_of_length_le (by omega)]; rfl
        · refine EX.skip ?_
          (with_reducible repeat first|apply nA|apply nB|apply nC|apply nD|apply nE|apply nF|apply nG (by decide)|apply nH|apply nI|apply nJ)
          have hz : ls r = [] := List.eq_nil_of_length_eq_zero (by omega)
          exact ⟨bs1, v, rfl, rfl, rfl, rfl, by rw [allTo, if_neg (by simp [hz]), List.append_nil]; exact hov, fun r' h1 h2 => hrest r' (by omega) h2⟩
      · rintro T2 H2 ⟨bs2, v2, u11, u59, u60, rfl, hov2, hrest2⟩
        (with_reducible repeat first|apply nA|apply nB|apply nC|apply nD|apply nE|apply nF|apply nG (by decide)|apply nH|apply nI|apply nJ)
        (refine EX.rg (by intro KK hkk; unfold f61_r23; simp only [SX, Nat.reduceEqDiff, ↓reduceIte, Nat.reduceSub, Nat.reduceAdd, Nat.reduceLT, Nat.reduceLeDiff, I.quiet, false_implies, implies_true, -List.reduceReplicate, u60, wrap_nat (show r < 4611686018427387904 by omega)]; exact hkk) ?_)
        refine ⟨(r + 1, bs2, v2), ⟨by show r + 1 ≤ 144; omega, hov2, hrest2⟩, by show 144 - (r + 1) < 144 - r; omega, Less.wk ?_⟩
        refine Less.upd (Less.upd (Less.upd Less.nil ?_) ?_) ?_ <;> simp [upd, u11, u59]
    · (refine EX.exit ?_; (with_reducible repeat first|apply nA|apply nB|apply nC|apply nD|apply nE|apply nF|apply nG (by decide)|apply nH|apply nI|apply nJ))
      obtain rfl : r = 144 := by omega
      (refine EX.rg (by intro KK hkk; unfold f61_r24; simp only [SX, Nat.reduceEqDiff, ↓reduceIte, Nat.reduceSub, Nat.reduceAdd, Nat.reduceLT, Nat.reduceLeDiff, I.quiet, false_implies, implies_true, -List.reduceReplicate]; exact hkk) ?_)
      (with_reducible repeat first|apply EX.seq|apply EX.blk)
      refine EX.wk ?_ (hov.ret hw (by omega) rfl)
      ((with_reducible repeat first|apply EX.seq|apply EX.blk); refine EX.ret ?_; (with_reducible repeat first|apply nA|apply nB|apply nC|apply nD|apply nE|apply nF|apply nG (by decide)|apply nH|apply nI|apply nJ); refine ⟨_, rfl, ?_⟩; simp only [packV, upd, Nat.reduceEqDiff, reduceIte, if_true, if_false, Nat.one_ne_zero, Nat.zero_ne_one])
      exact ⟨trivial, [], (app_nil hw).symm⟩
end
end Go.Proofs.Ythofdojknjhpgaa
