/- Own texts, merged: a part of the proof that is told in the last text of this claim. -/
import Derived.Test.YthofdojknjhpgaaLawPUG
import Derived.Test.YthofdojknjhpgaaLawPUH
set_option linter.unnecessarySimpa false
set_option linter.unusedSectionVars false
set_option linter.defProp false
set_option linter.unusedVariables false
set_option linter.unusedSimpArgs false
namespace Go.Proofs.Ythofdojknjhpgaa
open Go
/-- The list 'at' of a search: its slice may show less than its row has. -/
def AtV (n : Nat) (bs : List (Option Blk)) (v : Value) (xs : List Int) : Prop :=
  (v = .slice none 0 0 ∧ xs = []) ∨ ∃ (i : Nat) (zs : List Int), v = .slice (some ⟨n + i, 0, none⟩) xs.length xs.length ∧ bs[i]? = some (some (.row 3 1 (F zs))) ∧ xs <+: zs
section
variable {h : AH} {n : Nat} {bs : List (Option Blk)} {v : Value} {xs : List Int}
theorem AtV.one1 (a : AtV n bs v xs) : one v = true := by
  rcases a with ⟨rfl, _⟩ | ⟨i, zs, rfl, _⟩ <;> rfl
theorem AtV.lens (a : AtV n bs v xs) : lens1 v h = some (.int .i64 xs.length, h) := by
  rcases a with ⟨rfl, rfl⟩ | ⟨i, zs, rfl, _⟩ <;> rfl
theorem AtV.ne {t : Nat} (a : AtV n bs v xs) (ht : t < xs.length) : ∃ (i : Nat) (zs : List Int), v = .slice (some ⟨n + i, 0, none⟩) xs.length xs.length ∧ bs[i]? = some (some (.row 3 1 (F zs))) ∧ xs <+: zs := by
  rcases a with ⟨_, rfl⟩ | a
  · cases ht
  · exact a
theorem ias1_sl {B n m : Nat} {k : IntKind} {j : Int} (h0 : 0 ≤ j) (h1 : j.toNat < n) : ias1 1 (.slice (some ⟨B, 0, none⟩) n m) (.int k j) h = some (.pointer (some ⟨B, j.toNat, none⟩), h) := by
  simp [ias1, h0, show j < n by omega]
end
end Go.Proofs.Ythofdojknjhpgaa
set_option linter.unusedVariables false
set_option linter.unusedSimpArgs false
namespace Go.Proofs.Ythofdojknjhpgaa
open Go
def plen (ps : List (List Stg)) (t : Nat) : Nat := match ps[t]? with | some pa => pa.length | none => 0
/-- Positions within their paths. -/
def PosP (ps : List (List Stg)) (xs : List Int) : Prop := xs.length ≤ ps.length ∧ ∀ (i : Nat) (x : Int) (p : List Stg), xs[i]? = some x → ps[i]? = some p → -1 ≤ x ∧ x ≤ p.length
theorem PosP.nil {ps : List (List Stg)} : PosP ps [] := ⟨Nat.zero_le _, by simp⟩
theorem PosP.push {ps : List (List Stg)} {xs : List Int} {p : Int} (h : PosP ps xs) (hl : xs.length < ps.length) (h0 : -1 ≤ p) (h1 : p ≤ plen ps xs.length) : PosP ps (xs ++ [p]) := by
  refine ⟨by simp; omega, fun i x pa hi hp => ?_⟩
  by_cases hik : i < xs.length
  · rw [List.getElem?_append_left hik] at hi; exact h.2 i x pa hi hp
  · have hil := (List.getElem?_eq_some_iff.1 hi).1
    simp at hil
    obtain rfl : i = xs.length := by omega
    rw [List.getElem?_append_right (Nat.le_refl _)] at hi
    simp at hi
    subst hi
    simp only [plen, hp] at h1
    exact ⟨h0, h1⟩
theorem goodB_get {ps : List (List Stg)} {xs : List Int} (h : goodB ps xs = true) {t : Nat} (ht : t < ps.length) : ∃ hx : t < xs.length, -1 ≤ xs[t] ∧ xs[t] ≤ ps[t].length := by
  have hl := goodB_len h
  simp only [goodB, Bool.and_eq_true, List.all_eq_true] at h
  have := h.2 t (List.mem_range.2 (by omega))
  rw [goodAt, List.getElem?_eq_getElem (show t < xs.length by omega), List.getElem?_eq_getElem ht] at this
  simp only [Bool.and_eq_true, decide_eq_true_eq] at this
  exact ⟨by omega, this.1, this.2⟩
section
variable {h : AH} {n : Nat} {bs : List (Option Blk)} {v vb : Value} {xs best : List Int}
theorem getElem?_lt {α : Type} {l : List α} {i : Nat} {a : α} (hi : l[i]? = some a) : i < l.length := (List.getElem?_eq_some_iff.1 hi).1
/-- The best assignment: nil or a list of its own. -/
def BestV (n : Nat) (bs : List (Option Blk)) (v vb : Value) (best : List Int) : Prop :=
  (vb = .slice none 0 0 ∧ best = []) ∨ ∃ j, vb = .slice (some ⟨n + j, 0, none⟩) best.length best.length ∧ best ≠ [] ∧ bs[j]? = some (some (.row 3 1 (F best))) ∧ ∀ B a b, v = .slice (some ⟨B, 0, none⟩) a b → B ≠ n + j
theorem BestV.one1 (b : BestV n bs v vb best) : one vb = true := by rcases b with ⟨rfl, _⟩ | ⟨j, rfl, _⟩ <;> rfl
theorem AtV.keep {bs' : List (Option Blk)} (a : AtV n bs v xs) (hk : ∀ (i : Nat) (b : List Value), bs[i]? = some (some (.row 3 1 b)) → bs'[i]? = some (some (.row 3 1 b))) : AtV n bs' v xs := by
  rcases a with a | ⟨i, zs, h1, h2, h3⟩
  · exact .inl a
  · exact .inr ⟨i, zs, h1, hk _ _ h2, h3⟩
theorem BestV.keep {bs' : List (Option Blk)} {v' : Value} (a : BestV n bs v vb best) (hk : ∀ (i : Nat) (b : List Value), bs[i]? = some (some (.row 3 1 b)) → (∀ B a b, v = .slice (some ⟨B, 0, none⟩) a b → B ≠ n + i) → bs'[i]? = some (some (.row 3 1 b)) ∧ ∀ B a b, v' = .slice (some ⟨B, 0, none⟩) a b → B ≠ n + i) : BestV n bs' v' vb best := by
  rcases a with a | ⟨j, h1, h2, h3, h4⟩
  · exact .inl a
  · exact .inr ⟨j, h1, h2, (hk _ _ h3 h4).1, (hk _ _ h3 h4).2⟩
/-- The positions are shortened again. -/
theorem AtV.take {t : Nat} (a : AtV h.next bs v xs) (ht : t ≤ xs.length) : ∃ v', sls1 1 v none (some (.int .i64 (t : Nat))) (h.app bs) = some (v', h.app bs) ∧ AtV h.next bs v' (xs.take t) ∧ ∀ B a b, v' = .slice (some ⟨B, 0, none⟩) a b → ∃ a b, v = .slice (some ⟨B, 0, none⟩) a b := by
  rcases a with ⟨rfl, rfl⟩ | ⟨i, zs, rfl, h2, h3⟩
  · simp at ht; subst ht
    exact ⟨_, rfl, .inl ⟨rfl, rfl⟩, by rintro B a b h; cases h⟩
  · refine ⟨.slice (some ⟨h.next + i, 0, none⟩) t t, ?_, .inr ⟨i, zs, ?_, h2, (List.take_prefix _ _).trans h3⟩, ?_⟩
    · simp only [sls1, bnd1, show ¬ ((t : Int) < 0) by omega, AH.row?, app_get, h2, Option.join_some]
      simp [ht]
    · rw [List.length_take, Nat.min_eq_left ht]
    · rintro B a b h; cases h; exact ⟨_, _, rfl⟩
/-- A position is added. -/
theorem AtV.push {x : Int} (hw : Wf h) (a : AtV h.next bs v xs) (hl : xs.length ≤ 1000) : ∃ bs2 : List (Option Blk), app1 3 1 8 v (.slice (some ⟨h.next + bs.length, 0, none⟩) 1 1) (h.app (bs ++ [some (.row 3 1 [.int .i64 x])])) = some (.slice (some ⟨h.next + (bs.length + 1), 0, none⟩) (xs.length + 1) (xs.length + 1), h.app bs2) ∧ bs2.length = bs.length + 2 ∧
    bs2[bs.length + 1]? = some (some (.row 3 1 (F (xs ++ [x])))) ∧ ∀ (k : Nat) (b : Blk), bs[k]? = some (some b) → (∀ B a b, v = .slice (some ⟨B, 0, none⟩) a b → B ≠ h.next + k) → bs2[k]? = some (some b) := by
  have hs : (h.app (bs ++ [some (.row 3 1 [.int .i64 x])])).src 1 (.slice (some ⟨h.next + bs.length, 0, none⟩) 1 1) = some [.int .i64 x] := by
    simp [AH.src, AH.row?, app_get]
  rcases a with ⟨rfl, rfl⟩ | ⟨i, zs, rfl, h2, h3⟩
  · refine ⟨(bs ++ [some (Blk.row 3 1 [.int .i64 x])]) ++ [some (Blk.row 3 1 [.int .i64 x])], ?_, by simp, ?_, ?_⟩
    · simp only [app1, hs, lenV, app_new]
      simp [one, app_next]
    · rw [List.getElem?_append_right (by simp)]; (try simp); (try rfl)
    · intro k b hk _
      rw [List.append_assoc, List.getElem?_append_left (getElem?_lt hk)]; exact hk
  · obtain ⟨r, rfl⟩ := h3
    have hi := getElem?_lt h2
    have hg : (h.app (bs ++ [some (.row 3 1 [.int .i64 x])])).row? (h.next + i) = some (3, 1, F (xs ++ r)) := by
      simp only [AH.row?, app_get, List.getElem?_append_left hi, h2]; rfl
    have ht : (F (xs ++ r)).take (xs.length * 1) = F xs := by
      rw [F_append, List.take_left' (by rw [F_len, w1i])]
    refine ⟨((bs ++ [some (Blk.row 3 1 [.int .i64 x])]) ++ [some (Blk.row 3 1 (F (xs ++ [x])))]).set i none, ?_, by simp, ?_, ?_⟩
    · simp only [app1, hs, lenV, hg, ht, app_new]
      have ho : (F xs).all one = true := F_one
      have e1 : xs.length * 1 ≤ (F (xs ++ r)).length := by rw [F_len, w1i]; simp
      have hro := hw.ro
      rw [if_neg (by decide), if_pos ⟨by omega, by omega, by simp [one]⟩, if_pos ⟨by show h.ro ≤ _; omega, trivial, trivial, trivial, e1, ho⟩, app_put (by simp; omega)]
      simp [app_next, F_append]; rfl
    · rw [List.getElem?_set, if_neg (by omega), List.getElem?_append_right (by simp)]; simp
    · intro k b hk hv
      have := getElem?_lt hk
      have hki : k ≠ i := by rintro rfl; exact hv _ _ _ rfl rfl
      rw [List.getElem?_set, if_neg (fun e => hki e.symm), List.append_assoc, List.getElem?_append_left this]; exact hk
/-- The positions are kept as the best. -/
theorem AtV.copy (a : AtV h.next bs v xs) (hn : xs ≠ []) (hl : xs.length ≤ 1000) : app1 3 1 8 (.slice none 0 0) v (h.app bs) = some (.slice (some ⟨h.next + bs.length, 0, none⟩) xs.length xs.length, h.app (bs ++ [some (.row 3 1 (F xs))])) ∧ ∀ B a b, v = .slice (some ⟨B, 0, none⟩) a b → B ≠ h.next + bs.length := by
  rcases a with ⟨rfl, rfl⟩ | ⟨i, zs, rfl, h2, h3⟩
  · exact absurd rfl hn
  · obtain ⟨r, rfl⟩ := h3
    have h0 : xs.length ≠ 0 := fun e => hn (List.eq_nil_of_length_eq_zero e)
    have ht : (F (xs ++ r)).take (xs.length * 1) = F xs := by
      rw [F_append, List.take_left' (by rw [F_len, w1i])]
    have hs : (h.app bs).src 1 (.slice (some ⟨h.next + i, 0, none⟩) xs.length xs.length) = some (F xs) := by
      simp only [AH.src, AH.row?, app_get, h2, Option.join_some]
      rw [if_neg h0, if_pos (by rw [F_len, w1i]; simp), List.drop_zero, ht]
    constructor
    · have ho : (F xs).all one = true := F_one
      simp only [app1, hs, lenV, app_new]
      rw [if_neg h0, if_pos ⟨by omega, by omega, ho⟩]
      simp [app_next]
    · rintro B a b e; cases e
      have := getElem?_lt h2; omega
end
end Go.Proofs.Ythofdojknjhpgaa
set_option linter.unusedVariables false
set_option linter.unusedSimpArgs false
namespace Go.Proofs.Ythofdojknjhpgaa
open Go
section
variable {h : AH} {bs : List (Option Blk)} {ps : List (List Stg)} {ex occ xs best : List Int} {s : Nat} {bud : Int} {v vb : Value}
theorem AtV.off {B : Nat} (a : AtV h.next bs v xs) (hB : ∀ cs, bs[B]? ≠ some (some (.row 3 1 cs))) : ∀ C a b, v = .slice (some ⟨C, 0, none⟩) a b → C ≠ h.next + B := by
  rcases a with ⟨rfl, _⟩ | ⟨i, zs, rfl, h2, _⟩
  · rintro C a b e; cases e
  · rintro C a b e; cases e
    intro e
    obtain rfl : i = B := by omega
    exact hB _ h2
end
end Go.Proofs.Ythofdojknjhpgaa
set_option linter.unusedVariables false
set_option linter.unusedSimpArgs false
namespace Go.Proofs.Ythofdojknjhpgaa
open Go
/-- The arguments of a call, told otherwise. -/
theorem AC.wk {P : Program} {f : FuncId} {args args0 : List Value} {h h0 h' : AH} {v : Value} (k : AC P f args0 h0 v h') (hl : args0.length = args.length) (hw : Wk h.next (T0 args0) h0 (T0 args) h) : AC P f args h v h' := by
  intro base w0 φ cargs w hr hv
  have hst : St base w0 φ 0 (T0 args) h { tmps := cargs, defers := [] } w := by
    refine ⟨hr, fun t => ?_, rfl, Nat.zero_le _⟩
    by_cases ht : t < args.length
    · have ht2 : t < cargs.size := by have := hv.1; simp at this; omega
      have := hv.2 t args[t] cargs[t] (List.getElem?_eq_getElem ht) (by simp [ht2])
      simpa [T0, ht, ht2] using this
    · have : T0 args t = .tuple #[] := by simp [T0, List.getElem?_eq_none (Nat.le_of_not_lt ht)]
      rw [this]
      exact .any _
  obtain ⟨φ', a1, a2, a3⟩ := hw base w0 φ 0 _ w (Nat.le_refl _) hst
  have hv' : VRL φ' h0.next args0 cargs.toList := by
    refine ⟨by rw [hl]; exact hv.1, fun i v c h1 h2 => ?_⟩
    have := a3.tr i
    have hi := getElem?_lt h1
    have hc : i < cargs.size := by have := getElem?_lt h2; simpa using this
    rw [Array.getElem?_toList] at h2
    simp only [T0] at this
    rw [List.getD_eq_getElem?_getD, h1] at this
    have e : cargs.getD i undef = c := by
      rw [Array.getD_eq_getD_getElem?, h2]; rfl
    rw [← e]; exact this
  refine (k base w0 φ' cargs w a3.hr hv').mono ?_
  rintro e w' ⟨cv, ψ, rfl, g1, g2, g3, g4⟩
  exact ⟨cv, ψ, rfl, a1.trans g1 a2, Nat.le_trans a2 g2, g3, g4⟩
theorem EX.cutR {P : Program} {m n0 : Nat} {a : IC} {T : Tm} {h : AH} {F : Tm → AH → Prop} {Q : Exit → Tm → AH → Prop} (k1 : EX P m n0 a T h (orQ F Q)) (k2 : ∀ T1 h1, F T1 h1 → Q .normal T1 h1) : EX P m n0 a T h Q := EX.mono k1 (by
  rintro e T1 h1 (⟨rfl, k⟩ | ⟨_, k⟩)
  · exact k2 T1 h1 k
  · exact k)
section
variable {h : AH} {ps : List (List Stg)} {xs : List Int}
end
end Go.Proofs.Ythofdojknjhpgaa
set_option linter.unusedVariables false
set_option linter.unusedSimpArgs false
namespace Go.Proofs.Ythofdojknjhpgaa
open Go
section
variable {h : AH}
/-- A list of one's own, given away. -/
theorem AC.frz {P : Program} {f : FuncId} {args args0 : List Value} {bs : List (Option Blk)} {j : Nat} {xs : List Int} {v : Value} {h' : AH} (hw : Wf h) (hj : bs[j]? = some (some (.row 3 1 (F xs)))) (hl : xs.length < 4611686018427387904) (hlen : args0.length = args.length)
    (ha : ∀ i, T0 args0 i = T0 args i ∨ (T0 args i = .slice (some ⟨h.next + j, 0, none⟩) xs.length xs.length ∧ T0 args0 i = L xs)) (k : AC P f args0 (h.app (bs.set j none)) v h') : AC P f args (h.app bs) v h' := by
  refine k.wk hlen (Wk.freeze (B := h.next + j) (t := 3) (e := 1) (cs := F xs) (by show h.ro ≤ _; have := hw.ro; omega) (by rw [app_get, hj]; rfl) (by rw [app_next, app_next, List.length_set]) rfl (fun i => ?_) ?_)
  · rcases ha i with e | ⟨e1, e2⟩
    · exact .inr (.inl e)
    · refine .inr (.inr (.inr ⟨0, xs.length, xs.length, hl, by rw [F_len, w1i]; omega, e1, ?_⟩))
      rw [e2, List.drop_zero, List.take_of_length_le (by rw [F_len, w1i]; omega)]
      rfl
  · intro C b0 hC
    rcases Nat.lt_or_ge C h.next with h1 | h1
    · rw [app_get_lt h1] at hC
      exact ⟨by omega, b0, by rw [app_get_lt h1]; exact hC, RB.same fun _ => FV.same⟩
    · obtain ⟨i, rfl⟩ : ∃ i, C = h.next + i := ⟨C - h.next, by omega⟩
      rw [app_get] at hC
      have hC' := Option.join_eq_some_iff.1 hC
      rw [List.getElem?_set] at hC'
      split at hC'
      · split at hC' <;> cases hC'
      · rename_i hne
        exact ⟨by omega, b0, by rw [app_get, hC']; rfl, RB.same fun _ => FV.same⟩
end
end Go.Proofs.Ythofdojknjhpgaa
set_option linter.unusedVariables false
set_option linter.unusedSimpArgs false
namespace Go.Proofs.Ythofdojknjhpgaa
open Go
theorem MadeP.ne {ps : List (List Stg)} (h : MadeP ps) : ps ≠ [] := by
  rintro rfl; have := h.1; simp at this
section
variable {h : AH}
end
end Go.Proofs.Ythofdojknjhpgaa
