/- The searches of the takeover: the model, and what they write. -/
import Derived.Test.YthofdojknjhpgaaQ10
set_option linter.unusedVariables false
set_option linter.unusedSimpArgs false
namespace Go.Proofs.Ythofdojknjhpgaa
open Go
/-! ### The model -/
def cntTo (ps : List (List Stg)) (xs : List Int) : Nat → Nat
  | 0 => 0
  | i + 1 => cntTo ps xs i + if 0 ≤ secAt ps xs i then 1 else 0
def totTo (xs ex : List Int) : Nat → Int
  | 0 => 0
  | i + 1 => totTo xs ex i + dist (rd xs i) (rd ex i)
def tot (ex xs : List Int) : Int := totTo xs ex xs.length
def okp (ps : List (List Stg)) (occ xs : List Int) (p : Int) : Bool := match ps[xs.length]? with
  | some pa => if 0 ≤ p ∧ p < pa.length then freeB ps occ xs (rd pa p.toNat).sec else true
  | none => true
def plen (ps : List (List Stg)) (t : Nat) : Nat := match ps[t]? with | some pa => pa.length | none => 0
def walk {S : Type} (ok : Int → Bool) (bud : Int) (rec : Int → Nat × S → Bool × Nat × S) : Nat → Nat → Nat × S → Bool × Nat × S
  | 0, _, s => (true, s)
  | m + 1, k, s => if bud < ((s.1 + 1 : Nat) : Int) then (false, s.1 + 1, s.2)
    else if ok ((k : Int) - 1) = true then
      if (rec ((k : Int) - 1) (s.1 + 1, s.2)).1 = true then walk ok bud rec m (k + 1) (rec ((k : Int) - 1) (s.1 + 1, s.2)).2
      else (false, (rec ((k : Int) - 1) (s.1 + 1, s.2)).2)
    else walk ok bud rec m (k + 1) (s.1 + 1, s.2)
def dfs {S : Type} (ps : List (List Stg)) (occ : List Int) (bud : Int) (leaf : List Int → S → S) : Nat → List Int → Nat × S → Bool × Nat × S
  | 0, xs, s => (true, s.1, leaf xs s.2)
  | n + 1, xs, s => walk (okp ps occ xs) bud (fun p s => dfs ps occ bud leaf n (xs ++ [p]) s) (plen ps xs.length + 2) 0 s
/-- What the reference does with a whole assignment: number, sum, the first best. -/
def leafR (ps : List (List Stg)) (ex occ : List Int) (xs : List Int) (s : Nat × Int × List Int) : Nat × Int × List Int :=
  if cntTo ps xs xs.length ≠ occ.length then s
  else if s.1 = 0 ∨ tot ex xs < s.2.1 then (1, tot ex xs, xs)
  else if tot ex xs = s.2.1 then (s.1 + 1, s.2) else s
/-- What the program does with it: sum, the last best, whether there are two. -/
def leafP (ps : List (List Stg)) (ex occ : List Int) (xs : List Int) (s : Int × List Int × Bool) : Int × List Int × Bool :=
  if cntTo ps xs xs.length = occ.length ∧ (s.2.1 = [] ∨ tot ex xs ≤ s.1) then (tot ex xs, xs, decide (s.2.1 ≠ []) && decide (tot ex xs = s.1)) else s
/-- Positions within their paths. -/
def PosP (ps : List (List Stg)) (xs : List Int) : Prop := xs.length ≤ ps.length ∧ ∀ (i : Nat) (x : Int) (p : List Stg), xs[i]? = some x → ps[i]? = some p → -1 ≤ x ∧ x ≤ p.length
theorem PosP.nil {ps : List (List Stg)} : PosP ps [] := ⟨Nat.zero_le _, by simp⟩
theorem PosP.push {ps : List (List Stg)} {xs : List Int} {p : Int} (h : PosP ps xs) (hl : xs.length < ps.length) (h0 : -1 ≤ p) (h1 : p ≤ plen ps xs.length) : PosP ps (xs ++ [p]) := by
  refine ⟨by simp; omega, fun i x pa hi hp => ?_⟩
  by_cases hik : i < xs.length
  · rw [List.getElem?_append_left hik] at hi; exact h.2 i x pa hi hp
  · have hil := (List.getElem?_eq_some_iff.1 hi).1
    simp at hil
    obtain rfl : i = xs.length := by omega
    rw [List.getElem?_append_right (Nat.le_refl _)] at hi
    simp at hi
    subst hi
    simp only [plen, hp] at h1
    exact ⟨h0, h1⟩
theorem goodB_get {ps : List (List Stg)} {xs : List Int} (h : goodB ps xs = true) {t : Nat} (ht : t < ps.length) : ∃ hx : t < xs.length, -1 ≤ xs[t] ∧ xs[t] ≤ ps[t].length := by
  have hl := goodB_len h
  simp only [goodB, Bool.and_eq_true, List.all_eq_true] at h
  have := h.2 t (List.mem_range.2 (by omega))
  rw [goodAt, List.getElem?_eq_getElem (show t < xs.length by omega), List.getElem?_eq_getElem ht] at this
  simp only [Bool.and_eq_true, decide_eq_true_eq] at this
  exact ⟨by omega, this.1, this.2⟩
theorem totTo_bd {ps : List (List Stg)} {xs ex : List Int} (hs : SmallP ps) (hx : PosP ps xs) (he : goodB ps ex = true) : ∀ i, i ≤ xs.length → 0 ≤ totTo xs ex i ∧ totTo xs ex i ≤ i * 1001
  | 0, _ => by simp [totTo]
  | i + 1, hi => by
    obtain ⟨h1, h2⟩ := totTo_bd hs hx he i (by omega)
    have hip : i < ps.length := by have := hx.1; omega
    obtain ⟨g1, g2, g3⟩ := goodB_get he hip
    obtain ⟨q1, q2⟩ := hx.2 i xs[i] ps[i] (List.getElem?_eq_getElem (by omega)) (List.getElem?_eq_getElem hip)
    have hl : ps[i].length ≤ 1000 := (hs.2 _ (List.getElem_mem hip)).1
    have := dist_le q1 q2 g2 g3
    have := dist_nonneg xs[i] ex[i]
    rw [totTo, rd_eq (show i < xs.length by omega), rd_eq g1]
    omega
theorem tot_bd {ps : List (List Stg)} {xs ex : List Int} (hs : SmallP ps) (hx : PosP ps xs) (he : goodB ps ex = true) : 0 ≤ tot ex xs ∧ tot ex xs ≤ 1001000 := by
  have := totTo_bd hs hx he xs.length (Nat.le_refl _)
  have h1 := hs.1; have h2 := hx.1
  unfold tot; omega
theorem rd_app {xs : List Int} {p : Int} {i : Nat} (hi : i < xs.length) : rd (xs ++ [p]) i = rd xs i := by
  rw [rd_eq (by simp; omega), rd_eq hi, List.getElem_append_left hi]
theorem rd_last {xs : List Int} {p : Int} : rd (xs ++ [p]) xs.length = p := by
  rw [rd_eq (by simp)]; simp
theorem totTo_app {xs ex : List Int} {p : Int} : ∀ i, i ≤ xs.length → totTo (xs ++ [p]) ex i = totTo xs ex i
  | 0, _ => rfl
  | i + 1, hi => by rw [totTo, totTo, totTo_app i (by omega), rd_app (by omega)]
theorem tot_push {xs ex : List Int} {p : Int} : tot ex (xs ++ [p]) = tot ex xs + dist p (rd ex xs.length) := by
  unfold tot
  rw [show (xs ++ [p]).length = xs.length + 1 by simp, totTo, totTo_app _ (Nat.le_refl _), rd_last]
theorem secAt_app {ps : List (List Stg)} {xs : List Int} {p : Int} {t : Nat} (ht : t < xs.length) : secAt ps (xs ++ [p]) t = secAt ps xs t := by
  simp [secAt, List.getElem?_append_left ht]
theorem secAt_last {ps : List (List Stg)} {xs : List Int} {p : Int} : secAt ps (xs ++ [p]) xs.length = match ps[xs.length]? with | some pa => if 0 ≤ p ∧ p < pa.length then (rd pa p.toNat).sec else -1 | none => -1 := by
  have : (xs ++ [p])[xs.length]? = some p := by simp
  rw [secAt, this]
  cases hp : ps[xs.length]? with
  | none => rfl
  | some pa =>
    simp only
    by_cases h0 : p < 0
    · rw [if_pos h0, if_neg (by omega)]
    · rw [if_neg h0]
      by_cases h1 : p < pa.length
      · rw [if_pos ⟨by omega, h1⟩, List.getElem?_eq_getElem (show p.toNat < pa.length by omega), rd_eq (show p.toNat < pa.length by omega)]
      · rw [if_neg (by omega), List.getElem?_eq_none (show pa.length ≤ p.toNat by omega)]
/-- The sections that the positions hold, in order. -/
def secTo (ps : List (List Stg)) (xs : List Int) : Nat → List Int
  | 0 => []
  | i + 1 => secTo ps xs i ++ if 0 ≤ secAt ps xs i then [secAt ps xs i] else []
def secL (ps : List (List Stg)) (xs : List Int) : List Int := secTo ps xs xs.length
theorem secTo_len {ps : List (List Stg)} {xs : List Int} : ∀ i, (secTo ps xs i).length = cntTo ps xs i
  | 0 => rfl
  | i + 1 => by rw [secTo, cntTo, List.length_append, secTo_len i]; split <;> rfl
theorem secTo_mem {ps : List (List Stg)} {xs : List Int} {c : Int} : ∀ i, c ∈ secTo ps xs i ↔ 0 ≤ c ∧ ∃ t, t < i ∧ secAt ps xs t = c
  | 0 => by simp [secTo]
  | i + 1 => by
    rw [secTo, List.mem_append, secTo_mem i]
    constructor
    · rintro (⟨h1, t, h2, h3⟩ | h)
      · exact ⟨h1, t, by omega, h3⟩
      · split at h
        · rename_i h0
          obtain rfl := List.mem_singleton.1 h
          exact ⟨h0, i, by omega, rfl⟩
        · cases h
    · rintro ⟨h1, t, h2, h3⟩
      by_cases ht : t = i
      · subst ht; right; subst h3; rw [if_pos h1]; exact List.mem_singleton.2 rfl
      · left; exact ⟨h1, t, by omega, h3⟩
theorem secTo_app {ps : List (List Stg)} {xs : List Int} {p : Int} : ∀ i, i ≤ xs.length → secTo ps (xs ++ [p]) i = secTo ps xs i
  | 0, _ => rfl
  | i + 1, hi => by rw [secTo, secTo, secTo_app i (by omega), secAt_app (by omega)]
theorem secL_push {ps : List (List Stg)} {xs : List Int} {p : Int} : secL ps (xs ++ [p]) = secL ps xs ++ if 0 ≤ secAt ps (xs ++ [p]) xs.length then [secAt ps (xs ++ [p]) xs.length] else [] := by
  unfold secL
  rw [show (xs ++ [p]).length = xs.length + 1 by simp, secTo, secTo_app _ (Nat.le_refl _)]
theorem secL_mem {ps : List (List Stg)} {xs : List Int} {c : Int} : c ∈ secL ps xs ↔ 0 ≤ c ∧ ∃ t, t < xs.length ∧ secAt ps xs t = c := secTo_mem _
theorem secL_neg {ps : List (List Stg)} {xs : List Int} : -1 ∉ secL ps xs := by rw [secL_mem]; omega
theorem freeB_iff {ps : List (List Stg)} {occ xs : List Int} {c : Int} (h0 : 0 ≤ c) : freeB ps occ xs c = (decide (c ∈ occ) && !decide (c ∈ secL ps xs)) := by
  unfold freeB
  congr 1
  rw [Bool.eq_iff_iff]
  simp only [List.all_eq_true, List.mem_range, decide_eq_true_eq, Bool.not_eq_true', decide_eq_false_iff_not, secL_mem]
  constructor
  · rintro h ⟨_, t, h1, h2⟩; exact h t h1 h2
  · rintro h t h1 h2; exact h ⟨h0, t, h1, h2⟩
/-! ### What is written -/
section
variable {h : AH} {n : Nat} {bs : List (Option Blk)} {v vb : Value} {xs best : List Int}
theorem getElem?_lt {α : Type} {l : List α} {i : Nat} {a : α} (hi : l[i]? = some a) : i < l.length := (List.getElem?_eq_some_iff.1 hi).1
/-- The best assignment: nil or a list of its own. -/
def BestV (n : Nat) (bs : List (Option Blk)) (v vb : Value) (best : List Int) : Prop :=
  (vb = .slice none 0 0 ∧ best = []) ∨ ∃ j, vb = .slice (some ⟨n + j, 0, none⟩) best.length best.length ∧ best ≠ [] ∧ bs[j]? = some (some (.row 3 1 (F best))) ∧ ∀ B a b, v = .slice (some ⟨B, 0, none⟩) a b → B ≠ n + j
theorem BestV.one1 (b : BestV n bs v vb best) : one vb = true := by rcases b with ⟨rfl, _⟩ | ⟨j, rfl, _⟩ <;> rfl
theorem BestV.nilEq (b : BestV n bs v vb best) {eqs : List (Nat × Nat)} : vbin .eql 3 eqs vb (.slice none 0 0) = some (.bool (decide (best = []))) := by
  rcases b with ⟨rfl, rfl⟩ | ⟨j, rfl, hn, _⟩
  · rfl
  · rw [decide_eq_false hn]; rfl
theorem BestV.nilNe (b : BestV n bs v vb best) {eqs : List (Nat × Nat)} : vbin .neq 3 eqs vb (.slice none 0 0) = some (.bool (decide (best ≠ []))) := by
  rcases b with ⟨rfl, rfl⟩ | ⟨j, rfl, hn, _⟩
  · rfl
  · rw [decide_eq_true hn]; rfl
theorem AtV.keep {bs' : List (Option Blk)} (a : AtV n bs v xs) (hk : ∀ (i : Nat) (b : List Value), bs[i]? = some (some (.row 3 1 b)) → bs'[i]? = some (some (.row 3 1 b))) : AtV n bs' v xs := by
  rcases a with a | ⟨i, zs, h1, h2, h3⟩
  · exact .inl a
  · exact .inr ⟨i, zs, h1, hk _ _ h2, h3⟩
theorem BestV.keep {bs' : List (Option Blk)} {v' : Value} (a : BestV n bs v vb best) (hk : ∀ (i : Nat) (b : List Value), bs[i]? = some (some (.row 3 1 b)) → (∀ B a b, v = .slice (some ⟨B, 0, none⟩) a b → B ≠ n + i) → bs'[i]? = some (some (.row 3 1 b)) ∧ ∀ B a b, v' = .slice (some ⟨B, 0, none⟩) a b → B ≠ n + i) : BestV n bs' v' vb best := by
  rcases a with a | ⟨j, h1, h2, h3, h4⟩
  · exact .inl a
  · exact .inr ⟨j, h1, h2, (hk _ _ h3 h4).1, (hk _ _ h3 h4).2⟩
/-- The positions are shortened again. -/
theorem AtV.take {t : Nat} (a : AtV h.next bs v xs) (ht : t ≤ xs.length) : ∃ v', sls1 1 v none (some (.int .i64 (t : Nat))) (h.app bs) = some (v', h.app bs) ∧ AtV h.next bs v' (xs.take t) ∧ ∀ B a b, v' = .slice (some ⟨B, 0, none⟩) a b → ∃ a b, v = .slice (some ⟨B, 0, none⟩) a b := by
  rcases a with ⟨rfl, rfl⟩ | ⟨i, zs, rfl, h2, h3⟩
  · simp at ht; subst ht
    exact ⟨_, rfl, .inl ⟨rfl, rfl⟩, by rintro B a b h; cases h⟩
  · refine ⟨.slice (some ⟨h.next + i, 0, none⟩) t t, ?_, .inr ⟨i, zs, ?_, h2, (List.take_prefix _ _).trans h3⟩, ?_⟩
    · simp only [sls1, bnd1, show ¬ ((t : Int) < 0) by omega, AH.row?, app_get, h2, Option.join_some]
      simp [ht]
    · rw [List.length_take, Nat.min_eq_left ht]
    · rintro B a b h; cases h; exact ⟨_, _, rfl⟩
/-- A position is added. -/
theorem AtV.push {x : Int} (hw : Wf h) (a : AtV h.next bs v xs) (hl : xs.length ≤ 1000) : ∃ bs2 : List (Option Blk), app1 3 1 8 v (.slice (some ⟨h.next + bs.length, 0, none⟩) 1 1) (h.app (bs ++ [some (.row 3 1 [.int .i64 x])])) = some (.slice (some ⟨h.next + (bs.length + 1), 0, none⟩) (xs.length + 1) (xs.length + 1), h.app bs2) ∧ bs2.length = bs.length + 2 ∧
    bs2[bs.length + 1]? = some (some (.row 3 1 (F (xs ++ [x])))) ∧ ∀ (k : Nat) (b : Blk), bs[k]? = some (some b) → (∀ B a b, v = .slice (some ⟨B, 0, none⟩) a b → B ≠ h.next + k) → bs2[k]? = some (some b) := by
  have hs : (h.app (bs ++ [some (.row 3 1 [.int .i64 x])])).src 1 (.slice (some ⟨h.next + bs.length, 0, none⟩) 1 1) = some [.int .i64 x] := by
    simp [AH.src, AH.row?, app_get]
  rcases a with ⟨rfl, rfl⟩ | ⟨i, zs, rfl, h2, h3⟩
  · refine ⟨(bs ++ [some (Blk.row 3 1 [.int .i64 x])]) ++ [some (Blk.row 3 1 [.int .i64 x])], ?_, by simp, ?_, ?_⟩
    · simp only [app1, hs, lenV, app_new]
      simp [one, app_next]
    · rw [List.getElem?_append_right (by simp)]; (try simp); (try rfl)
    · intro k b hk _
      rw [List.append_assoc, List.getElem?_append_left (getElem?_lt hk)]; exact hk
  · obtain ⟨r, rfl⟩ := h3
    have hi := getElem?_lt h2
    have hg : (h.app (bs ++ [some (.row 3 1 [.int .i64 x])])).row? (h.next + i) = some (3, 1, F (xs ++ r)) := by
      simp only [AH.row?, app_get, List.getElem?_append_left hi, h2]; rfl
    have ht : (F (xs ++ r)).take (xs.length * 1) = F xs := by
      rw [F_append, List.take_left' (by rw [F_len, w1i])]
    refine ⟨((bs ++ [some (Blk.row 3 1 [.int .i64 x])]) ++ [some (Blk.row 3 1 (F (xs ++ [x])))]).set i none, ?_, by simp, ?_, ?_⟩
    · simp only [app1, hs, lenV, hg, ht, app_new]
      have ho : (F xs).all one = true := F_one
      have e1 : xs.length * 1 ≤ (F (xs ++ r)).length := by rw [F_len, w1i]; simp
      have hro := hw.ro
      rw [if_neg (by decide), if_pos ⟨by omega, by omega, by simp [one]⟩, if_pos ⟨by show h.ro ≤ _; omega, trivial, trivial, trivial, e1, ho⟩, app_put (by simp; omega)]
      simp [app_next, F_append]; rfl
    · rw [List.getElem?_set, if_neg (by omega), List.getElem?_append_right (by simp)]; simp
    · intro k b hk hv
      have := getElem?_lt hk
      have hki : k ≠ i := by rintro rfl; exact hv _ _ _ rfl rfl
      rw [List.getElem?_set, if_neg (fun e => hki e.symm), List.append_assoc, List.getElem?_append_left this]; exact hk
/-- The positions are kept as the best. -/
theorem AtV.copy (a : AtV h.next bs v xs) (hn : xs ≠ []) (hl : xs.length ≤ 1000) : app1 3 1 8 (.slice none 0 0) v (h.app bs) = some (.slice (some ⟨h.next + bs.length, 0, none⟩) xs.length xs.length, h.app (bs ++ [some (.row 3 1 (F xs))])) ∧ ∀ B a b, v = .slice (some ⟨B, 0, none⟩) a b → B ≠ h.next + bs.length := by
  rcases a with ⟨rfl, rfl⟩ | ⟨i, zs, rfl, h2, h3⟩
  · exact absurd rfl hn
  · obtain ⟨r, rfl⟩ := h3
    have h0 : xs.length ≠ 0 := fun e => hn (List.eq_nil_of_length_eq_zero e)
    have ht : (F (xs ++ r)).take (xs.length * 1) = F xs := by
      rw [F_append, List.take_left' (by rw [F_len, w1i])]
    have hs : (h.app bs).src 1 (.slice (some ⟨h.next + i, 0, none⟩) xs.length xs.length) = some (F xs) := by
      simp only [AH.src, AH.row?, app_get, h2, Option.join_some]
      rw [if_neg h0, if_pos (by rw [F_len, w1i]; simp), List.drop_zero, ht]
    constructor
    · have ho : (F xs).all one = true := F_one
      simp only [app1, hs, lenV, app_new]
      rw [if_neg h0, if_pos ⟨by omega, by omega, ho⟩]
      simp [app_next]
    · rintro B a b e; cases e
      have := getElem?_lt h2; omega
end
end Go.Proofs.Ythofdojknjhpgaa
