/- The plain law of TakeoverFound: what the search finds explains the occupied sections. -/
import Derived.Test.YthofdojknjhpgaaQ17
set_option linter.unusedVariables false
set_option linter.unusedSimpArgs false
namespace Go.Proofs.Ythofdojknjhpgaa
open Go
/-! ### Lists without repetition -/
theorem nodup_le : ∀ {l1 l2 : List Int}, l1.Nodup → (∀ x ∈ l1, x ∈ l2) → l1.length ≤ l2.length
  | [], _, _, _ => Nat.zero_le _
  | x :: l1, l2, hn, hs => by
    obtain ⟨h1, h2⟩ := List.nodup_cons.1 hn
    have hx := hs x (List.mem_cons_self ..)
    have := nodup_le (l2 := l2.erase x) h2 fun y hy => (List.mem_erase_of_ne (by rintro rfl; exact h1 hy)).2 (hs y (List.mem_cons_of_mem _ hy))
    have hlen := List.length_erase_of_mem hx
    have hpos := List.length_pos_of_mem hx
    simp only [List.length_cons]
    omega
theorem nodup_full {l1 l2 : List Int} (hn : l1.Nodup) (hs : ∀ x ∈ l1, x ∈ l2) (hl : l2.length ≤ l1.length) : ∀ x ∈ l2, x ∈ l1 := by
  intro x hx
  by_cases h : x ∈ l1
  · exact h
  · have := nodup_le (l1 := x :: l1) (l2 := l2) (List.nodup_cons.2 ⟨h, hn⟩) (by
      intro y hy
      rcases List.mem_cons.1 hy with rfl | hy
      · exact hx
      · exact hs y hy)
    simp only [List.length_cons] at this
    omega
/-! ### All assignments -/
def enumW (ok : Int → Bool) (sub : Int → List (List Int)) : Nat → Nat → List (List Int)
  | 0, _ => []
  | m + 1, k => (if ok ((k : Int) - 1) = true then sub ((k : Int) - 1) else []) ++ enumW ok sub m (k + 1)
def enum (ps : List (List Stg)) (occ : List Int) : Nat → List Int → List (List Int)
  | 0, xs => [xs]
  | n + 1, xs => enumW (okp ps occ xs) (fun p => enum ps occ n (xs ++ [p])) (plen ps xs.length + 2) 0
def stepB : Nat → Nat
  | 0 => 0
  | n + 1 => 6 * (1 + stepB n)
theorem walk_true {S : Type} {ok : Int → Bool} {bud : Int} {rec : Int → Nat × S → Bool × Nat × S} {sub : Int → List (List Int)} {leaf : List Int → S → S} {c : Nat}
    (hr : ∀ p u s, ((u + c : Nat) : Int) ≤ bud → (rec p (u, s)).1 = true ∧ (rec p (u, s)).2.1 ≤ u + c ∧ (rec p (u, s)).2.2 = (sub p).foldl (fun s y => leaf y s) s) : ∀ (m k u : Nat) (s : S), ((u + m * (1 + c) : Nat) : Int) ≤ bud →
      (walk ok bud rec m k (u, s)).1 = true ∧ (walk ok bud rec m k (u, s)).2.1 ≤ u + m * (1 + c) ∧ (walk ok bud rec m k (u, s)).2.2 = (enumW ok sub m k).foldl (fun s y => leaf y s) s
  | 0, k, u, s, h => ⟨rfl, by simp [walk], rfl⟩
  | m + 1, k, u, s, h => by
    have hm : (m + 1) * (1 + c) = m * (1 + c) + (1 + c) := Nat.succ_mul _ _
    rw [hm] at h ⊢
    simp only [walk, enumW]
    rw [if_neg (by omega)]
    by_cases hok : ok ((k : Int) - 1) = true
    · rw [if_pos hok, if_pos hok]
      obtain ⟨r1, r2, r3⟩ := hr ((k : Int) - 1) (u + 1) s (by omega)
      rw [if_pos r1]
      revert r2 r3
      generalize (rec ((k : Int) - 1) (u + 1, s)).2 = q
      obtain ⟨u2, s2⟩ := q
      intro r2 r3
      simp only at r2 r3
      obtain ⟨w1, w2, w3⟩ := walk_true hr m (k + 1) u2 s2 (by omega)
      refine ⟨w1, by omega, ?_⟩
      rw [w3, List.foldl_append, r3]
    · rw [if_neg hok, if_neg hok]
      obtain ⟨w1, w2, w3⟩ := walk_true hr m (k + 1) (u + 1) s (by omega)
      exact ⟨w1, by omega, w3⟩
theorem dfs_true {S : Type} {ps : List (List Stg)} {occ : List Int} {bud : Int} {leaf : List Int → S → S} (hp : ∀ t, plen ps t ≤ 4) : ∀ (n : Nat) (xs : List Int) (u : Nat) (s : S), ((u + stepB n : Nat) : Int) ≤ bud →
      (dfs ps occ bud leaf n xs (u, s)).1 = true ∧ (dfs ps occ bud leaf n xs (u, s)).2.1 ≤ u + stepB n ∧ (dfs ps occ bud leaf n xs (u, s)).2.2 = (enum ps occ n xs).foldl (fun s y => leaf y s) s
  | 0, xs, u, s, h => ⟨rfl, Nat.le_refl _, rfl⟩
  | n + 1, xs, u, s, h => by
    have hm := hp xs.length
    have h2 : (plen ps xs.length + 2) * (1 + stepB n) ≤ 6 * (1 + stepB n) := Nat.mul_le_mul_right _ (by omega)
    have h3 : stepB (n + 1) = 6 * (1 + stepB n) := rfl
    rw [h3] at h ⊢
    obtain ⟨w1, w2, w3⟩ := walk_true (ok := okp ps occ xs) (bud := bud) (rec := fun p s => dfs ps occ bud leaf n (xs ++ [p]) s) (sub := fun p => enum ps occ n (xs ++ [p])) (leaf := leaf) (c := stepB n) (fun p u s h => dfs_true hp n (xs ++ [p]) u s h) (plen ps xs.length + 2) 0 u s (by omega)
    exact ⟨w1, by simp only [dfs]; omega, w3⟩
theorem mem_enumW {ok : Int → Bool} {sub : Int → List (List Int)} {y : List Int} : ∀ (m k : Nat), y ∈ enumW ok sub m k ↔ ∃ i, i < m ∧ ok (((k + i : Nat) : Int) - 1) = true ∧ y ∈ sub (((k + i : Nat) : Int) - 1)
  | 0, k => by simp [enumW]
  | m + 1, k => by
    rw [enumW, List.mem_append, mem_enumW m (k + 1)]
    constructor
    · rintro (h | ⟨i, h1, h2, h3⟩)
      · split at h
        · rename_i h0; exact ⟨0, by omega, h0, h⟩
        · cases h
      · exact ⟨i + 1, by omega, by rw [show k + (i + 1) = k + 1 + i by omega]; exact h2, by rw [show k + (i + 1) = k + 1 + i by omega]; exact h3⟩
    · rintro ⟨i, h1, h2, h3⟩
      cases i with
      | zero => left; rw [Nat.add_zero] at h2 h3; rw [if_pos h2]; exact h3
      | succ i => right; exact ⟨i, by omega, by rw [show k + 1 + i = k + (i + 1) by omega]; exact h2, by rw [show k + 1 + i = k + (i + 1) by omega]; exact h3⟩
/-- A whole assignment that continues xs, each position allowed. -/
def Ext (ps : List (List Stg)) (occ xs y : List Int) : Prop := y.length = ps.length ∧ xs <+: y ∧ ∀ (t : Nat) (ht : t < y.length), xs.length ≤ t → -1 ≤ y[t] ∧ y[t] ≤ plen ps t ∧ okp ps occ (y.take t) y[t] = true
theorem mem_enum {ps : List (List Stg)} {occ y : List Int} : ∀ (n : Nat) (xs : List Int), n + xs.length = ps.length → (y ∈ enum ps occ n xs ↔ Ext ps occ xs y)
  | 0, xs, hn => by
    rw [enum, List.mem_singleton]
    constructor
    · rintro rfl
      exact ⟨by omega, List.prefix_refl _, fun t h1 h2 => absurd h1 (by omega)⟩
    · rintro ⟨h1, h2, _⟩
      exact (h2.eq_of_length (by omega)).symm
  | n + 1, xs, hn => by
    rw [enum, mem_enumW]
    constructor
    · rintro ⟨i, h1, h2, h3⟩
      rw [Nat.zero_add] at h2 h3
      obtain ⟨e1, e2, e3⟩ := (mem_enum n (xs ++ [(i : Int) - 1]) (by simp; omega)).1 h3
      refine ⟨e1, (List.prefix_append _ _).trans e2, fun t ht hx => ?_⟩
      by_cases e : t = xs.length
      · subst e
        obtain ⟨r, rfl⟩ := e2
        have g1 : (xs ++ [(i : Int) - 1] ++ r)[xs.length] = (i : Int) - 1 := by simp
        have g2 : (xs ++ [(i : Int) - 1] ++ r).take xs.length = xs := by simp
        rw [g1, g2]
        exact ⟨by omega, by omega, h2⟩
      · exact e3 t ht (by simp; omega)
    · rintro ⟨e1, e2, e3⟩
      have hl : xs.length < y.length := by omega
      obtain ⟨q1, q2, q3⟩ := e3 xs.length hl (Nat.le_refl _)
      have ht : y.take xs.length = xs := (List.prefix_iff_eq_take.1 e2).symm
      rw [ht] at q3
      refine ⟨(y[xs.length] + 1).toNat, by omega, ?_, ?_⟩
      · rw [show (((0 + (y[xs.length] + 1).toNat : Nat) : Int) - 1) = y[xs.length] by omega]; exact q3
      · rw [show (((0 + (y[xs.length] + 1).toNat : Nat) : Int) - 1) = y[xs.length] by omega]
        refine (mem_enum n _ (by simp; omega)).2 ⟨e1, ?_, fun t ht2 hx => e3 t ht2 (by simp at hx; omega)⟩
        have := List.take_prefix (xs.length + 1) y
        rwa [List.take_succ_eq_append_getElem hl, ht] at this
theorem enumW_nodup {ok : Int → Bool} {sub : Int → List (List Int)} (hs : ∀ p, (sub p).Nodup) (hd : ∀ p q y, y ∈ sub p → y ∈ sub q → p = q) : ∀ (m k : Nat), (enumW ok sub m k).Nodup
  | 0, k => List.nodup_nil
  | m + 1, k => by
    rw [enumW, List.nodup_append]
    refine ⟨?_, enumW_nodup hs hd m (k + 1), ?_⟩
    · split
      · exact hs _
      · exact List.nodup_nil
    · intro a ha b hb
      rintro rfl
      split at ha
      · obtain ⟨i, _, _, h3⟩ := (mem_enumW m (k + 1)).1 hb
        have := hd _ _ _ ha h3
        omega
      · cases ha
theorem enum_nodup {ps : List (List Stg)} {occ : List Int} : ∀ (n : Nat) (xs : List Int), n + xs.length = ps.length → (enum ps occ n xs).Nodup
  | 0, xs, _ => by rw [enum]; exact List.nodup_cons.2 ⟨List.not_mem_nil, List.nodup_nil⟩
  | n + 1, xs, hn => by
    rw [enum]
    refine enumW_nodup (fun p => enum_nodup n _ (by simp; omega)) ?_ _ _
    intro p q y hp hq
    have h1 := ((mem_enum n _ (by simp; omega)).1 hp).2.1
    have h2 := ((mem_enum n _ (by simp; omega)).1 hq).2.1
    obtain ⟨r1, rfl⟩ := h1
    obtain ⟨r2, h2⟩ := h2
    have := congrArg (fun l => l[xs.length]?) h2
    simp at this
    exact this.symm
/-! ### Sections -/
theorem secsU_mem {ps : List (List Stg)} {xs : List Int} {c : Int} {n : Nat} : c ∈ secsU ps xs n ↔ ∃ r, r < n ∧ heldB ps xs r = true ∧ (r : Int) = c := by
  simp only [secsU, List.mem_map, List.mem_filter, List.mem_range]
  constructor
  · rintro ⟨r, ⟨h1, h2⟩, h3⟩; exact ⟨r, h1, h2, h3⟩
  · rintro ⟨r, h1, h2, h3⟩; exact ⟨r, ⟨h1, h2⟩, h3⟩
theorem secsU_asc {ps : List (List Stg)} {xs : List Int} : ∀ n, (secsU ps xs n).Pairwise (· < ·)
  | 0 => List.Pairwise.nil
  | n + 1 => by
    rw [secsU_succ, List.pairwise_append]
    refine ⟨secsU_asc n, ?_, ?_⟩
    · split
      · exact List.pairwise_singleton _ _
      · exact List.Pairwise.nil
    · intro a ha b hb
      obtain ⟨r, h1, _, rfl⟩ := secsU_mem.1 ha
      split at hb
      · obtain rfl := List.mem_singleton.1 hb; omega
      · cases hb
theorem asc_nodup {l : List Int} (h : l.Pairwise (· < ·)) : l.Nodup := h.imp fun h => by intro e; omega
theorem secTo_nodup {ps : List (List Stg)} {y : List Int} (hd : ∀ t u, u < t → t < y.length → 0 ≤ secAt ps y t → secAt ps y u ≠ secAt ps y t) : ∀ i, i ≤ y.length → (secTo ps y i).Nodup
  | 0, _ => List.nodup_nil
  | i + 1, hi => by
    rw [secTo, List.nodup_append]
    refine ⟨secTo_nodup hd i (by omega), ?_, ?_⟩
    · split
      · exact List.nodup_cons.2 ⟨List.not_mem_nil, List.nodup_nil⟩
      · exact List.nodup_nil
    · intro a ha b hb
      rintro rfl
      split at hb
      · rename_i h0
        obtain rfl := List.mem_singleton.1 hb
        obtain ⟨_, t, h1, h2⟩ := (secTo_mem i).1 ha
        exact hd i t h1 (by omega) h0 h2
      · cases hb
theorem okp_iff {ps : List (List Stg)} {occ y : List Int} (hs : SmallP ps) (hy : y.length = ps.length) {t : Nat} (ht : t < y.length) : okp ps occ (y.take t) y[t] = true ↔ (0 ≤ secAt ps y t → secAt ps y t ∈ occ ∧ ∀ u, u < t → secAt ps y u ≠ secAt ps y t) := by
  have htp : t < ps.length := by omega
  have hl : (y.take t).length = t := by rw [List.length_take]; omega
  have e1 : secAt ps y t = secAt ps (y.take t ++ [y[t]]) t := by
    rw [← List.take_succ_eq_append_getElem ht]
    exact (pre_sec (List.take_prefix _ _) (by rw [List.length_take]; omega))
  have hsl := secAt_last (ps := ps) (xs := y.take t) (p := y[t])
  rw [hl, ← e1, List.getElem?_eq_getElem htp] at hsl
  simp only at hsl
  unfold okp
  rw [hl, List.getElem?_eq_getElem htp]
  simp only
  by_cases h1 : 0 ≤ y[t] ∧ y[t] < ps[t].length
  · rw [if_pos h1] at hsl ⊢
    have hj : y[t].toNat < ps[t].length := by omega
    have h0 : 0 ≤ (rd ps[t] y[t].toNat).sec := by rw [rd_eq hj]; exact ((hs.2 _ (List.getElem_mem htp)).2 _ (List.getElem_mem hj)).1
    rw [freeB_iff h0, ← hsl, Bool.and_eq_true, Bool.not_eq_true', decide_eq_true_eq, decide_eq_false_iff_not, secL_mem]
    constructor
    · rintro ⟨k1, k2⟩ _
      refine ⟨k1, fun u hu e => k2 ⟨by omega, u, by omega, ?_⟩⟩
      rw [← e]
      exact (pre_sec (List.take_prefix _ _) (by omega)).symm
    · intro k
      obtain ⟨k1, k2⟩ := k (by omega)
      refine ⟨k1, ?_⟩
      rintro ⟨_, u, hu, e⟩
      refine k2 u (by omega) ?_
      rw [← e]
      exact pre_sec (List.take_prefix _ _) hu
  · rw [if_neg h1] at hsl ⊢
    simp only [true_iff]
    intro h0; omega
theorem dupB_iff {ps : List (List Stg)} {y : List Int} : dupB ps y = false ↔ ∀ t u, t < ps.length → u < t → 0 ≤ secAt ps y t → secAt ps y u ≠ secAt ps y t := by
  unfold dupB dupAt
  simp only [List.any_eq_false, List.mem_range, Bool.and_eq_true, decide_eq_true_eq, List.any_eq_true]
  constructor
  · rintro h t u h1 h2 h3 h4
    exact h t h1 ⟨u, h2, h3, h4.symm⟩
  · rintro h t h1 ⟨u, h2, h3, h4⟩
    exact h t u h1 h2 h3 h4.symm
theorem heldB_iff {ps : List (List Stg)} {y : List Int} {r : Nat} : heldB ps y r = true ↔ ∃ t, t < ps.length ∧ secAt ps y t = (r : Int) := by
  simp only [heldB, List.any_eq_true, List.mem_range, decide_eq_true_eq]
theorem secAt_lt {ps : List (List Stg)} {y : List Int} (hs : SmallP ps) (t : Nat) : secAt ps y t < 8 := by
  unfold secAt
  split
  · rename_i x p h1 h2
    split
    · omega
    · split
      · rename_i g hg
        exact ((hs.2 _ (List.mem_of_getElem? h2)).2 _ (List.mem_of_getElem? hg)).2
      · omega
  · omega
theorem occ_mem {ps : List (List Stg)} {xs : List Int} (hs : SmallP ps) {c : Int} : c ∈ secsU ps xs 8 ↔ 0 ≤ c ∧ ∃ t, t < ps.length ∧ secAt ps xs t = c := by
  rw [secsU_mem]
  constructor
  · rintro ⟨r, h1, h2, rfl⟩
    exact ⟨by omega, heldB_iff.1 h2⟩
  · rintro ⟨h0, t, h1, rfl⟩
    have := secAt_lt hs (y := xs) t
    exact ⟨(secAt ps xs t).toNat, by omega, heldB_iff.2 ⟨t, h1, by omega⟩, by omega⟩
/-! ### What the fold keeps -/
theorem totTo_nonneg {xs ex : List Int} : ∀ i, 0 ≤ totTo xs ex i
  | 0 => by simp [totTo]
  | i + 1 => by have := totTo_nonneg (xs := xs) (ex := ex) i; have := dist_nonneg (rd xs i) (rd ex i); rw [totTo]; omega
theorem totTo_zero {xs ex : List Int} : ∀ i, totTo xs ex i = 0 → ∀ t, t < i → rd xs t = rd ex t
  | 0, _, t, ht => absurd ht (Nat.not_lt_zero _)
  | i + 1, h, t, ht => by
    have h1 := totTo_nonneg (xs := xs) (ex := ex) i
    have h2 := dist_nonneg (rd xs i) (rd ex i)
    rw [totTo] at h
    by_cases e : t = i
    · subst e; exact dist_zero (by omega)
    · exact totTo_zero i (by omega) t (by omega)
theorem totTo_self {xs : List Int} : ∀ i, totTo xs xs i = 0
  | 0 => rfl
  | i + 1 => by rw [totTo, totTo_self i, dist_self]; rfl
theorem tot_zero {xs ex : List Int} (hl : xs.length = ex.length) (h : tot ex xs = 0) : xs = ex := by
  apply List.ext_getElem hl
  intro i h1 h2
  have := totTo_zero _ h i h1
  rwa [rd_eq h1, rd_eq h2] at this
section
variable {ps : List (List Stg)} {ex occ : List Int}
def lf (ps : List (List Stg)) (ex occ : List Int) (s : Nat × Int × List Int) (y : List Int) : Nat × Int × List Int := leafR ps ex occ y s
theorem fold_best {P : List Int → Prop} : ∀ (l : List (List Int)) (s : Nat × Int × List Int), (s.1 ≠ 0 → P s.2.2) → (∀ y ∈ l, cntTo ps y y.length = occ.length → P y) → (l.foldl (lf ps ex occ) s).1 ≠ 0 → P (l.foldl (lf ps ex occ) s).2.2
  | [], s, h, _ => h
  | y :: l, s, h, hy => by
    refine fold_best l _ ?_ fun z hz => hy z (List.mem_cons_of_mem _ hz)
    have hy0 := hy y (List.mem_cons_self ..)
    unfold lf leafR
    split
    · exact h
    · rename_i h1
      split
      · exact fun _ => hy0 (by omega)
      · rename_i h2
        split
        · exact fun _ => h fun e => h2 (.inl e)
        · exact h
theorem fold_pos : ∀ (l : List (List Int)) (s : Nat × Int × List Int), (s.1 ≠ 0 ∨ ∃ y ∈ l, cntTo ps y y.length = occ.length) → (l.foldl (lf ps ex occ) s).1 ≠ 0
  | [], s, h => by
    rcases h with h | ⟨y, hy, _⟩
    · exact h
    · cases hy
  | y :: l, s, h => by
    refine fold_pos l _ ?_
    rcases h with h | ⟨z, hz, hc⟩
    · left
      unfold lf leafR
      split
      · exact h
      · split
        · exact Nat.one_ne_zero
        · split
          · simp
          · exact h
    · rcases List.mem_cons.1 hz with rfl | hz
      · left
        unfold lf leafR
        rw [if_neg (by omega)]
        split
        · exact Nat.one_ne_zero
        · rename_i h2
          split
          · simp
          · exact fun e => h2 (.inl e)
      · exact .inr ⟨z, hz, hc⟩
theorem fold_I1 : ∀ (l : List (List Int)) (s : Nat × Int × List Int), (∀ y ∈ l, cntTo ps y y.length = occ.length → 0 < tot ex y) → (s.1 = 0 ∨ 0 < s.2.1) → ((l.foldl (lf ps ex occ) s).1 = 0 ∨ 0 < (l.foldl (lf ps ex occ) s).2.1)
  | [], s, _, h => h
  | y :: l, s, hy, h => by
    refine fold_I1 l _ (fun z hz => hy z (List.mem_cons_of_mem _ hz)) ?_
    have hy0 := hy y (List.mem_cons_self ..)
    unfold lf leafR
    split
    · exact h
    · split
      · exact .inr (hy0 (by omega))
      · rename_i h2
        split
        · rcases h with h | h
          · exact absurd (.inl h) h2
          · exact .inr h
        · exact h
theorem fold_I3 {b : List Int} : ∀ (l : List (List Int)), (∀ y ∈ l, cntTo ps y y.length = occ.length → 0 < tot ex y) → l.foldl (lf ps ex occ) (1, 0, b) = (1, 0, b)
  | [], _ => rfl
  | y :: l, hy => by
    have hy0 := hy y (List.mem_cons_self ..)
    have : lf ps ex occ (1, 0, b) y = (1, 0, b) := by
      unfold lf leafR
      split
      · rfl
      · have := hy0 (by omega)
        rw [if_neg (by rintro (e | e); exact absurd e Nat.one_ne_zero; (simp only at e; omega)), if_neg (by simp only; omega)]
    rw [List.foldl_cons, this]
    exact fold_I3 l fun z hz => hy z (List.mem_cons_of_mem _ hz)
theorem dfs_enum {bud : Int} (hm : MadeP ps) (hb : 258 ≤ bud) (s : Nat × Int × List Int) : ∃ u, dfs ps occ bud (leafR ps ex occ) ps.length [] (0, s) = (true, u, (enum ps occ ps.length []).foldl (lf ps ex occ) s) := by
  have hp : ∀ t, plen ps t ≤ 4 := by
    intro t
    unfold plen
    split
    · rename_i pa h; exact (hm.2.2 _ (List.mem_of_getElem? h)).2.1
    · omega
  have hst : stepB ps.length ≤ 258 := by
    have h1 := hm.1; have h2 := hm.2.1
    rcases (show ps.length = 1 ∨ ps.length = 2 ∨ ps.length = 3 by omega) with e | e | e <;> rw [e] <;> decide
  obtain ⟨w1, _, w3⟩ := dfs_true (occ := occ) (bud := bud) (leaf := leafR ps ex occ) hp ps.length [] 0 s (by omega)
  refine ⟨(dfs ps occ bud (leafR ps ex occ) ps.length [] (0, s)).2.1, ?_⟩
  apply Prod.ext
  · exact w1
  · apply Prod.ext
    · rfl
    · exact w3
/-- What Identify answers about sections that the trains do hold. -/
theorem ident_found {xs : List Int} (hm : MadeP ps) (hg : goodB ps xs = true) (hd : dupB ps xs = false) :
    (∃ n, ident ps xs (secsU ps xs 8) 1048576 = (xs, n, 0)) ∧
    ∀ ex, ∃ b n e, ident ps ex (secsU ps xs 8) 1048576 = (b, n, e) ∧ (e = 13 ∨ e = 0 ∧ goodB ps b = true ∧ dupB ps b = false ∧ secsU ps b 8 = secsU ps xs 8) := by
  have hs := hm.small
  have hxl := goodB_len hg
  have hasc := secsU_asc (ps := ps) (xs := xs) 8
  have hd' := dupB_iff.1 hd
  have hplen : ∀ (t : Nat) (ht : t < ps.length), plen ps t = ps[t].length := fun t ht => by simp [plen, List.getElem?_eq_getElem ht]
  have hgoodx : ∀ y, Ext ps (secsU ps xs 8) [] y → (goodB ps y = true ∧ dupB ps y = false) := by
    rintro y ⟨e1, _, e3⟩
    refine ⟨goodB_of e1 fun i x p h1 h2 => ?_, dupB_iff.2 fun t u ht hu h0 => ?_⟩
    · have hi := getElem?_lt h1
      have := e3 i hi (Nat.zero_le _)
      obtain ⟨_, h3⟩ := List.getElem?_eq_some_iff.1 h1
      obtain ⟨h5, h6⟩ := List.getElem?_eq_some_iff.1 h2
      rw [h3, hplen i h5, h6] at this
      exact ⟨this.1, this.2.1⟩
    · have := (e3 t (by omega) (Nat.zero_le _)).2.2
      rw [okp_iff hs e1] at this
      exact (this h0).2 u hu
  have hext : Ext ps (secsU ps xs 8) [] xs := by
    refine ⟨hxl, List.nil_prefix, fun t ht _ => ?_⟩
    obtain ⟨_, g1, g2⟩ := goodB_get hg (show t < ps.length by omega)
    refine ⟨g1, by rw [hplen t (by omega)]; exact g2, (okp_iff hs hxl ht).2 fun h0 => ⟨(occ_mem hs).2 ⟨h0, t, by omega, rfl⟩, fun u hu => hd' t u (by omega) hu h0⟩⟩
  have hnodup : ∀ y, y.length = ps.length → dupB ps y = false → (secL ps y).Nodup := fun y hy hdy => secTo_nodup (fun t u hu ht h0 => dupB_iff.1 hdy t u (by omega) hu h0) _ (Nat.le_refl _)
  have hxmem : ∀ c, c ∈ secL ps xs ↔ c ∈ secsU ps xs 8 := fun c => by rw [secL_mem, occ_mem hs, hxl]
  have hcnt : cntTo ps xs xs.length = (secsU ps xs 8).length := by
    rw [← secTo_len]
    exact Nat.le_antisymm (nodup_le (hnodup xs hxl hd) fun c hc => (hxmem c).1 hc) (nodup_le (asc_nodup hasc) fun c hc => (hxmem c).2 hc)
  have hmem : ∀ y, y ∈ enum ps (secsU ps xs 8) ps.length [] ↔ Ext ps (secsU ps xs 8) [] y := fun y => mem_enum _ _ (by simp)
  have hin := (hmem xs).2 hext
  have hnn := enum_nodup (ps := ps) (occ := secsU ps xs 8) ps.length [] (by simp)
  have hfix : ∀ y, y ∈ enum ps (secsU ps xs 8) ps.length [] → cntTo ps y y.length = (secsU ps xs 8).length → goodB ps y = true ∧ dupB ps y = false ∧ secsU ps y 8 = secsU ps xs 8 := by
    intro y hy hc
    have hye := (hmem y).1 hy
    obtain ⟨h1, h2⟩ := hgoodx y hye
    refine ⟨h1, h2, ?_⟩
    have hyl := hye.1
    have hsub : ∀ c ∈ secL ps y, c ∈ secsU ps xs 8 := by
      intro c hc
      obtain ⟨h0, t, ht, rfl⟩ := secL_mem.1 hc
      have := (hye.2.2 t ht (Nat.zero_le _)).2.2
      rw [okp_iff hs hyl ht] at this
      exact (this h0).1
    have hfull := nodup_full (hnodup y hyl h2) hsub (by rw [← hc, ← secTo_len]; exact Nat.le_refl _)
    have heq : ∀ r : Nat, heldB ps y r = heldB ps xs r := by
      intro r
      have a1 : (r : Int) ∈ secL ps y ↔ heldB ps y r = true := by
        rw [secL_mem, heldB_iff, hyl]; exact ⟨fun h => h.2, fun h => ⟨by omega, h⟩⟩
      have a2 : (r : Int) ∈ secL ps xs ↔ heldB ps xs r = true := by
        rw [secL_mem, heldB_iff, hxl]; exact ⟨fun h => h.2, fun h => ⟨by omega, h⟩⟩
      rw [Bool.eq_iff_iff, ← a1, ← a2, hxmem]
      exact ⟨fun h => hsub _ h, fun h => hfull _ h⟩
    unfold secsU
    congr 1
    apply List.filter_congr
    intro r _
    exact heq r
  refine ⟨?_, fun ex => ?_⟩
  · obtain ⟨u, hu⟩ := dfs_enum (ex := xs) (occ := secsU ps xs 8) hm (show (258 : Int) ≤ 1048576 by decide) (0, 0, [])
    obtain ⟨l1, l2, hsp⟩ := List.append_of_mem hin
    rw [hsp] at hu hnn
    have hpos : ∀ y, y ∈ l1 ++ xs :: l2 → y ≠ xs → cntTo ps y y.length = (secsU ps xs 8).length → 0 < tot xs y := by
      intro y hy hne _
      have hyl := ((hmem y).1 (by rw [hsp]; exact hy)).1
      have h0 : 0 ≤ tot xs y := totTo_nonneg _
      have : tot xs y ≠ 0 := fun e => hne (tot_zero (by omega) e)
      omega
    have n1 : xs ∉ l1 := fun h => (List.nodup_append.1 hnn).2.2 xs h xs (List.mem_cons_self ..) rfl
    have n2 : xs ∉ l2 := (List.nodup_cons.1 (List.nodup_append.1 hnn).2.1).1
    have f1 := fold_I1 (ps := ps) (ex := xs) (occ := secsU ps xs 8) l1 (0, 0, []) (fun y hy => hpos y (List.mem_append_left _ hy) (by rintro rfl; exact n1 hy)) (.inl rfl)
    have f2 := fold_I3 (ps := ps) (ex := xs) (occ := secsU ps xs 8) (b := xs) l2 (fun y hy => hpos y (List.mem_append_right _ (List.mem_cons_of_mem _ hy)) (by rintro rfl; exact n2 hy))
    rw [List.foldl_append, List.foldl_cons] at hu
    have f3 : lf ps xs (secsU ps xs 8) (l1.foldl (lf ps xs (secsU ps xs 8)) (0, 0, [])) xs = (1, 0, xs) := by
      have t0 : tot xs xs = 0 := totTo_self _
      unfold lf leafR
      rw [if_neg (by omega), if_pos (by rw [t0]; exact f1), t0]
    rw [f3, f2] at hu
    refine ⟨(u : Int), ?_⟩
    rw [ident, if_neg (fun e => e hasc), if_neg (by decide), hu]
    rfl
  · obtain ⟨u, hu⟩ := dfs_enum (ex := ex) (occ := secsU ps xs 8) hm (show (258 : Int) ≤ 1048576 by decide) (0, 0, [])
    have f1 := fold_best (ps := ps) (ex := ex) (occ := secsU ps xs 8) (P := fun y => goodB ps y = true ∧ dupB ps y = false ∧ secsU ps y 8 = secsU ps xs 8) (enum ps (secsU ps xs 8) ps.length []) (0, 0, []) (fun e => absurd rfl e) hfix
    have f2 := fold_pos (ps := ps) (ex := ex) (occ := secsU ps xs 8) (enum ps (secsU ps xs 8) ps.length []) (0, 0, []) (.inr ⟨xs, hin, hcnt⟩)
    revert hu f1 f2
    generalize (enum ps (secsU ps xs 8) ps.length []).foldl (lf ps ex (secsU ps xs 8)) (0, 0, []) = r
    obtain ⟨found, sum, best⟩ := r
    intro hu f1 f2
    simp only at f1 f2
    rw [ident, if_neg (fun e => e hasc), if_neg (by decide), hu]
    simp only
    rw [if_neg f2]
    by_cases h1 : 1 < found
    · rw [if_pos h1]; exact ⟨_, _, _, rfl, .inl rfl⟩
    · rw [if_neg h1]; exact ⟨_, _, _, rfl, .inr ⟨rfl, f1 f2⟩⟩
end
end Go.Proofs.Ythofdojknjhpgaa
