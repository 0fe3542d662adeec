/- Own texts, merged: a part of the proof that is told in the last text of this claim. -/
import Derived.Test.YthofdojknjhpgaaCMX
set_option linter.unusedVariables false
set_option linter.unusedSimpArgs false
namespace Go.Proofs.Ythofdojknjhpgaa
open Go
section
variable {T : Tm} {h : AH} {g : Nat}
theorem EX.nxtR {P : Program} {m n0 : Nat} {Q : Exit → Tm → AH → Prop} {K : Tm → AH → Prop} {a : IC} {F : Tm → AH → Prop} (k1 : EX P m n0 a T h (orQ F Q)) (k2 : ∀ T1 h1, F T1 h1 → K T1 h1) : EX P m n0 a T h (nxt K Q) := by
  refine EX.mono k1 ?_
  rintro e T1 h1 (⟨rfl, k⟩ | ⟨hn, k⟩)
  · exact k2 T1 h1 k
  · cases e <;> first | exact absurd rfl hn | exact k
def mup1 (g : Nat) (m k x : Value) (h : AH) : Option (Value × AH) := match m with
  | .map (some B) => match h.map? B with
    | some es => if h.ro ≤ B ∧ one x = true then match veq g k k, mfind g k es 0 with
        | some _, some (some (i, _)) => some (.tuple #[], h.put B (some (.map (es.set i (k, x)))))
        | some _, some none => some (.tuple #[], h.put B (some (.map (es ++ [(k, x)]))))
        | _, _ => none
      else none
    | none => none
  | _ => none
theorem run_mup {m k x : Opd} : (I.mup g m k x).run T h = mup1 g (m.ev T) (k.ev T) (x.ev T) h := nr (by simp only [I.run, mup1]; rfl)
theorem run_lk {m k : Opd} {z : Value} {ok : Bool} : (I.lk g z ok m k).run T h = opt1 (lkV h g z ok (m.ev T) (k.ev T)) h := nr rfl
theorem run_lenm {x : Opd} : (I.lenm x).run T h = opt1 (lenmV h (x.ev T)) h := nr rfl
def del1 (g : Nat) (m k : Value) (h : AH) : Option (Value × AH) := match m with
  | .map (some B) => match h.map? B with
    | some es => if h.ro ≤ B then match veq g k k, mfind g k es 0 with
        | some _, some (some (i, _)) => some (.tuple #[], h.put B (some (.map (es.eraseIdx i))))
        | some _, some none => some (.tuple #[], h)
        | _, _ => none
      else none
    | none => none
  | _ => none
theorem run_del {m k : Opd} : (I.del g m k).run T h = del1 g (m.ev T) (k.ev T) h := nr (by simp only [I.run, del1]; rfl)
theorem map_eraseIdx' {α β : Type} (f : α → β) : ∀ (l : List α) (j : Nat), (l.eraseIdx j).map f = (l.map f).eraseIdx j
  | [], _ => by simp
  | x :: l, 0 => by simp
  | x :: l, j + 1 => by simp [map_eraseIdx' f l j]
/-- Entries with numbers as keys. -/
def mE (K : List (Int × Value)) : List (Value × Value) := K.map fun p => (.int .i64 p.1, p.2)
theorem veq_int {x y : Int} : veq 2 (.int .i64 x) (.int .i64 y) = some (decide (x = y)) := by
  have : (x == y) = decide (x = y) := by cases hd : decide (x = y) <;> simp_all
  simp only [veq, and_self, if_true, this]
theorem mfind_off {g : Nat} {k : Value} : ∀ {es : List (Value × Value)} {i j : Nat}, mfind g k es (i + j) = (mfind g k es i).map fun r => r.map fun p => (p.1 + j, p.2)
  | [], i, j => rfl
  | (k', v) :: es, i, j => by
    simp only [mfind]
    cases veq g k k' with
    | none => rfl
    | some b => cases b with
      | true => rfl
      | false =>
        have := mfind_off (g := g) (k := k) (es := es) (i := i + 1) (j := j)
        rw [show i + j + 1 = i + 1 + j by omega]; exact this
theorem mfind_mE {x : Int} : ∀ {K : List (Int × Value)}, mfind 2 (.int .i64 x) (mE K) 0 = some (match K.findIdx? (fun p => decide (p.1 = x)) with | none => none | some i => match K[i]? with | some p => some (i, p.2) | none => none)
  | [] => rfl
  | (y, v) :: K => by
    have ih := mfind_mE (x := x) (K := K)
    simp only [mE, List.map_cons, mfind, veq_int, List.findIdx?_cons]
    by_cases hxy : x = y
    · subst hxy; simp
    · have hyx : ¬ y = x := fun e => hxy e.symm
      simp only [hxy, hyx, decide_false]
      have := mfind_off (g := 2) (k := .int .i64 x) (es := mE K) (i := 0) (j := 1)
      simp only [Nat.zero_add] at this
      show mfind 2 _ (mE K) 1 = _
      rw [this, ih]
      cases List.findIdx? (fun p => decide (p.1 = x)) K with
      | none => rfl
      | some i => simp; cases K[i]? <;> rfl
/-- Sets of numbers. -/
def mS (K : List Int) : List (Value × Value) := K.map fun x => (.int .i64 x, .bool true)
def insK (K : List Int) (x : Int) : List Int := if x ∈ K then K else K ++ [x]
theorem mem_insK {K : List Int} {x y : Int} : y ∈ insK K x ↔ y ∈ K ∨ y = x := by
  unfold insK; split
  · rename_i hx
    constructor
    · exact .inl
    · rintro (hy | rfl)
      · exact hy
      · exact hx
  · simp
theorem mS_mE {K : List Int} : mS K = mE (K.map fun x => (x, .bool true)) := by simp [mS, mE]
theorem mS_find {K : List Int} {x : Int} : mfind 2 (.int .i64 x) (mS K) 0 = some (if x ∈ K then some (K.idxOf x, .bool true) else none) := by
  rw [mS_mE, mfind_mE]
  have hf : (K.map fun x => (x, Value.bool true)).findIdx? (fun p => decide (p.1 = x)) = if x ∈ K then some (K.idxOf x) else none := by
    rw [List.findIdx?_map]
    induction K with
    | nil => simp
    | cons y K ih =>
      simp only [List.findIdx?_cons, Function.comp]
      by_cases hy : y = x
      · subst hy; simp
      · have hxy : ¬ x = y := fun e => hy e.symm
        have ih' := ih
        simp only [Function.comp_def] at ih' ⊢
        rw [ih', List.idxOf_cons]
        have hb : (y == x) = false := by simpa using hy
        by_cases hx : x ∈ K <;> simp [hy, hxy, hx, hb]
  rw [hf]
  by_cases hx : x ∈ K
  · have : K.idxOf x < K.length := List.idxOf_lt_length_of_mem hx
    simp [hx, this]
  · simp [hx]
theorem mS_set {K : List Int} {x : Int} (hx : x ∈ K) : (mS K).set (K.idxOf x) (.int .i64 x, .bool true) = mS K := by
  apply List.ext_getElem?
  intro i
  rw [List.getElem?_set]
  split
  · rename_i hi
    subst hi
    have : K.idxOf x < K.length := List.idxOf_lt_length_of_mem hx
    rw [if_pos (by simpa [mS] using this)]
    simp [mS, this]
  · rfl
theorem mup1_set {B : Nat} {K : List Int} {x : Int} (hB : h.get B = some (.map (mS K))) (hr : h.ro ≤ B) : mup1 2 (.map (some B)) (.int .i64 x) (.bool true) h = some (.tuple #[], h.put B (some (.map (mS (insK K x))))) := by
  simp only [mup1, AH.map?, hB, hr, one_bool, and_self, if_true, veq_int, decide_true, mS_find]
  by_cases hx : x ∈ K
  · simp only [hx, if_true, mS_set hx, insK]
  · simp only [hx, if_false, insK]
    simp [mS]
theorem lkV_set {B : Nat} {K : List Int} {x : Int} (hB : h.get B = some (.map (mS K))) : lkV h 2 (.bool false) false (.map (some B)) (.int .i64 x) = some (.bool (decide (x ∈ K))) := by
  simp only [lkV, AH.map?, hB, veq_int, decide_true, mS_find]
  by_cases hx : x ∈ K <;> simp [hx]
theorem lkV_setok {B : Nat} {K : List Int} {x : Int} (hB : h.get B = some (.map (mS K))) : lkV h 2 (.bool false) true (.map (some B)) (.int .i64 x) = some (.tuple #[.bool (decide (x ∈ K)), .bool (decide (x ∈ K))]) := by
  simp only [lkV, AH.map?, hB, veq_int, decide_true, mS_find]
  by_cases hx : x ∈ K <;> simp [hx]
theorem lenmV_set {B : Nat} {K : List Int} (hB : h.get B = some (.map (mS K))) : lenmV h (.map (some B)) = some (.int .i64 K.length) := by
  simp [lenmV, AH.map?, hB, mS]
theorem del1_set {B : Nat} {K : List Int} {x : Int} (hB : h.get B = some (.map (mS K))) (hr : h.ro ≤ B) : del1 2 (.map (some B)) (.int .i64 x) h = some (.tuple #[], h.put B (some (.map (mS (K.erase x))))) := by
  have hself : h.put B (some (.map (mS K))) = h := by
    refine ah_ext (fun C => ?_) rfl rfl
    rw [AH.get_put]; split
    · rename_i e; subst e; exact hB.symm
    · rfl
  simp only [del1, AH.map?, hB, hr, if_true, veq_int, decide_true, mS_find]
  by_cases hx : x ∈ K
  · simp only [hx, if_true]
    congr 3
    rw [mS, mS, List.erase_eq_eraseIdx_of_idxOf rfl, ← map_eraseIdx']
  · simp only [hx, if_false, List.erase_of_not_mem hx, hself]
theorem RB.mS {σ : Nat → Nat} {n : Nat} {K : List Int} : RB (RV σ n) (.map (mS K)) (.map (mS K)) := by
  refine ⟨rfl, fun i k0 v0 hi => ⟨v0, hi, ?_⟩⟩
  simp only [Go.Proofs.Ythofdojknjhpgaa.mS, List.getElem?_map] at hi
  cases hq : K[i]? with
  | none => rw [hq] at hi; cases hi
  | some x => rw [hq] at hi; simp at hi; rw [← hi.2]; exact Cl.bool.rv
end
end Go.Proofs.Ythofdojknjhpgaa
