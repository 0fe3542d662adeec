/- Own texts, merged: a part of the proof that is told in the last text of this claim. -/
import Derived.Test.YthofdojknjhpgaaCMM
set_option linter.unusedVariables false
set_option linter.unusedSimpArgs false
namespace Go.Proofs.Ythofdojknjhpgaa
open Go

/-- A call of function f comes to v and h'. -/
def AC (P : Program) (f : FuncId) (args : List Value) (h : AH) (v : Value) (h' : AH) : Prop :=
  ∀ base w0 φ (cargs : Array Value) w, HR base w0 φ h w → VRL φ h.next args cargs.toList →
    Calls P f cargs w fun e w' => ∃ cv ψ, e = .returned cv ∧ Agr h.next φ ψ ∧ h.next ≤ h'.next ∧ VR ψ h'.next v cv ∧ HR base w0 ψ h' w'

inductive AI where
  | ins (i : I)
  | call (f : FuncId) (args : List Opd)
  | calld (x : Opd) (args : List Opd)
  | callq (f : FuncId) (args : List Opd)
structure AOp where
  dst : Option Nat
  g : Option (Nat × Bool)
  a : AI
def okF (P : Program) (f : FuncId) : Bool := match P.funcs[f]? with | some fn => !(fn.name == "runtime.NumGoroutine") && fn.body.isSome | none => false
def compI (P : Program) (o : Oper) : Option AI :=
  match o.op with
  | .call { callee := .value f, args, argTypes } => match f with
    | .func f => if okF P f then match opds args.toList with | some xs => some (.call f xs) | none => none else none
    | f => match opd f, opds args.toList with | some x, some xs => some (.calld x xs) | _, _ => none
  | _ => match comp P o with | some i => some (.ins i) | none => none
def compG (ops : Array Oper) (o : Oper) : Option (Option (Nat × Bool)) :=
  match o.guard with
  | none => some none
  | some (j, b) => match (ops[j]?).bind (·.dst) with | some t => some (some (t, b)) | none => none
def compA (P : Program) (ops : Array Oper) (o : Oper) : Option AOp :=
  match compG ops o, compI P o with | some g, some a => some ⟨o.dst, g, a⟩ | _, _ => none

def ActS (P : Program) (x : AI) (T : Tm) (h : AH) (v : Value) (h' : AH) : Prop :=
  match x with
  | .ins i => i.run T h = some (v, h')
  | .call f args => AC P f (args.map (·.ev T)) h v h'
  | .calld x args => ∃ f xs cs, x.ev T = .func (.func f) xs cs ∧ okF P f = true ∧ AC P f (xs.toList ++ args.map (·.ev T) ++ cs.toList) h v h'
  | .callq f args => AC P f (args.map (·.ev T)) h v h' ∧ h' = h
def Step (P : Program) (o : AOp) (T : Tm) (h : AH) (v : Value) (h' : AH) : Prop :=
  match o.g with
  | none => ActS P o.a T h v h'
  | some (t, b) => (∃ c, T t = .bool c ∧ ((c = b ∧ ActS P o.a T h v h') ∨ (c ≠ b ∧ v = .chan none ∧ h' = h))) ∨ (T t = .chan none ∧ v = .chan none ∧ h' = h)

section
variable {P : Program} {base : Nat} {w0 : World} {φ : Phi} {h h' : AH} {w : World} {T : Tm} {a : Act} {v : Value}

theorem TR.put {d : Option Nat} {c : Value} {n : Nat} (ht : TR φ n T a) (hv : VR φ n v c) (hd : ∀ t, d = some t → t < a.tmps.size) : TR φ n (updO T d v) (a.put d c) := by
  cases d with
  | none => exact ht
  | some d =>
    intro t
    have hlt := hd d rfl
    simp only [updO, upd, Act.put]
    by_cases e : t = d
    · subst e
      rw [if_pos rfl]
      simpa [hlt] using hv
    · rw [if_neg e]
      have := ht t
      simpa [Array.getElem?_setIfInBounds_ne (Ne.symm e)] using this
theorem call_run {f : FuncId} {cargs : Array Value} (hf : okF P f = true) (w : World) : (callFunc f cargs).run P w = .ok (.enter f cargs) w := by
  unfold okF at hf
  simp only [callFunc, Sem.run_bind, run_program, Result.andThen_ok]
  split at hf
  · rename_i fn hfn
    simp only [Bool.and_eq_true, Bool.not_eq_true'] at hf
    rw [hfn]
    simp only [hf.1, Bool.false_eq_true, if_false]
    rw [if_neg (by cases hb : fn.body <;> simp_all)]
    rfl
  · cases hf
theorem call_ok {o : Oper} {f : FuncId} {args : List Value} {cargs : Array Value} {K : Act → World → Prop} {Q : Exit → Act → World → Prop} (hr : HR base w0 φ h w) (hex : (execOp a.eval o).run P w = .ok (.enter f cargs) w) (hvr : VRL φ h.next args cargs.toList) (hac : AC P f args h v h')
    (hK : ∀ ψ c w', Agr h.next φ ψ → h.next ≤ h'.next → VR ψ h'.next v c → HR base w0 ψ h' w' → K (a.put o.dst c) w') : o.wp P a w K Q := by
  unfold Oper.wp
  rw [hex, Oper.upon_enter]
  refine (hac base w0 φ cargs w hr hvr).mono ?_
  rintro e w' ⟨cv, ψ, rfl, h1, h2, h3, h4⟩
  exact hK ψ cv w' h1 h2 h3 h4
theorem act_ok {o : Oper} {x : AI} {K : Act → World → Prop} {Q : Exit → Act → World → Prop} (hr : HR base w0 φ h w) (ht : TR φ h.next T a) (hc : compI P o = some x) (hs : ActS P x T h v h')
    (hK : ∀ ψ c w', Agr h.next φ ψ → h.next ≤ h'.next → VR ψ h'.next v c → HR base w0 ψ h' w' → K (a.put o.dst c) w') : o.wp P a w K Q := by
  have ins : ∀ i, comp P o = some i → x = .ins i → o.wp P a w K Q := by
    rintro i hi rfl
    obtain ⟨ψ, nx, w', c, h1, h2, h3, h4, h5, h6⟩ := sound hr ht hi hs
    unfold Oper.wp
    rw [h1]
    rcases h2 with rfl | ⟨rfl, rfl⟩
    · exact hK ψ c w' h3 h4 h5 h6
    · exact hK ψ _ w' h3 h4 h5 h6
  obtain ⟨dst, op, type, pos, after, guard⟩ := o
  unfold compI at hc
  split at hc
  · rename_i fo args ts heq
    simp only at heq
    split at hc
    · rename_i f
      split at hc
      · rename_i hf
        split at hc
        · rename_i xs hxs
          cases hc
          have hvr := ht.opds hxs
          have hex : (execOp a.eval { dst, op, type, pos, after, guard }).run P w = .ok (.enter f (#[] ++ args.map a.eval ++ #[])) w := by
            simp only [execOp, heq, resolve, Sem.run_bind, Act.eval, Deferred.ofValue, Sem.run_pure, Result.andThen_ok, invoke]
            exact call_run hf w
          exact call_ok hr hex (by simpa using hvr) hs hK
        · cases hc
      · cases hc
    · rename_i junk hne
      split at hc
      · rename_i x' xs hx hxs
        cases hc
        obtain ⟨f, us, cs, h1, h2, h3⟩ := hs
        have hv := ht.opd hx
        rw [h1] at hv
        have hvr := ht.opds hxs
        cases hfo : a.eval fo with
        | func fn ys ds =>
          rw [hfo] at hv
          cases hv with
          | func _ _ _ _ _ g1 g2 g3 g4 =>
          have hex : (execOp a.eval { dst, op, type, pos, after, guard }).run P w = .ok (.enter f (ys ++ args.map a.eval ++ ds)) w := by
            simp only [execOp, heq, resolve, Sem.run_bind, hfo, Deferred.ofValue, Sem.run_pure, Result.andThen_ok, invoke]
            exact call_run h2 w
          refine call_ok hr hex ?_ h3 hK
          simp only [Array.toList_append, Array.toList_map]
          exact ((VRL.of_arrays g1 g2).append hvr).append (VRL.of_arrays g3 g4)
        | _ => rw [hfo] at hv; cases hv
      · cases hc
  · split at hc
    · rename_i i hi; cases hc; exact ins i hi rfl
    · cases hc
theorem skip_of {n : Nat} {c : Value} (h : VR φ n (.chan none) c) : c = .tuple #[] := by cases h; rfl
theorem wanted_of {ops : Array Oper} {o : Oper} {g : Option (Nat × Bool)} {n : Nat} (ht : TR φ n T a) (hg : compG ops o = some g) :
    (g = none → Region.wanted o (yielded ops a.tmps) = true) ∧ (∀ t b c, g = some (t, b) → T t = .bool c → Region.wanted o (yielded ops a.tmps) = (c == b)) ∧ ∀ t b, g = some (t, b) → T t = .chan none → Region.wanted o (yielded ops a.tmps) = false := by
  unfold compG at hg
  split at hg
  · rename_i hn
    cases hg
    exact ⟨fun _ => by simp [Region.wanted, hn], ⟨fun t b c h => (by cases h), fun t b h => (by cases h)⟩⟩
  · rename_i j b hj
    split at hg
    · rename_i t hd
      cases hg
      refine ⟨fun h => (by cases h), ⟨fun t' b' c h1 h2 => ?_, fun t' b' h1 h2 => ?_⟩⟩
      case refine_2 =>
        cases h1
        have hv := ht t
        rw [h2] at hv
        have hv2 : a.tmps.getD t undef = .tuple #[] := skip_of hv
        have hlt : yielded ops a.tmps j = none := by
          simp only [yielded, hd, Option.bind_some]
          cases hq : a.tmps[t]? with
          | none => rfl
          | some q =>
            have : q = .tuple #[] := by simpa [hq] using hv2
            rw [this]
        simp [Region.wanted, hj, hlt]
      cases h1
      have hv := ht t
      rw [h2] at hv
      have hv2 := bool_of hv
      have hlt : a.tmps[t]? = some (.bool c) := by
        cases hq : a.tmps[t]? with
        | none => simp [hq, undef] at hv2
        | some q => simp [hq] at hv2; rw [hv2]
      simp [Region.wanted, hj, yielded, hd, hlt]
    · cases hg
/-- One operation of a region. -/
theorem step_ok {ops : Array Oper} {o : Oper} {ao : AOp} {K : Act → World → Prop} {Q : Exit → Act → World → Prop} (hr : HR base w0 φ h w) (ht : TR φ h.next T a) (hc : compA P ops o = some ao) (hs : Step P ao T h v h')
    (hK : ∀ ψ c w', Agr h.next φ ψ → h.next ≤ h'.next → VR ψ h'.next v c → HR base w0 ψ h' w' → K (a.put o.dst c) w') :
    if Region.wanted o (yielded ops a.tmps) then o.wp P a w K Q else K (a.put o.dst undef) w := by
  unfold compA at hc
  split at hc
  · rename_i g x hg hx
    cases hc
    have hw := wanted_of ht hg
    unfold Step at hs
    cases g with
    | none =>
      rw [if_pos (hw.1 rfl)]
      exact act_ok hr ht hx hs hK
    | some tb =>
      obtain ⟨t, b⟩ := tb
      rcases hs with ⟨c, h1, h2⟩ | ⟨h1, rfl, rfl⟩
      case inr =>
        rw [hw.2.2 t b rfl h1]
        exact hK φ _ w (Agr.refl _ _) (Nat.le_refl _) .skip hr
      rw [hw.2.1 t b c rfl h1]
      rcases h2 with ⟨rfl, h2⟩ | ⟨hne, rfl, rfl⟩
      · rw [if_pos (by simp)]
        exact act_ok hr ht hx h2 hK
      · rw [if_neg (by simpa using hne)]
        exact hK φ _ w (Agr.refl _ _) (Nat.le_refl _) .skip hr
  · cases hc

/-- A call that is told to leave the heap as it is. -/
def AOp.qt : AOp → AOp
  | ⟨d, g, .call f xs⟩ => ⟨d, g, .callq f xs⟩
  | o => o
def AOp.unq : AOp → AOp
  | ⟨d, g, .callq f xs⟩ => ⟨d, g, .call f xs⟩
  | o => o
theorem unq_dst {o : AOp} : o.unq.dst = o.dst := by
  obtain ⟨d, g, x⟩ := o
  cases x <;> rfl
theorem unq_qt {o : AOp} : o.qt.unq = o.unq := by
  obtain ⟨d, g, x⟩ := o
  cases x <;> rfl
theorem step_unq {o : AOp} (hs : Step P o T h v h') : Step P o.unq T h v h' := by
  obtain ⟨d, g, x⟩ := o
  cases x with
  | callq f xs =>
    unfold Step at hs ⊢
    cases g with
    | none => exact hs.1
    | some tb =>
      rcases hs with ⟨c, h1, h2⟩ | h1
      · refine .inl ⟨c, h1, ?_⟩
        rcases h2 with ⟨h2, h3⟩ | h2
        · exact .inl ⟨h2, h3.1⟩
        · exact .inr h2
      · exact .inr h1
  | _ => exact hs
theorem compI_unq {o : Oper} {x : AI} {d : Option Nat} {g : Option (Nat × Bool)} (hc : compI P o = some x) : AOp.unq ⟨d, g, x⟩ = ⟨d, g, x⟩ := by
  cases x with
  | callq f xs =>
    unfold compI at hc
    split at hc
    · split at hc
      · split at hc
        · split at hc <;> cases hc
        · cases hc
      · split at hc <;> cases hc
    · split at hc <;> cases hc
  | _ => rfl
theorem compA_unq {ops : Array Oper} {o : Oper} {x : AOp} (hc : compA P ops o = some x) : x.unq = x := by
  unfold compA at hc
  split at hc
  · rename_i g a hg ha
    cases hc
    exact compI_unq ha
  · cases hc
def RunOps (P : Program) : List AOp → Tm → AH → Tm → AH → Prop
  | [], T, h, T', h' => T' = T ∧ h' = h
  | o :: os, T, h, T', h' => ∃ v h1, Step P o T h v h1 ∧ RunOps P os (updO T o.dst v) h1 T' h'
def compR (P : Program) (ops : Array Oper) : Option (List AOp) := go ops.toList
  where go : List Oper → Option (List AOp)
  | [] => some []
  | o :: os => match compA P ops o, go os with | some x, some xs => some (x :: xs) | _, _ => none
def dstOk (m : Nat) (os : List AOp) : Bool := os.all fun o => match o.dst with | some d => decide (d < m) | none => true
structure St (base : Nat) (w0 : World) (φ : Phi) (m : Nat) (T : Tm) (h : AH) (a : Act) (w : World) : Prop where
  hr : HR base w0 φ h w
  tr : TR φ h.next T a
  df : a.defers = []
  sz : m ≤ a.tmps.size
theorem compA_dst {ops : Array Oper} {o : Oper} {x : AOp} (hc : compA P ops o = some x) : x.dst = o.dst := by
  unfold compA at hc
  split at hc
  · cases hc; rfl
  · cases hc
theorem run_ops {m : Nat} {ops : Array Oper} {Q : Exit → Act → World → Prop} : ∀ (os : List Oper) (k : Nat) (xs : List AOp) {φ : Phi} {T : Tm} {h : AH} {a : Act} {w : World} {T' : Tm} {h' : AH}, os = ops.toList.drop k → compR.go P ops os = some xs → dstOk m xs = true → St base w0 φ m T h a w → RunOps P xs T h T' h' →
    (∀ ψ a' w', Agr h.next φ ψ → h.next ≤ h'.next → St base w0 ψ m T' h' a' w' → Q .normal a' w') → wpOps P ops Q (List.range' k os.length) a w
  | [], k, xs, φ, T, h, a, w, T', h', _, hc, _, hst, hrun, hQ => by
    simp [compR.go] at hc
    subst hc
    obtain ⟨rfl, rfl⟩ := hrun
    simp only [List.length_nil, List.range'_zero, wpOps]
    exact hQ φ a w (Agr.refl _ _) (Nat.le_refl _) hst
  | o :: os, k, xs, φ, T, h, a, w, T', h', ho, hc, hd, hst, hrun, hQ => by
    simp only [compR.go] at hc
    split at hc
    · rename_i x xs' hx hxs
      cases hc
      obtain ⟨v, h1, hs, hrest⟩ := hrun
      have hok : ops[k]? = some o := by
        have : (ops.toList.drop k)[0]? = some o := by rw [← ho]; rfl
        simpa using this
      have hos : os = ops.toList.drop (k + 1) := by
        have := congrArg List.tail ho
        simpa [List.tail_drop] using this
      have hdst := compA_dst hx
      simp only [dstOk, List.all_cons, Bool.and_eq_true] at hd
      simp only [List.length_cons, List.range'_succ, wpOps, hok]
      have hgo : ∀ ψ c w', Agr h.next φ ψ → h.next ≤ h1.next → VR ψ h1.next v c → HR base w0 ψ h1 w' → wpOps P ops Q (List.range' (k + 1) os.length) (a.put o.dst c) w' := by
        intro ψ c w' g1 g2 g3 g4
        have hsz : (a.put o.dst c).tmps.size = a.tmps.size := by cases hod : o.dst <;> simp [Act.put]
        have hst' : St base w0 ψ m (updO T x.dst v) h1 (a.put o.dst c) w' := by
          refine ⟨g4, ?_, ?_, by rw [hsz]; exact hst.sz⟩
          · rw [hdst]
            refine (hst.tr.mono g1 g2).put g3 fun t ht => ?_
            rw [hdst, ht] at hd
            have := hst.sz
            have := of_decide_eq_true hd.1
            omega
          · cases hod : o.dst <;> simp [Act.put, hst.df]
        exact run_ops os (k + 1) xs' hos hxs hd.2 hst' hrest fun ψ' a' w'' q1 q2 q3 => hQ ψ' a' w'' (g1.trans q1 g2) (by omega) q3
      have := step_ok (Q := Q) (K := wpOps P ops Q (List.range' (k + 1) os.length)) hst.hr hst.tr hx hs hgo
      split at this
      · rename_i hw; rw [if_pos hw]; exact .inl this
      · rename_i hw; rw [if_neg hw]; exact this
    · cases hc
end
end Go.Proofs.Ythofdojknjhpgaa
