/- Own texts, merged: a part of the proof that is told in the last text of this claim. -/
import Derived.Test.YthofdojknjhpgaaCMN
set_option linter.unusedVariables false
set_option linter.unusedSimpArgs false
namespace Go.Proofs.Ythofdojknjhpgaa
open Go

def Opd.tmps : Opd → List Nat
  | .t n => [n]
  | .c _ => []
def tmpsO : Option Opd → List Nat
  | none => []
  | some x => x.tmps
def I.tmps : I → List Nat
  | .mv x | .box _ _ x | .ld _ x | .nilck x | .un _ x | .cint _ x | .mki _ x | .tas _ _ _ x | .fa _ x | .fld _ _ x | .ext _ x | .lens _ x | .lenm x | .cstr x => x.tmps
  | .pick c a b => c.tmps ++ a.tmps ++ b.tmps
  | .new _ _ _ | .mkm | .lena _ => []
  | .build _ ps | .bsl _ _ _ _ ps => ps.flatMap fun p => p.2.2.tmps
  | .st _ a x | .bin _ _ _ a x | .mks _ _ _ _ a x | .ias _ a x | .iaa _ _ a x | .ixs a x | .ixa _ _ _ a x | .lk _ _ _ a x | .del _ a x | .app _ _ _ a x | .cpy _ a x => a.tmps ++ x.tmps
  | .mkf _ xs ys => xs.flatMap Opd.tmps ++ ys.flatMap Opd.tmps
  | .sls _ x lo hi | .slstr x lo hi | .sla _ _ x lo hi => x.tmps ++ tmpsO lo ++ tmpsO hi
  | .mup _ m k x => m.tmps ++ k.tmps ++ x.tmps
  | .mm _ xs => xs.flatMap Opd.tmps
theorem ev_congr {T T' : Tm} {x : Opd} (h : ∀ t ∈ x.tmps, T t = T' t) : x.ev T = x.ev T' := by
  cases x with
  | t n => exact h n (by simp [Opd.tmps])
  | c v => rfl
theorem bound_congr {T T' : Tm} {d : Nat} {x : Option Opd} (h : ∀ t ∈ tmpsO x, T t = T' t) : bound T d x = bound T' d x := by
  cases x with
  | none => rfl
  | some x => simp only [bound, ev_congr (x := x) h]
theorem fill_congr {T T' : Tm} : ∀ (ps : List (Nat × Nat × Opd)) (zs : List Value), (∀ t ∈ ps.flatMap (fun p => p.2.2.tmps), T t = T' t) → fillL T zs ps = fillL T' zs ps
  | [], zs, _ => rfl
  | (o, s, x) :: ps, zs, h => by
    have hx : x.ev T = x.ev T' := ev_congr fun t ht => h t (by simp [ht])
    have ih := fun zs => fill_congr (T := T) (T' := T') ps zs fun t ht => h t (by simp only [List.flatMap_cons, List.mem_append]; exact .inr ht)
    simp only [fillL, hx, ih]
theorem map_congr' {T T' : Tm} : ∀ (xs : List Opd), (∀ t ∈ xs.flatMap Opd.tmps, T t = T' t) → xs.map (·.ev T) = xs.map (·.ev T')
  | [], _ => rfl
  | x :: xs, h => by
    simp only [List.map_cons]
    rw [ev_congr (x := x) fun t ht => h t (by simp [ht]), map_congr' xs fun t ht => h t (by simp only [List.flatMap_cons, List.mem_append]; exact .inr ht)]
theorem mmL_congr {T T' : Tm} {mx : Bool} {k : IntKind} : ∀ (xs : List Opd) (i : Int), (∀ t ∈ xs.flatMap Opd.tmps, T t = T' t) → mmL mx T k i xs = mmL mx T' k i xs
  | [], _, _ => rfl
  | x :: xs, i, h => by
    have hx : x.ev T = x.ev T' := ev_congr fun t ht => h t (by simp [ht])
    have ih := fun i => mmL_congr (T := T) (T' := T') (mx := mx) (k := k) xs i fun t ht => h t (by simp only [List.flatMap_cons, List.mem_append]; exact .inr ht)
    simp only [mmL, hx, ih]
theorem run_congr {i : I} {T T' : Tm} {h : AH} (hh : ∀ t ∈ i.tmps, T t = T' t) : i.run T h = i.run T' h := by
  cases i with
  | new | mkm | lena => rfl
  | mv x | box _ _ x | nilck x | un _ x | cint _ x | mki _ x | tas _ _ _ x | fa _ x | ext _ x | lenm x | cstr x => simp only [I.run, ev_congr (x := x) hh]
  | ld s x => cases s <;> simp only [I.run, ev_congr (x := x) hh]
  | fld o s x => cases s <;> simp only [I.run, ev_congr (x := x) hh]
  | lens s x => cases s <;> simp only [I.run, ev_congr (x := x) hh]
  | pick c a b =>
    simp only [I.tmps, List.mem_append] at hh
    simp only [I.run, ev_congr (x := c) fun t ht => hh t (.inl (.inl ht)), ev_congr (x := a) fun t ht => hh t (.inl (.inr ht)), ev_congr (x := b) fun t ht => hh t (.inr ht)]
  | build zs ps => simp only [I.run, fill_congr ps zs hh]
  | bsl t e len zs ps => simp only [I.run, fill_congr ps zs hh]
  | st _ a x | bin _ _ _ a x | mks _ _ _ _ a x | ias _ a x | iaa _ _ a x | ixs a x | lk _ _ _ a x | del _ a x | app _ _ _ a x | cpy _ a x =>
    simp only [I.tmps, List.mem_append] at hh
    simp only [I.run, ev_congr (x := a) fun t ht => hh t (.inl ht), ev_congr (x := x) fun t ht => hh t (.inr ht)]
  | ixa _ _ s a x =>
    simp only [I.tmps, List.mem_append] at hh
    cases s <;> simp only [I.run, ev_congr (x := a) fun t ht => hh t (.inl ht), ev_congr (x := x) fun t ht => hh t (.inr ht)]
  | mkf f xs ys =>
    simp only [I.tmps, List.mem_append] at hh
    simp only [I.run, map_congr' xs fun t ht => hh t (.inl ht), map_congr' ys fun t ht => hh t (.inr ht)]
  | sls _ x lo hi | slstr x lo hi | sla _ _ x lo hi =>
    simp only [I.tmps, List.mem_append] at hh
    simp only [I.run, ev_congr (x := x) fun t ht => hh t (.inl (.inl ht)), bound_congr (x := lo) fun t ht => hh t (.inl (.inr ht)), bound_congr (x := hi) fun t ht => hh t (.inr ht)]
  | mup _ m k x =>
    simp only [I.tmps, List.mem_append] at hh
    simp only [I.run, ev_congr (x := m) fun t ht => hh t (.inl (.inl ht)), ev_congr (x := k) fun t ht => hh t (.inl (.inr ht)), ev_congr (x := x) fun t ht => hh t (.inr ht)]
  | mm mx xs =>
    cases xs with
    | nil => rfl
    | cons x xs =>
      have hx : x.ev T = x.ev T' := ev_congr fun t ht => hh t (by simp [I.tmps, ht])
      have ih := fun k i => mmL_congr (T := T) (T' := T') (mx := mx) (k := k) xs i fun t ht => hh t (by simp only [I.tmps, List.flatMap_cons, List.mem_append]; exact .inr ht)
      simp only [I.run, hx, ih]
/-- Does not change the heap. -/
def I.quiet : I → Bool
  | .new _ _ _ | .box _ _ _ | .bsl _ _ _ _ _ | .st _ _ _ | .mkm | .mks _ _ _ _ _ _ | .mup _ _ _ _ | .del _ _ _ | .app _ _ _ _ _ | .cpy _ _ _ => false
  | _ => true
/-- Does not look at the heap. -/
def I.pure : I → Bool
  | .ld _ _ | .lk _ _ _ _ _ | .lenm _ | .sls _ _ _ _ | .sla _ _ _ _ _ => false
  | i => i.quiet
theorem quiet_same {i : I} {T : Tm} {h h' : AH} {v : Value} (hq : i.quiet = true) (hr : i.run T h = some (v, h')) : h' = h := by
  cases i with
  | ld s x => cases s <;> (simp only [I.run] at hr; repeat' split at hr) <;> simp_all
  | fld o s x => cases s <;> (simp only [I.run] at hr; repeat' split at hr) <;> simp_all
  | lens s x => cases s <;> (simp only [I.run] at hr; repeat' split at hr) <;> simp_all
  | ixa _ _ s a x => cases s <;> (simp only [I.run] at hr; repeat' split at hr) <;> simp_all
  | mm mx xs => cases xs <;> (simp only [I.run] at hr; repeat' split at hr) <;> simp_all
  | new | box | bsl | st | mkm | mks | mup | del | app | cpy => simp [I.quiet] at hq
  | _ => (simp only [I.run] at hr; repeat' split at hr) <;> simp_all
theorem pure_any {i : I} {T : Tm} {h h' : AH} {v : Value} (hq : i.pure = true) (hr : i.run T h = some (v, h')) (g : AH) : i.run T g = some (v, g) := by
  cases i with
  | ld => simp [I.pure] at hq
  | lk => simp [I.pure] at hq
  | lenm => simp [I.pure] at hq
  | sls => simp [I.pure] at hq
  | sla => simp [I.pure] at hq
  | new | box | bsl | st | mkm | mks | mup | del | app | cpy => simp [I.pure, I.quiet] at hq
  | fld o s x => cases s <;> (simp only [I.run] at hr ⊢; repeat' split at hr) <;> simp_all
  | lens s x => cases s <;> (simp only [I.run] at hr ⊢; repeat' split at hr) <;> simp_all
  | ixa _ _ s a x => cases s <;> (simp only [I.run] at hr ⊢; repeat' split at hr) <;> simp_all
  | mm mx xs => cases xs <;> (simp only [I.run] at hr ⊢; repeat' split at hr) <;> simp_all
  | _ => (simp only [I.run] at hr ⊢; repeat' split at hr) <;> simp_all

def AI.tmps : AI → List Nat
  | .ins i => i.tmps
  | .call _ xs => xs.flatMap Opd.tmps
  | .calld x xs => x.tmps ++ xs.flatMap Opd.tmps
  | .callq _ xs => xs.flatMap Opd.tmps
def AOp.tmps (o : AOp) : List Nat := o.a.tmps ++ (match o.g with | some (t, _) => [t] | none => [])
def AOp.quiet (o : AOp) : Bool := match o.a with | .ins i => i.quiet | .callq _ _ => true | _ => false
def AOp.pure (o : AOp) : Bool := match o.a with | .ins i => i.pure | _ => false
theorem step_congr {P : Program} {o : AOp} {T T' : Tm} {h h' : AH} {v : Value} (hh : ∀ t ∈ o.tmps, T t = T' t) (hs : Step P o T h v h') : Step P o T' h v h' := by
  obtain ⟨d, g, x⟩ := o
  simp only [AOp.tmps, List.mem_append] at hh
  have act : ActS P x T h v h' → ActS P x T' h v h' := by
    intro ha
    cases x with
    | ins i => simp only [ActS] at ha ⊢; rw [← run_congr (T := T) fun t ht => hh t (.inl ht)]; exact ha
    | call f xs => simp only [ActS] at ha ⊢; rw [← map_congr' (T := T) xs fun t ht => hh t (.inl ht)]; exact ha
    | callq f xs => simp only [ActS] at ha ⊢; rw [← map_congr' (T := T) xs fun t ht => hh t (.inl ht)]; exact ha
    | calld x xs =>
      simp only [AI.tmps, List.mem_append] at hh
      simp only [ActS] at ha ⊢
      rw [← map_congr' (T := T) xs fun t ht => hh t (.inl (.inr ht)), ← ev_congr (T := T) (x := x) fun t ht => hh t (.inl (.inl ht))]
      exact ha
  unfold Step at hs ⊢
  cases g with
  | none => exact act hs
  | some tb =>
    obtain ⟨t, b⟩ := tb
    rcases hs with ⟨c, h1, h2⟩ | ⟨h1, h2⟩
    case inr => exact .inr ⟨by rw [← hh t (.inr (by simp))]; exact h1, h2⟩
    refine .inl ⟨c, by rw [← hh t (.inr (by simp))]; exact h1, ?_⟩
    rcases h2 with ⟨h2, h3⟩ | h2
    · exact .inl ⟨h2, act h3⟩
    · exact .inr h2
theorem step_quiet {P : Program} {o : AOp} {T : Tm} {h h' : AH} {v : Value} (hq : o.quiet = true) (hs : Step P o T h v h') : h' = h := by
  obtain ⟨d, g, x⟩ := o
  cases x with
  | ins i =>
    unfold Step at hs
    cases g with
    | none => exact quiet_same hq hs
    | some tb =>
      rcases hs with ⟨c, h1, h2⟩ | ⟨_, _, h3⟩
      case inr => exact h3
      rcases h2 with ⟨_, h3⟩ | ⟨_, _, h3⟩
      · exact quiet_same hq h3
      · exact h3
  | callq f xs =>
    unfold Step at hs
    cases g with
    | none => exact hs.2
    | some tb =>
      rcases hs with ⟨c, h1, h2⟩ | ⟨_, _, h3⟩
      case inr => exact h3
      rcases h2 with ⟨_, h3⟩ | ⟨_, _, h3⟩
      · exact h3.2
      · exact h3
  | _ => simp [AOp.quiet] at hq
theorem step_pure {P : Program} {o : AOp} {T : Tm} {h h' : AH} {v : Value} (hq : o.pure = true) (hs : Step P o T h v h') (g : AH) : Step P o T g v g := by
  obtain ⟨d, gd, x⟩ := o
  cases x with
  | ins i =>
    unfold Step at hs ⊢
    cases gd with
    | none => exact pure_any hq hs g
    | some tb =>
      rcases hs with ⟨c, h1, h2⟩ | ⟨h1, h2, _⟩
      case inr => exact .inr ⟨h1, h2, rfl⟩
      refine .inl ⟨c, h1, ?_⟩
      rcases h2 with ⟨h2, h3⟩ | ⟨h2, h3, _⟩
      · exact .inl ⟨h2, pure_any hq h3 g⟩
      · exact .inr ⟨h2, h3, rfl⟩
  | _ => simp [AOp.pure] at hq

structure DOp where
  o : AOp
  bk : Nat
  fw : Nat
abbrev Pend := Nat × AOp × Tm × Value
def decP (pd : List Pend) : List Pend := pd.filterMap fun p => if p.1 ≤ 1 then none else some (p.1 - 1, p.2)
def RunD (P : Program) : List DOp → List AH → List Pend → Tm → AH → Tm → AH → Prop
  | [], _, _, T, h, T', h' => T' = T ∧ h' = h
  | d :: os, hs, pd, T, h, T', h' =>
    if d.o.quiet = true then ∃ v, Step P d.o T h v h ∧ (∀ g ∈ hs.take d.bk, Step P d.o T g v g) ∧ RunD P os hs (if d.fw = 0 then pd else (d.fw, d.o, T, v) :: pd) (updO T d.o.dst v) h T' h'
    else ∃ v h1, Step P d.o T h v h1 ∧ h.next ≤ h1.next ∧ (∀ p ∈ pd, Step P p.2.1 p.2.2.1 h1 p.2.2.2 h1) ∧ RunD P os (h :: hs) (decP pd) (updO T d.o.dst v) h1 T' h'
def effs : List DOp → Nat → Nat
  | _, 0 => 0
  | [], _ + 1 => 0
  | d :: os, n + 1 => (if d.o.quiet = true then 0 else 1) + effs os n
theorem effs_nil (n : Nat) : effs [] n = 0 := by cases n <;> rfl
theorem effs_le : ∀ (os : List DOp) (i j : Nat), i ≤ j → effs os i ≤ effs os j
  | os, 0, j, _ => by simp [effs]
  | [], i + 1, j, _ => by simp [effs]
  | d :: os, i + 1, 0, h => by omega
  | d :: os, i + 1, j + 1, h => by simp only [effs]; have := effs_le os i j (by omega); omega
def Dat (P : Program) (os : List DOp) (c : Nat) (Ts : Nat → Tm) (vs : Nat → Value) (H : Nat → AH) : Prop :=
  ∀ i d, os[i]? = some d → Ts (i + 1) = updO (Ts i) d.o.dst (vs i) ∧
    (d.o.quiet = true → ∀ m, c + effs os i ≤ m + d.bk → m ≤ c + effs os i + d.fw → m ≤ c + effs os os.length → Step P d.o (Ts i) (H m) (vs i) (H m)) ∧
    (d.o.quiet = false → Step P d.o (Ts i) (H (c + effs os i)) (vs i) (H (c + effs os i + 1)))
theorem extract {P : Program} : ∀ (os : List DOp) (hs : List AH) (pd : List Pend) (T : Tm) (h : AH) (T' : Tm) (h' : AH), RunD P os hs pd T h T' h' →
    ∃ (Ts : Nat → Tm) (vs : Nat → Value) (H : Nat → AH), Ts 0 = T ∧ Ts os.length = T' ∧ H hs.length = h ∧ H (hs.length + effs os os.length) = h' ∧ (∀ m g, hs.reverse[m]? = some g → H m = g) ∧ Dat P os hs.length Ts vs H ∧
      (∀ p ∈ pd, ∀ m, hs.length < m → m ≤ hs.length + p.1 → m ≤ hs.length + effs os os.length → Step P p.2.1 p.2.2.1 (H m) p.2.2.2 (H m)) ∧
      (∀ m, hs.length ≤ m → m < hs.length + effs os os.length → (H m).next ≤ (H (m + 1)).next)
  | [], hs, pd, T, h, T', h', hr => by
    obtain ⟨rfl, rfl⟩ := hr
    refine ⟨fun _ => T', fun _ => default, fun m => (hs.reverse[m]?).getD h', rfl, rfl, by simp, by simp [effs], fun m g hg => by simp [hg], fun i d hi => by simp at hi, fun p _ m h1 _ h3 => by simp [effs] at h3; omega, fun m h1 h2 => by simp [effs] at h2; omega⟩
  | d :: os, hs, pd, T, h, T', h', hr => by
    simp only [RunD] at hr
    split at hr
    · rename_i hq
      obtain ⟨v, hs1, hs2, hs3⟩ := hr
      obtain ⟨Ts, vs, H, e1, e2, e3, e4, e5, e6, e7, e8⟩ := extract os hs _ _ _ _ _ hs3
      refine ⟨fun i => match i with | 0 => T | i + 1 => Ts i, fun i => match i with | 0 => v | i + 1 => vs i, H, rfl, by simpa using e2, e3, by simpa [effs, hq] using e4, e5, ?_, ?_, by simpa [effs, hq] using e8⟩
      · intro i d' hi
        cases i with
        | zero =>
          simp at hi
          subst hi
          refine ⟨by simp [e1], fun _ m h1 h2 h3 => ?_, fun hn => by rw [hq] at hn; cases hn⟩
          simp only [effs, Nat.add_zero] at h1 h2 h3
          rcases Nat.lt_trichotomy m hs.length with hlt | rfl | hgt
          · have hg : hs.reverse[m]? = some (hs.reverse[m]'(by simpa using hlt)) := List.getElem?_eq_getElem _
            rw [e5 m _ hg]
            refine hs2 _ ?_
            rw [List.getElem_reverse]
            refine List.mem_take_iff_getElem.2 ⟨hs.length - 1 - m, by omega, rfl⟩
          · rw [e3]; exact hs1
          · have hf : d.fw ≠ 0 := by omega
            rw [if_neg hf] at e7
            simp only [List.length_cons, effs, hq, if_true, Nat.zero_add] at h3
            exact e7 (d.fw, d.o, T, v) (by simp) m hgt h2 h3
        | succ i =>
          have := e6 i d' (by simpa using hi)
          simpa [effs, hq] using this
      · intro p hp m h1 h2 h3
        simp only [List.length_cons, effs, hq, if_true, Nat.zero_add] at h3
        exact e7 p (by split <;> simp [hp]) m h1 h2 h3
    · rename_i hq
      obtain ⟨v, h1, hs1, hnx, hs2, hs3⟩ := hr
      obtain ⟨Ts, vs, H, e1, e2, e3, e4, e5, e6, e7, e8⟩ := extract os (h :: hs) _ _ _ _ _ hs3
      have hH : H hs.length = h := e5 hs.length h (by simp)
      have hq2 : d.o.quiet = false := by simpa using hq
      refine ⟨fun i => match i with | 0 => T | i + 1 => Ts i, fun i => match i with | 0 => v | i + 1 => vs i, H, rfl, by simpa using e2, hH, ?_, ?_, ?_, ?_, ?_⟩
      · simp only [List.length_cons, effs, hq2, Bool.false_eq_true, if_false] at e4 ⊢
        rw [← e4]; congr 1; omega
      · intro m g hg
        refine e5 m g ?_
        rw [List.reverse_cons, List.getElem?_append]
        have hlt : m < hs.reverse.length := (List.getElem?_eq_some_iff.1 hg).1
        rw [if_pos hlt]; exact hg
      · intro i d' hi
        cases i with
        | zero =>
          simp at hi
          subst hi
          refine ⟨by simp [e1], ?_, ?_⟩
          · intro hn; rw [hq2] at hn; cases hn
          intro _
          simp only [effs, Nat.add_zero, hH]
          have : H (hs.length + 1) = h1 := by simpa using e3
          rw [this]; exact hs1
        | succ i =>
          have := e6 i d' (by simpa using hi)
          simp only [List.length_cons, effs, hq2, Bool.false_eq_true, if_false] at this ⊢
          rw [show hs.length + (1 + effs os i) = hs.length + 1 + effs os i from by omega, show hs.length + (1 + effs os os.length) = hs.length + 1 + effs os os.length from by omega]
          exact this
      · intro p hp m k1 k2 k3
        simp only [List.length_cons, effs, hq2, Bool.false_eq_true, if_false] at k3 e7
        by_cases hm : m = hs.length + 1
        · subst hm
          have : H (hs.length + 1) = h1 := by simpa using e3
          rw [this]; exact hs2 p hp
        · refine e7 (p.1 - 1, p.2) ?_ m (by omega) (by simp only; omega) (by omega)
          unfold decP
          refine List.mem_filterMap.2 ⟨p, hp, ?_⟩
          rw [if_neg (by omega)]
      · intro m k1 k2
        simp only [List.length_cons, effs, hq2, Bool.false_eq_true, if_false] at k2 e8
        by_cases hm : m = hs.length
        · subst hm
          have : H (hs.length + 1) = h1 := by simpa using e3
          rw [this, hH]; exact hnx
        · exact e8 m (by omega) (by omega)
end Go.Proofs.Ythofdojknjhpgaa
