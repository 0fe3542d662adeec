/- Own texts, merged: a part of the proof that is told in the last text of this claim. -/
import Derived.Test.YthofdojknjhpgaaCMQm
set_option linter.unusedVariables false
set_option linter.unusedSimpArgs false
namespace Go.Proofs.Ythofdojknjhpgaa
open Go

inductive IC where
  | skip
  | reg (os : List AOp)
  | drw (os : List DOp)
  | seq (a b : IC)
  | cond (y : Opd) (a b : IC)
  | blk (id : Nat) (a : IC)
  | loop (a : IC)
  | exit (id : Nat)
  | ret
  | rng (d : RngD) (a : IC)
  | opq (c : Code)

/-- What is certainly performed before each operation. -/
def closure (ops : List Oper) : List (List Nat) := go ops []
  where go : List Oper → List (List Nat) → List (List Nat)
  | [], acc => acc.reverse
  | o :: os, acc =>
    let d := o.after.toList.filterMap fun e => if Region.binds .any e then some e.on else none
    let all := d ++ d.flatMap fun j => acc.reverse.getD j []
    go os (all.eraseDups :: acc)
def movesOf (xs : List AOp) (cl : List (List Nat)) : List (Nat × Nat) :=
  let n := xs.length
  let eff := fun j => match xs[j]? with | some x => !x.quiet | none => false
  (List.range n).map fun i =>
    let q := match xs[i]? with | some x => x.quiet && !x.pure | none => false
    if q then
      let e := cnt eff i
      (e - cnt (fun j => eff j && (getCl cl i).contains j) n, cnt (fun j => eff j && !(getCl cl j).contains i) n - e)
    else (0, 0)
/-- Which calls to try as such that leave the heap alone: none, all, one. -/
def masks (xs : List AOp) : List (List Bool) := [] :: xs.map (fun _ => true) :: (List.range xs.length).map fun i => List.replicate i false ++ [true]
def compF (P : Program) (m : Nat) : Nat → Code → Option IC
  | 0, _ => none
  | n + 1, k => match k with
    | .skip => some .skip
    | .region _ ops false => match compR P ops with | some xs => if dstOk m xs then some (.reg xs) else none | none => none
    | .region _ ops true => match compR P ops with
      | some xs =>
        let cl := closure ops.toList
        if Tables.follows P.toTables .mixedOrders then
          match (masks xs).find? fun q => okAll P ops (mkD (qtM q xs) (movesOf (qtM q xs) cl)) cl m with
          | some q => some (.drw (mkD (qtM q xs) (movesOf (qtM q xs) cl)))
          | none => none
        else none
      | none => none
    | .seq a b => match compF P m n a, compF P m n b with
      | some x, some y => some (.seq x y)
      | _, _ => match rngShape P m a b with
        | some (d, kb) => match compF P m n kb with | some y => some (.rng d y) | none => none
        | none => none
    | .cond c a b => match opd c, compF P m n a, compF P m n b with | some c, some x, some y => some (.cond c x y) | _, _, _ => none
    | .block id a => match compF P m n a with | some x => some (.blk id x) | none => none
    | .loop a => match compF P m n a with | some x => some (.loop x) | none => none
    | .exit id => some (.exit id)
    | .ret => some .ret
    | .rangeFunc x y u v => some (.opq (.rangeFunc x y u v))
    | _ => none
def compC (P : Program) (m : Nat) (k : Code) : Option IC := compF P m 1000 k

/-- A tree stands for code. -/
def Rep (P : Program) (m : Nat) : IC → Code → Prop
  | .skip, .skip => True
  | .reg os, .region _ ops false => compR P ops = some os ∧ dstOk m os = true
  | .drw ds, .region _ ops true => ∃ xs q bs cl, ds = mkD (qtM q xs) bs ∧ compR P ops = some xs ∧ okAll P ops ds cl m = true ∧ Tables.follows P.toTables .mixedOrders = true
  | .seq a b, .seq x y => Rep P m a x ∧ Rep P m b y
  | .rng d a, .seq x y => ∃ kb, rngShape P m x y = some (d, kb) ∧ Rep P m a kb
  | .cond c a b, .cond o x y => opd o = some c ∧ Rep P m a x ∧ Rep P m b y
  | .blk id a, .block id' x => id = id' ∧ Rep P m a x
  | .loop a, .loop x => Rep P m a x
  | .exit id, .exit id' => id = id'
  | .ret, .ret => True
  | .opq c, k => k = c
  | _, _ => False
theorem rep_ofF {P : Program} {m : Nat} : ∀ (n : Nat) (k : Code) (c : IC), compF P m n k = some c → Rep P m c k := by
  intro n
  induction n with
  | zero => intro k c h; simp [compF] at h
  | succ n ih =>
    intro k c h
    cases k with
    | skip => simp only [compF] at h; cases h; trivial
    | region id ops dr =>
      cases dr with
      | false =>
        simp only [compF] at h
        split at h
        · rename_i xs hx
          split at h
          · rename_i hd; cases h; exact ⟨hx, hd⟩
          · cases h
        · cases h
      | true =>
        simp only [compF] at h
        split at h
        · rename_i xs hx
          split at h
          · rename_i hd
            split at h
            · rename_i q hq
              cases h
              exact ⟨xs, q, _, _, rfl, hx, List.find?_some (p := fun q => okAll P ops (mkD (qtM q xs) (movesOf (qtM q xs) (closure ops.toList))) (closure ops.toList) m) hq, hd⟩
            · cases h
          · cases h
        · cases h
    | seq a b =>
      simp only [compF] at h
      split at h
      · rename_i x y h1 h2; cases h; exact ⟨ih _ _ h1, ih _ _ h2⟩
      · split at h
        · rename_i d kb hs
          split at h
          · rename_i y hy; cases h; exact ⟨kb, hs, ih _ _ hy⟩
          · cases h
        · cases h
    | cond o a b =>
      simp only [compF] at h
      split at h
      · rename_i c' x y h0 h1 h2; cases h; exact ⟨h0, ih _ _ h1, ih _ _ h2⟩
      · cases h
    | block id a =>
      simp only [compF] at h
      split at h
      · rename_i x h1; cases h; exact ⟨rfl, ih _ _ h1⟩
      · cases h
    | loop a =>
      simp only [compF] at h
      split at h
      · rename_i x h1; cases h; show Rep P m x a; exact ih _ _ h1
      · cases h
    | exit id => simp only [compF] at h; cases h; rfl
    | ret => simp only [compF] at h; cases h; trivial
    | rangeFunc x y u v => simp only [compF] at h; cases h; rfl
    | _ => simp [compF] at h
theorem rep_of {P : Program} {m : Nat} (k : Code) (c : IC) (h : compC P m k = some c) : Rep P m c k := rep_ofF 1000 k c h

def AXI (P : Program) (m n0 : Nat) (c : IC) (T : Tm) (h : AH) (e : Exit) (T' : Tm) (h' : AH) : Prop := ∀ k, Rep P m c k → AX P m n0 k T h e T' h'
def EX (P : Program) (m n0 : Nat) (c : IC) (T : Tm) (h : AH) (Q : Exit → Tm → AH → Prop) : Prop := ∃ e T' h', AXI P m n0 c T h e T' h' ∧ Q e T' h'
/-- What follows a normal end. -/
def nxt (K : Tm → AH → Prop) (Q : Exit → Tm → AH → Prop) : Exit → Tm → AH → Prop
  | .normal, T, h => K T h
  | e, T, h => Q e T h
def inB (id : Nat) (Q : Exit → Tm → AH → Prop) : Exit → Tm → AH → Prop
  | .exit j, T, h => if j = id then Q .normal T h else Q (.exit j) T h
  | e, T, h => Q e T h
/-- A region in the text's order. -/
def RO (P : Program) : List AOp → Tm → AH → (Tm → AH → Prop) → Prop
  | [], T, h, K => K T h
  | o :: os, T, h, K => ∃ v h1, Step P o T h v h1 ∧ RO P os (updO T o.dst v) h1 K
/-- A region that draws. -/
def RD (P : Program) : List DOp → List AH → List Pend → Tm → AH → (Tm → AH → Prop) → Prop
  | [], _, _, T, h, K => K T h
  | d :: os, hs, pd, T, h, K =>
    if d.o.quiet = true then ∃ v, Step P d.o T h v h ∧ (∀ g ∈ hs.take d.bk, Step P d.o T g v g) ∧ RD P os hs (if d.fw = 0 then pd else (d.fw, d.o, T, v) :: pd) (updO T d.o.dst v) h K
    else ∃ v h1, Step P d.o T h v h1 ∧ h.next ≤ h1.next ∧ (∀ p ∈ pd, Step P p.2.1 p.2.2.1 h1 p.2.2.2 h1) ∧ RD P os (h :: hs) (decP pd) (updO T d.o.dst v) h1 K

section
variable {P : Program} {m n0 : Nat} {T : Tm} {h : AH} {Q Q' : Exit → Tm → AH → Prop} {a b c : IC}

theorem RO_run : ∀ (os : List AOp) (T : Tm) (h : AH) (K : Tm → AH → Prop), RO P os T h K → ∃ T' h', RunOps P os T h T' h' ∧ K T' h'
  | [], T, h, K, hk => ⟨T, h, ⟨rfl, rfl⟩, hk⟩
  | o :: os, T, h, K, ⟨v, h1, hs, hr⟩ => by
    obtain ⟨T', h', g1, g2⟩ := RO_run os _ _ K hr
    exact ⟨T', h', ⟨v, h1, hs, g1⟩, g2⟩
theorem RD_run : ∀ (os : List DOp) (hs : List AH) (pd : List Pend) (T : Tm) (h : AH) (K : Tm → AH → Prop), RD P os hs pd T h K → ∃ T' h', RunD P os hs pd T h T' h' ∧ K T' h'
  | [], hs, pd, T, h, K, hk => ⟨T, h, ⟨rfl, rfl⟩, hk⟩
  | d :: os, hs, pd, T, h, K, hr => by
    simp only [RD] at hr
    split at hr
    · rename_i hq
      obtain ⟨v, g1, g2, g3⟩ := hr
      obtain ⟨T', h', k1, k2⟩ := RD_run os _ _ _ _ K g3
      exact ⟨T', h', by simp only [RunD]; rw [if_pos hq]; exact ⟨v, g1, g2, k1⟩, k2⟩
    · rename_i hq
      obtain ⟨v, h1, g1, g2, g3, g4⟩ := hr
      obtain ⟨T', h', k1, k2⟩ := RD_run os _ _ _ _ K g4
      exact ⟨T', h', by simp only [RunD]; rw [if_neg hq]; exact ⟨v, h1, g1, g2, g3, k1⟩, k2⟩
theorem EX.mono (k : EX P m n0 c T h Q) (hq : ∀ e T h, Q e T h → Q' e T h) : EX P m n0 c T h Q' := by
  obtain ⟨e, T', h', h1, h2⟩ := k
  exact ⟨e, T', h', h1, hq _ _ _ h2⟩
theorem EX.skip (k : Q .normal T h) : EX P m n0 .skip T h Q := by
  refine ⟨.normal, T, h, fun c hc => ?_, k⟩
  cases c <;> first | exact AX.skip | exact hc.elim
theorem EX.exit {id : Nat} (k : Q (.exit id) T h) : EX P m n0 (.exit id) T h Q := by
  refine ⟨.exit id, T, h, fun c hc => ?_, k⟩
  cases c <;> first | (obtain rfl := hc; exact AX.exit id) | exact hc.elim
theorem EX.ret (k : Q .ret T h) : EX P m n0 .ret T h Q := by
  refine ⟨.ret, T, h, fun c hc => ?_, k⟩
  cases c <;> first | exact AX.ret | exact hc.elim
/-- Code that is taken as it is. -/
theorem EX.opq {k : Code} {e : Exit} {T' : Tm} {h' : AH} (hk : AX P m n0 k T h e T' h') (q : Q e T' h') : EX P m n0 (.opq k) T h Q :=
  ⟨e, T', h', fun c hc => by obtain rfl : c = k := hc; exact hk, q⟩
theorem EX.reg {os : List AOp} (k : RO P os T h (Q .normal)) : EX P m n0 (.reg os) T h Q := by
  obtain ⟨T', h', h1, h2⟩ := RO_run os T h _ k
  refine ⟨.normal, T', h', fun c hc => ?_, h2⟩
  cases c with
  | region id ops dr =>
    cases dr with
    | false => exact AX.region hc.1 hc.2 h1
    | true => exact hc.elim
  | _ => exact hc.elim
theorem EX.drw {ds : List DOp} (k : RD P ds [] [] T h (Q .normal)) : EX P m n0 (.drw ds) T h Q := by
  obtain ⟨T', h', h1, h2⟩ := RD_run ds [] [] T h _ k
  refine ⟨.normal, T', h', fun c hc => ?_, h2⟩
  cases c with
  | region id ops dr =>
    cases dr with
    | true =>
      obtain ⟨xs, q, bs, cl, rfl, g1, g2, g3⟩ := hc
      exact AX.draw g3 g1 rfl g2 h1
    | false => exact hc.elim
  | _ => exact hc.elim
theorem EX.seq (k : EX P m n0 a T h (nxt (fun T1 h1 => EX P m n0 b T1 h1 Q) Q)) : EX P m n0 (.seq a b) T h Q := by
  obtain ⟨e, T1, h1, k1, k2⟩ := k
  by_cases he : e = .normal
  · subst he
    obtain ⟨e2, T2, h2, q1, q2⟩ := k2
    refine ⟨e2, T2, h2, fun c hc => ?_, q2⟩
    cases c with
    | seq x y => exact AX.seq (k1 x hc.1) (q1 y hc.2)
    | _ => exact hc.elim
  · refine ⟨e, T1, h1, fun c hc => ?_, by cases e <;> first | exact absurd rfl he | exact k2⟩
    cases c with
    | seq x y => exact AX.seqX (k1 x hc.1) he
    | _ => exact hc.elim
theorem EX.cond {y : Opd} (k : ∃ t, y.ev T = .bool t ∧ EX P m n0 (if t = true then a else b) T h Q) : EX P m n0 (.cond y a b) T h Q := by
  obtain ⟨t, hb, e, T', h', k1, k2⟩ := k
  refine ⟨e, T', h', fun c hc => ?_, k2⟩
  cases c with
  | cond o x z =>
    refine AX.cond hc.1 hb ?_
    cases t
    · exact k1 z hc.2.2
    · exact k1 x hc.2.1
  | _ => exact hc.elim
theorem EX.blk {id : Nat} (k : EX P m n0 a T h (inB id Q)) : EX P m n0 (.blk id a) T h Q := by
  obtain ⟨e, T', h', k1, k2⟩ := k
  by_cases he : e = .exit id
  · subst he
    simp only [inB, if_true] at k2
    refine ⟨.normal, T', h', fun c hc => ?_, k2⟩
    cases c with
    | block id' x => obtain ⟨rfl, hc⟩ := hc; exact AX.blockX (k1 x hc)
    | _ => exact hc.elim
  · have hq : Q e T' h' := by
      cases e with
      | exit j => simp only [inB] at k2; rw [if_neg (by rintro rfl; exact he rfl)] at k2; exact k2
      | _ => exact k2
    refine ⟨e, T', h', fun c hc => ?_, hq⟩
    cases c with
    | block id' x => obtain ⟨rfl, hc⟩ := hc; exact AX.block (k1 x hc) (by rintro j rfl rfl; exact he rfl)
    | _ => exact hc.elim
theorem EX.wk {T0 : Tm} {h0 : AH} (k : EX P m n0 a T0 h0 Q) (hl : Wk n0 T0 h0 T h) : EX P m n0 a T h Q := by
  obtain ⟨e, T', h', k1, k2⟩ := k
  exact ⟨e, T', h', fun c hc => (k1 c hc).wk hl, k2⟩
/-- A loop whose heads are told by a state s: the slots, the heap, what holds, what goes down. -/
theorem EX.loop {σ : Type} (TT : σ → Tm) (HH : σ → AH) (I : σ → Prop) (μ : σ → Nat) (s0 : σ) (hI : I s0) (hl : Wk n0 (TT s0) (HH s0) T h)
    (round : ∀ s, I s → EX P m n0 a (TT s) (HH s) (nxt (fun T' h' => ∃ s', I s' ∧ μ s' < μ s ∧ Wk n0 (TT s') (HH s') T' h') Q)) : EX P m n0 (.loop a) T h Q := by
  have key : ∀ n s, μ s = n → I s → ∃ e T' h', (∀ k, Rep P m a k → AXL P m n0 k (TT s) (HH s) e T' h') ∧ Q e T' h' := by
    intro n
    induction n using Nat.strongRecOn with
    | _ n ih =>
      intro s hs hIs
      obtain ⟨e, T1, h1, k1, k2⟩ := round s hIs
      by_cases he : e = .normal
      · subst he
        obtain ⟨s', g1, g2, g3⟩ := k2
        obtain ⟨e2, T2, h2, q1, q2⟩ := ih (μ s') (by omega) s' rfl g1
        exact ⟨e2, T2, h2, fun c hc => AXL.step (k1 c hc) ((q1 c hc).wk g3), q2⟩
      · exact ⟨e, T1, h1, fun c hc => AXL.done (k1 c hc) he, by cases e <;> first | exact absurd rfl he | exact k2⟩
  obtain ⟨e, T', h', k1, k2⟩ := key _ s0 rfl hI
  refine ⟨e, T', h', fun c hc => ?_, k2⟩
  cases c with
  | loop x => exact AX.loop ((k1 x hc).wk hl)
  | _ => exact hc.elim
theorem EX.rng {d : RngD} {B : Nat} {es : List (Value × Value)} (hB : d.mo.ev T = .map (some B)) (hes : h.get B = some (.map es)) {T0 Te : Tm} (hT : RngT d T0 T h.next) (hTe : ∀ i, Te i = .tuple #[] ∨ plain1 (Te i) = true) (p : Value → Bool) (hk : ∀ k v, (k, v) ∈ es → ∀ ψ n, VR ψ n k k)
    (body : ∀ k v, (k, v) ∈ es → EX P m (h.next + 1) a (upd T0 d.dk k) (hRng h) fun e T' h' => h' = hRng h ∧ ((p k = true ∧ e = .ret ∧ ∀ i, Te i = .tuple #[] ∨ Te i = T' i) ∨ (p k = false ∧ e = .normal ∧ ∀ i, T0 i = .tuple #[] ∨ T0 i = T' i)))
    (kT : (∃ z ∈ es, p z.1 = true) → Q .ret Te h) (kF : (∀ z ∈ es, p z.1 = false) → Q .normal (fun i => if i = d.it then .tuple #[] else T0 i) h) : EX P m n0 (.rng d a) T h Q := by
  have less : ∀ {n0 : Nat} {T0 T' : Tm} {h : AH}, (∀ i, T0 i = .tuple #[] ∨ T0 i = T' i) → ∀ {k : Code} {T : Tm} {hh : AH} {e : Exit}, AX P m n0 k T hh e T' h → AX P m n0 k T hh e T0 h := by
    intro n0 T0 T' h hl k T hh e hk base w0 φ a w hn hst
    refine wp_mono (hk base w0 φ a w hn hst) ?_
    rintro ce a' w' ⟨ψ, rfl, g1, g2, g3⟩
    refine ⟨ψ, rfl, g1, g2, g3.hr, fun i => ?_, g3.df, g3.sz⟩
    rcases hl i with h1 | h1
    · rw [h1]; exact .any _
    · rw [h1]; exact g3.tr i
  have hbody : ∀ kb, Rep P m a kb → ∀ k v, (k, v) ∈ es → (p k = true → AX P m (h.next + 1) kb (upd T0 d.dk k) (hRng h) .ret Te (hRng h)) ∧ (p k = false → AX P m (h.next + 1) kb (upd T0 d.dk k) (hRng h) .normal T0 (hRng h)) := by
    intro kb hrep k v hkv
    obtain ⟨e, T', h', k1, rfl, k2⟩ := body k v hkv
    have k1' := k1 kb hrep
    rcases k2 with ⟨g1, rfl, g3⟩ | ⟨g1, rfl, g3⟩
    · exact ⟨fun _ => less g3 k1', (fun hf => by rw [g1] at hf; cases hf)⟩
    · exact ⟨(fun hf => by rw [g1] at hf; cases hf), fun _ => less g3 k1'⟩
  by_cases hex : ∃ z ∈ es, p z.1 = true
  · refine ⟨.ret, Te, h, fun c hc => ?_, kT hex⟩
    cases c with
    | seq x y =>
      obtain ⟨kb, hs, hrep⟩ := hc
      intro base w0 φ act w hn hst
      refine wp_mono (rng_ok hs hB hes hT hTe p (fun k v hkv _ => hbody kb hrep k v hkv) hk hst) ?_
      rintro ce a' w' (⟨rfl, _, g⟩ | ⟨rfl, g1, _⟩)
      · exact ⟨φ, rfl, Agr.refl _ _, hn, g⟩
      · obtain ⟨z, hz, hp⟩ := hex
        rw [g1 z hz] at hp; cases hp
    | _ => exact hc.elim
  · refine ⟨.normal, _, h, fun c hc => ?_, kF fun z hz => by
      cases hp : p z.1 with
      | false => rfl
      | true => exact absurd ⟨z, hz, hp⟩ hex⟩
    cases c with
    | seq x y =>
      obtain ⟨kb, hs, hrep⟩ := hc
      intro base w0 φ act w hn hst
      refine wp_mono (rng_ok hs hB hes hT hTe p (fun k v hkv _ => hbody kb hrep k v hkv) hk hst) ?_
      rintro ce a' w' (⟨rfl, g1, _⟩ | ⟨rfl, _, g⟩)
      · exact absurd g1 hex
      · exact ⟨φ, rfl, Agr.refl _ _, hn, g⟩
    | _ => exact hc.elim
/-- A function. -/
structure FnIs (P : Program) (f : FuncId) (m : Nat) (c : IC) (rs : List ResultVar) : Prop where
  ex : ∃ fn k, P.funcs[f]? = some fn ∧ fn.body = some k ∧ m ≤ fn.ntmps ∧ Rep P m c k ∧ fn.results.toList = rs
def fnOk (P : Program) (f : FuncId) (m : Nat) : Option (IC × List ResultVar) := match P.funcs[f]? with
  | some fn => if m ≤ fn.ntmps then match fn.body with
    | some k => match compC P m k with | some c => some (c, fn.results.toList) | none => none
    | none => none
    else none
  | none => none
theorem FnIs.of {f : FuncId} {c : IC} {rs : List ResultVar} (k : fnOk P f m = some (c, rs)) : FnIs P f m c rs := by
  unfold fnOk at k
  split at k
  · rename_i fn hf
    split at k
    · rename_i hm
      split at k
      · rename_i b hb
        split at k
        · rename_i c' hc
          cases k
          exact ⟨fn, b, hf, hb, hm, rep_of _ _ hc, rfl⟩
        · cases k
      · cases k
    · cases k
  · cases k
/-- What a call comes to, told by what holds of the result and the heap. -/
def EC (P : Program) (f : FuncId) (args : List Value) (h : AH) (R : Value → AH → Prop) : Prop := ∃ v h', AC P f args h v h' ∧ R v h'
def retQ (P : Program) (rs : List ResultVar) (R : Value → AH → Prop) : Exit → Tm → AH → Prop
  | .normal, T, h => ∃ vs, resAll P T h rs = some vs ∧ R (packV vs) h
  | .ret, T, h => ∃ vs, resAll P T h rs = some vs ∧ R (packV vs) h
  | _, _, _ => False
theorem EC.intro {f : FuncId} {args : List Value} {rs : List ResultVar} {R : Value → AH → Prop} (hf : FnIs P f m c rs) (k : EX P m h.next c (T0 args) h (retQ P rs R)) : EC P f args h R := by
  obtain ⟨fn, b, h1, h2, h3, h4, rfl⟩ := hf
  obtain ⟨e, T', h', k1, k2⟩ := k
  cases e <;> first
    | exact k2.elim
    | (obtain ⟨vs, g1, g2⟩ := k2
       exact ⟨_, h', AC.intro h1 h2 h3 (k1 _ h4) (by simp) g1, g2⟩)
theorem EC.gc {f : FuncId} {args : List Value} {R : Value → AH → Prop} (k : EC P f args h fun v h' => plainV v = true ∧ (∀ B b, h.get B = some b → h'.get B = some b) ∧ h'.ro = h.ro ∧ R v h) : EC P f args h fun v h' => h' = h ∧ R v h := by
  obtain ⟨v, h', h1, h2, h3, h4, h5⟩ := k
  exact ⟨v, h, h1.gc h3 h4 (fun ψ n m c hc => (VR.plainV (φ := ψ) h2).low hc), rfl, h5⟩
end
end Go.Proofs.Ythofdojknjhpgaa
