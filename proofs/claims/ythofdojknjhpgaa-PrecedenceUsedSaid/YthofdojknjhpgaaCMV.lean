/- Own texts, merged: a part of the proof that is told in the last text of this claim. -/
import Derived.Test.YthofdojknjhpgaaCMS
set_option linter.unusedVariables false
set_option linter.unusedSimpArgs false
namespace Go.Proofs.Ythofdojknjhpgaa
open Go
section
variable {P : Program} {m n0 : Nat} {T T' : Tm} {h h' : AH} {K : Tm → AH → Prop} {Q : Exit → Tm → AH → Prop} {os : List AOp} {ds : List DOp} {d : Option Nat} {v : Value}

theorem nxt_n (k : K T h) : nxt K Q .normal T h := k
theorem nxt_e {i : Nat} (k : Q (.exit i) T h) : nxt K Q (.exit i) T h := k
theorem nxt_r (k : Q .ret T h) : nxt K Q .ret T h := k
theorem inB_n {i : Nat} (k : Q .normal T h) : inB i Q .normal T h := k
theorem inB_r {i : Nat} (k : Q .ret T h) : inB i Q .ret T h := k
theorem inB_x {i : Nat} (k : Q .normal T h) : inB i Q (.exit i) T h := by simp only [inB, if_true]; exact k
theorem inB_y {i j : Nat} (hn : j ≠ i) (k : Q (.exit j) T h) : inB i Q (.exit j) T h := by simp only [inB]; rw [if_neg hn]; exact k
theorem EX.ite {y : Opd} {a b : IC} {t : Bool} (ht : y.ev T = .bool t) (k1 : t = true → EX P m n0 a T h Q) (k2 : t = false → EX P m n0 b T h Q) : EX P m n0 (.cond y a b) T h Q := by
  refine EX.cond ⟨t, ht, ?_⟩
  cases t
  · exact k2 rfl
  · exact k1 rfl
theorem EX.dec {y : Opd} {a b : IC} {p : Prop} [Decidable p] (ht : y.ev T = .bool (decide p)) (k1 : p → EX P m n0 a T h Q) (k2 : ¬ p → EX P m n0 b T h Q) : EX P m n0 (.cond y a b) T h Q :=
  EX.ite ht (fun hb => k1 (of_decide_eq_true hb)) fun hb => k2 (of_decide_eq_false hb)
theorem EX.condT {y : Opd} {a b : IC} (ht : y.ev T = .bool true) (k : EX P m n0 a T h Q) : EX P m n0 (.cond y a b) T h Q := EX.ite ht (fun _ => k) (fun hb => by cases hb)
theorem EX.condF {y : Opd} {a b : IC} (ht : y.ev T = .bool false) (k : EX P m n0 b T h Q) : EX P m n0 (.cond y a b) T h Q := EX.ite ht (fun hb => by cases hb) (fun _ => k)

def norm (F : Tm → AH → Prop) (e : Exit) (T : Tm) (h : AH) : Prop := e = .normal ∧ F T h
theorem EX.seqM {a b : IC} {F : Tm → AH → Prop} (k1 : EX P m n0 a T h (norm F)) (k2 : ∀ T1 h1, F T1 h1 → EX P m n0 b T1 h1 Q) : EX P m n0 (.seq a b) T h Q := by
  refine EX.seq (EX.mono k1 ?_)
  rintro e T1 h1 ⟨rfl, k⟩
  exact k2 T1 h1 k
def orQ (F : Tm → AH → Prop) (Q : Exit → Tm → AH → Prop) (e : Exit) (T : Tm) (h : AH) : Prop := (e = .normal ∧ F T h) ∨ (e ≠ .normal ∧ Q e T h)
theorem orQ_n {F : Tm → AH → Prop} (k : F T h) : orQ F Q .normal T h := .inl ⟨rfl, k⟩
theorem orQ_r {F : Tm → AH → Prop} (k : Q .ret T h) : orQ F Q .ret T h := .inr ⟨by simp, k⟩
theorem orQ_x {F : Tm → AH → Prop} {i : Nat} (k : Q (.exit i) T h) : orQ F Q (.exit i) T h := .inr ⟨by simp, k⟩
theorem nA (k : K T h) : nxt K Q .normal T h := k
theorem nB {i : Nat} (k : Q (.exit i) T h) : nxt K Q (.exit i) T h := k
theorem nC (k : Q .ret T h) : nxt K Q .ret T h := k
theorem nD {i : Nat} (k : Q .normal T h) : inB i Q .normal T h := k
theorem nE {i : Nat} (k : Q .ret T h) : inB i Q .ret T h := k
theorem nF {i : Nat} (k : Q .normal T h) : inB i Q (.exit i) T h := inB_x k
theorem nG {i j : Nat} (hn : j ≠ i) (k : Q (.exit j) T h) : inB i Q (.exit j) T h := inB_y hn k
theorem nH {F : Tm → AH → Prop} (k : Q .ret T h) : orQ F Q .ret T h := orQ_r k
theorem nI {F : Tm → AH → Prop} {i : Nat} (k : Q (.exit i) T h) : orQ F Q (.exit i) T h := orQ_x k
theorem nJ {F : Tm → AH → Prop} (k : F T h) : orQ F Q .normal T h := orQ_n k
/-- Where code begins, and with what it goes on. -/
class Op (P : Program) (m n0 : Nat) (c : IC) (Q : Exit → Tm → AH → Prop) (c' : outParam IC) (Q' : outParam (Exit → Tm → AH → Prop)) : Prop where
  go : ∀ T h, EX P m n0 c' T h Q' → EX P m n0 c T h Q
instance {os : List AOp} : Op P m n0 (.reg os) Q (.reg os) Q := ⟨fun _ _ k => k⟩
instance {ds : List DOp} : Op P m n0 (.drw ds) Q (.drw ds) Q := ⟨fun _ _ k => k⟩
instance {a b c' : IC} {Q' : Exit → Tm → AH → Prop} [o : Op P m n0 a (nxt (fun T1 h1 => EX P m n0 b T1 h1 Q) Q) c' Q'] : Op P m n0 (.seq a b) Q c' Q' := ⟨fun _ _ k => EX.seq (o.go _ _ k)⟩
instance {a c' : IC} {i : Nat} {Q' : Exit → Tm → AH → Prop} [o : Op P m n0 a (inB i Q) c' Q'] : Op P m n0 (.blk i a) Q c' Q' := ⟨fun _ _ k => EX.blk (o.go _ _ k)⟩
/-- What a normal end goes on with. -/
class Nm (Q : Exit → Tm → AH → Prop) (K : outParam (Tm → AH → Prop)) : Prop where
  go : ∀ T h, K T h → Q .normal T h
instance (priority := low) : Nm Q (fun T h => Q .normal T h) := ⟨fun _ _ k => k⟩
instance : Nm (nxt K Q) K := ⟨fun _ _ k => k⟩
instance {i : Nat} [n : Nm Q K] : Nm (inB i Q) K := ⟨fun T h k => inB_n (n.go T h k)⟩
instance {F : Tm → AH → Prop} : Nm (orQ F Q) F := ⟨fun _ _ k => orQ_n k⟩
theorem EX.rg {c : IC} {Q' : Exit → Tm → AH → Prop} {T1 : Tm} {h1 : AH} [o : Op P m n0 c Q (.reg os) Q'] [n : Nm Q' K] (k : ∀ KK : Tm → AH → Prop, KK T1 h1 → RO P os T h KK) (k2 : K T1 h1) : EX P m n0 c T h Q := o.go _ _ (EX.regx k (n.go _ _ k2))
theorem EX.dg {c : IC} {Q' : Exit → Tm → AH → Prop} {T1 : Tm} {h1 : AH} [o : Op P m n0 c Q (.drw ds) Q'] [n : Nm Q' K] (k : ∀ KK : Tm → AH → Prop, KK T1 h1 → RD P ds [] [] T h KK) (k2 : K T1 h1) : EX P m n0 c T h Q := o.go _ _ (EX.drwx k (n.go _ _ k2))
theorem EX.seqR {a b : IC} {F : Tm → AH → Prop} (k1 : EX P m n0 a T h (orQ F Q)) (k2 : ∀ T1 h1, F T1 h1 → EX P m n0 b T1 h1 Q) : EX P m n0 (.seq a b) T h Q := by
  refine EX.seq (EX.mono k1 ?_)
  rintro e T1 h1 (⟨rfl, k⟩ | ⟨hn, k⟩)
  · exact k2 T1 h1 k
  · cases e <;> first | exact absurd rfl hn | exact k
theorem EX.cut {a : IC} {F : Tm → AH → Prop} (k1 : EX P m n0 a T h (norm F)) (k2 : ∀ T1 h1, F T1 h1 → Q .normal T1 h1) : EX P m n0 a T h Q := EX.mono k1 (by rintro e T1 h1 ⟨rfl, k⟩; exact k2 T1 h1 k)
theorem RO_callE {f : FuncId} {args : List Opd} {v : Value} {n : Nat} (hc : AC P f (args.map (·.ev T)) h v h') : RO P os (upd T n v) h' K → RO P (⟨some n, none, .call f args⟩ :: os) T h K := fun k => ⟨v, h', hc, k⟩
theorem RD_callE {f : FuncId} {args : List Opd} {v : Value} {n : Nat} {hs : List AH} {pd : List Pend} (hc : AC P f (args.map (·.ev T)) h v h') (hn : h.next ≤ h'.next) (hp : ∀ p ∈ pd, Step P p.2.1 p.2.2.1 h' p.2.2.2 h') (k : RD P ds (h :: hs) (decP pd) (upd T n v) h' K) : RD P (⟨⟨some n, none, .call f args⟩, 0, 0⟩ :: ds) hs pd T h K := by
  have hq' : ¬ (DOp.o ⟨⟨some n, none, .call f args⟩, 0, 0⟩).quiet = true := by show ¬ false = true; decide
  simp only [RD]
  rw [if_neg hq']
  exact ⟨v, h', hc, hn, hp, k⟩
theorem upd_at {d : Nat} : upd T d v d = v := by simp [upd]

theorem RO_callpS {f : FuncId} {args : List Opd} {R : Value → Prop} {n : Nat} (hc : ∃ v, AC P f (args.map (·.ev T)) h v h ∧ R v) (k : ∀ v, R v → RO P os (upd T n v) h K) : RO P (⟨some n, none, .call f args⟩ :: os) T h K := by
  obtain ⟨v, g1, g2⟩ := hc
  exact ⟨v, h, g1, k v g2⟩

def guard1 (v : Value) (b : Bool) (A B : Prop) : Prop := match v with | .bool c => if c = b then A else B | .chan none => B | _ => False
@[congr] theorem guard1_congr {v v' : Value} {b : Bool} {A B : Prop} (e : v = v') : guard1 v b A B = guard1 v' b A B := by rw [e]
theorem guard1_tt {A B : Prop} : guard1 (.bool true) true A B = A := nr rfl
theorem guard1_ff {A B : Prop} : guard1 (.bool false) false A B = A := nr rfl
theorem guard1_tf {A B : Prop} : guard1 (.bool true) false A B = B := nr rfl
theorem guard1_ft {A B : Prop} : guard1 (.bool false) true A B = B := nr rfl
theorem guard1_sk {b : Bool} {A B : Prop} : guard1 (.chan none) b A B = B := nr rfl
theorem RO_g {x : AI} {t : Nat} {b : Bool} : RO P (⟨d, some (t, b), x⟩ :: os) T h K = guard1 (T t) b (RO P (⟨d, none, x⟩ :: os) T h K) (RO P os (updO T d (.chan none)) h K) := by
  apply propext
  simp only [RO, Step, guard1]
  cases hT : T t with
  | bool c =>
    simp only [Value.bool.injEq, exists_eq_left', reduceCtorEq, false_and, or_false]
    by_cases hc : c = b
    · rw [if_pos hc]
      constructor
      · rintro ⟨v, h1, g | g, k⟩
        · exact ⟨v, h1, g.2, k⟩
        · exact absurd hc g.1
      · rintro ⟨v, h1, g, k⟩; exact ⟨v, h1, .inl ⟨hc, g⟩, k⟩
    · rw [if_neg hc]
      constructor
      · rintro ⟨v, h1, g | g, k⟩
        · exact absurd g.1 hc
        · obtain ⟨_, rfl, rfl⟩ := g; exact k
      · intro k; exact ⟨_, _, .inr ⟨hc, rfl, rfl⟩, k⟩
  | chan r =>
    cases r with
    | none =>
      constructor
      · rintro ⟨v, h1, ⟨c, g, _⟩ | ⟨_, rfl, rfl⟩, k⟩
        · cases g
        · exact k
      · intro k; exact ⟨_, _, .inr ⟨rfl, rfl, rfl⟩, k⟩
    | some r => simp
  | _ => simp
theorem RO_gins {i : I} {t : Nat} {b : Bool} : RO P (⟨d, some (t, b), .ins i⟩ :: os) T h K = guard1 (T t) b (thenI (i.run T h) fun v h1 => RO P os (updO T d v) h1 K) (RO P os (updO T d (.chan none)) h K) := by
  rw [RO_g, RO_ins]
theorem RO_ginsS {i : I} {n t : Nat} {b : Bool} : RO P (⟨some n, some (t, b), .ins i⟩ :: os) T h K = guard1 (T t) b (thenI (i.run T h) fun v h1 => RO P os (upd T n v) h1 K) (RO P os (upd T n (.chan none)) h K) := RO_gins
/-- A call under a condition. -/
theorem RD_gS {i : I} {n t : Nat} {b : Bool} {hs : List AH} {pd : List Pend} (hq : i.quiet = true) : RD P (⟨⟨some n, some (t, b), .ins i⟩, 0, 0⟩ :: ds) hs pd T h K = guard1 (T t) b (RD P (⟨⟨some n, none, .ins i⟩, 0, 0⟩ :: ds) hs pd T h K) (RD P ds hs pd (upd T n (.chan none)) h K) := by
  apply propext
  have hq' : ∀ g, (DOp.o ⟨⟨some n, g, .ins i⟩, 0, 0⟩).quiet = true := fun _ => hq
  simp only [RD, hq', if_true, Step, guard1, List.take_zero, List.not_mem_nil, false_implies, implies_true, true_and]
  cases hT : T t with
  | bool c =>
    simp only [Value.bool.injEq, exists_eq_left', reduceCtorEq, false_and, or_false]
    by_cases hc : c = b
    · rw [if_pos hc]
      constructor
      · rintro ⟨v, g | g, k⟩
        · exact ⟨v, g.2, k⟩
        · exact absurd hc g.1
      · rintro ⟨v, g, k⟩; exact ⟨v, .inl ⟨hc, g⟩, k⟩
    · rw [if_neg hc]
      constructor
      · rintro ⟨v, g | g, k⟩
        · exact absurd g.1 hc
        · obtain ⟨_, rfl, _⟩ := g; exact k
      · intro k; exact ⟨_, .inr ⟨hc, rfl, trivial⟩, k⟩
  | chan r =>
    cases r with
    | none =>
      constructor
      · rintro ⟨v, ⟨c, g, _⟩ | ⟨_, rfl, _⟩, k⟩
        · cases g
        · exact k
      · intro k; exact ⟨_, .inr ⟨rfl, rfl, trivial⟩, k⟩
    | some r => simp
  | _ => simp
theorem RD_gN {x : AI} {n t : Nat} {b : Bool} {hs : List AH} {pd : List Pend} (hq : AOp.quiet ⟨none, none, x⟩ = false) : RD P (⟨⟨some n, some (t, b), x⟩, 0, 0⟩ :: ds) hs pd T h K = guard1 (T t) b (RD P (⟨⟨some n, none, x⟩, 0, 0⟩ :: ds) hs pd T h K) ((∀ p ∈ pd, Step P p.2.1 p.2.2.1 h p.2.2.2 h) ∧ RD P ds (h :: hs) (decP pd) (upd T n (.chan none)) h K) := by
  apply propext
  have hq' : ∀ g, (DOp.o ⟨⟨some n, g, x⟩, 0, 0⟩).quiet = false := fun _ => hq
  simp only [RD, hq', Bool.false_eq_true, if_false]
  have hS : ∀ v h1, Step P ⟨some n, some (t, b), x⟩ T h v h1 ↔ ((∃ c, T t = .bool c ∧ ((c = b ∧ Step P ⟨some n, none, x⟩ T h v h1) ∨ (c ≠ b ∧ v = .chan none ∧ h1 = h))) ∨ (T t = .chan none ∧ v = .chan none ∧ h1 = h)) := fun v h1 => Iff.rfl
  simp only [hS]
  unfold guard1
  cases hT : T t with
  | bool c =>
    simp only [Value.bool.injEq, exists_eq_left', reduceCtorEq, false_and, or_false]
    by_cases hc : c = b
    · rw [if_pos hc]
      constructor
      · rintro ⟨v, h1, g | g, k⟩
        · exact ⟨v, h1, g.2, k⟩
        · exact absurd hc g.1
      · rintro ⟨v, h1, g, k⟩; exact ⟨v, h1, .inl ⟨hc, g⟩, k⟩
    · rw [if_neg hc]
      constructor
      · rintro ⟨v, h1, g | g, k⟩
        · exact absurd g.1 hc
        · obtain ⟨_, rfl, rfl⟩ := g; exact k.2
      · intro k; exact ⟨_, _, .inr ⟨hc, rfl, rfl⟩, Nat.le_refl _, k⟩
  | chan r =>
    cases r with
    | none =>
      constructor
      · rintro ⟨v, h1, ⟨c, g, _⟩ | ⟨_, rfl, rfl⟩, k⟩
        · cases g
        · exact k.2
      · intro k; exact ⟨_, _, .inr ⟨rfl, rfl, rfl⟩, Nat.le_refl _, k⟩
    | some r => simp
  | _ => simp
theorem RD_gI {i : I} {n t : Nat} {b : Bool} {hs : List AH} {pd : List Pend} : RD P (⟨⟨some n, some (t, b), .ins i⟩, 0, 0⟩ :: ds) hs pd T h K =
    bif i.quiet then guard1 (T t) b (RD P (⟨⟨some n, none, .ins i⟩, 0, 0⟩ :: ds) hs pd T h K) (RD P ds hs pd (upd T n (.chan none)) h K)
    else guard1 (T t) b (RD P (⟨⟨some n, none, .ins i⟩, 0, 0⟩ :: ds) hs pd T h K) ((∀ p ∈ pd, Step P p.2.1 p.2.2.1 h p.2.2.2 h) ∧ RD P ds (h :: hs) (decP pd) (upd T n (.chan none)) h K) := by
  cases hq : i.quiet with
  | true => exact RD_gS hq
  | false => exact RD_gN hq
theorem RD_gC {f : FuncId} {args : List Opd} {n t : Nat} {b : Bool} {hs : List AH} {pd : List Pend} : RD P (⟨⟨some n, some (t, b), .call f args⟩, 0, 0⟩ :: ds) hs pd T h K = guard1 (T t) b (RD P (⟨⟨some n, none, .call f args⟩, 0, 0⟩ :: ds) hs pd T h K) ((∀ p ∈ pd, Step P p.2.1 p.2.2.1 h p.2.2.2 h) ∧ RD P ds (h :: hs) (decP pd) (upd T n (.chan none)) h K) := RD_gN rfl
theorem RO_gcallS {f : FuncId} {args : List Opd} {n t : Nat} {b : Bool} : RO P (⟨some n, some (t, b), .call f args⟩ :: os) T h K = guard1 (T t) b (RO P (⟨some n, none, .call f args⟩ :: os) T h K) (RO P os (upd T n (.chan none)) h K) := RO_g
theorem RO_callvS {f : FuncId} {args : List Opd} {v : Value} {n : Nat} (hc : AC P f (args.map (·.ev T)) h v h) : RO P os (upd T n v) h K → RO P (⟨some n, none, .call f args⟩ :: os) T h K := fun k => ⟨v, h, hc, k⟩
theorem RD_callvS {f : FuncId} {args : List Opd} {v : Value} {hs : List AH} {n : Nat} (hc : AC P f (args.map (·.ev T)) h v h) (k : RD P ds (h :: hs) [] (upd T n v) h K) : RD P (⟨⟨some n, none, .call f args⟩, 0, 0⟩ :: ds) hs [] T h K := RD_callp hc k
theorem RO_callv {f : FuncId} {args : List Opd} {v : Value} (hc : AC P f (args.map (·.ev T)) h v h) : RO P os (updO T d v) h K → RO P (⟨d, none, .call f args⟩ :: os) T h K := fun k => ⟨v, h, hc, k⟩
theorem AC.of_ec {f : FuncId} {args : List Value} (k : EC P f args h fun r h' => r = v ∧ h' = h) : AC P f args h v h := by
  obtain ⟨_, _, g, rfl, rfl⟩ := k; exact g
theorem AC.of_gc {f : FuncId} {args : List Value} (hv : plainV v = true) (k : EC P f args h fun r h' => r = v ∧ (∀ B b, h.get B = some b → h'.get B = some b) ∧ h'.ro = h.ro) : AC P f args h v h := by
  obtain ⟨_, _, g, rfl, g1, g2⟩ := k; exact g.gc g1 g2 fun ψ n m c hc => (VR.plainV (φ := ψ) hv).low hc
theorem EC.mono {f : FuncId} {args : List Value} {R R' : Value → AH → Prop} (k : EC P f args h R) (hr : ∀ v h, R v h → R' v h) : EC P f args h R' := by
  obtain ⟨v, h', g1, g2⟩ := k; exact ⟨v, h', g1, hr _ _ g2⟩


variable {t : TypeId} {e : Nat}
theorem bound_none {d : Nat} : bound T d none = some d := rfl
theorem bound_some {d : Nat} {x : Opd} {k : IntKind} {i : Int} (hx : x.ev T = .int k i) (hi : 0 ≤ i) : bound T d (some x) = some i.toNat := by simp [bound, hx, hi]

def bnd1 (d : Nat) : Option Value → Option Nat
  | none => some d
  | some (.int _ i) => if 0 ≤ i then some i.toNat else none
  | some _ => none
def sls1 (e : Nat) (v : Value) (lo hi : Option Value) (h : AH) : Option (Value × AH) := match v with
  | .slice a len _ => match bnd1 0 lo, bnd1 len hi with
      | some l, some r => if l ≤ r ∧ r ≤ len then
          match a with
          | none => some (.slice none 0 0, h)
          | some ⟨B, o, none⟩ => match h.row? B with
            | some (_, e', _) => if e' = e then some (.slice (some ⟨B, o + l * e, none⟩) (r - l) (r - l), h) else none
            | none => none
          | _ => none
        else none
      | _, _ => none
  | .func (.yield len) xs _ => match bnd1 0 lo, bnd1 len hi with
      | some l, some r => if l ≤ r ∧ r ≤ len ∧ xs.size = len * e then some (fz (r - l) ((xs.toList.drop (l * e)).take ((r - l) * e)), h) else none
      | _, _ => none
  | _ => none
theorem bound_bnd {d : Nat} {x : Option Opd} : bound T d x = bnd1 d (x.map (·.ev T)) := by
  cases x with
  | none => rfl
  | some x => simp only [bound, bnd1, Option.map_some]; cases x.ev T <;> rfl
theorem run_sls {x : Opd} {lo hi : Option Opd} : (I.sls e x lo hi).run T h = sls1 e (x.ev T) (lo.map (·.ev T)) (hi.map (·.ev T)) h := nr <| by
  simp only [I.run, sls1, bound_bnd]; rfl
def app1 (t : TypeId) (e bytes : Nat) (s x : Value) (h : AH) : Option (Value × AH) := match h.src e x, lenV x, s with
  | some news, some m, .slice a n n' =>
      if m = 0 then some (.slice a n n', h)
      else if (n + m) * bytes ≤ 140737488355328 ∧ n + m ≤ 9223372036854775807 ∧ news.all one = true then
        match a with
        | none => if n = 0 then some (.slice (some ⟨h.next, 0, none⟩) m m, h.new (.row t e news)) else none
        | some ⟨B, o, none⟩ => match h.row? B with
          | some (t', e', cs) => if h.ro ≤ B ∧ o = 0 ∧ t' = t ∧ e' = e ∧ n * e ≤ cs.length ∧ (cs.take (n * e)).all one = true then
              some (.slice (some ⟨h.next, 0, none⟩) (n + m) (n + m), (h.new (.row t e (cs.take (n * e) ++ news))).put B none)
            else none
          | none => none
        | _ => none
      else none
  | _, _, _ => none
theorem run_app {bytes : Nat} {s x : Opd} : (I.app t e bytes s x).run T h = app1 t e bytes (s.ev T) (x.ev T) h := by
  simp only [I.run, app1]; rfl
def fill1 (cs : List Value) (off s : Nat) (v : Value) : Option (List Value) := if (cellsOf v).length = s ∧ off + s ≤ cs.length ∧ isK v = true then some (splice cs off (cellsOf v)) else none
def fillK (o : Option (List Value)) (K : List Value → Option (List Value)) : Option (List Value) := match o with | some cs => K cs | none => none
theorem fillK_some {cs : List Value} {K : List Value → Option (List Value)} : fillK (some cs) K = K cs := nr rfl
theorem fillL_nil {cs : List Value} : fillL T cs [] = some cs := nr (by simp [fillL])
theorem fillL_cons {cs : List Value} {off s : Nat} {x : Opd} {ps : List (Nat × Nat × Opd)} : fillL T cs ((off, s, x) :: ps) = fillK (fill1 cs off s (x.ev T)) fun cs => fillL T cs ps := nr <| by
  simp only [fillL, fill1]; split <;> rfl
theorem cells_one {v : Value} (hv : one v = true) : cellsOf v = [v] := by cases v <;> first | rfl | (simp [one] at hv)
theorem isK_one {v : Value} (hv : one v = true) : isK v = true := by cases v <;> first | rfl | (simp [one] at hv)
theorem fill1_set {cs : List Value} {off : Nat} {v : Value} (hv : one v = true) (ho : off < cs.length) : fill1 cs off 1 v = some (cs.set off v) := by
  have h1 : off + 1 ≤ cs.length := ho
  simp only [fill1, cells_one hv, isK_one hv, List.length_singleton, h1, and_self, if_true, splice]
  rw [List.set_eq_take_append_cons_drop, if_pos ho]; simp
theorem fill1_agg {cs us : List Value} {s : Nat} (hl : us.length = cs.length) (hs : us.length = s) : fill1 cs 0 s (.agg us.toArray) = some us := by
  have hd : cs.drop us.length = [] := List.drop_of_length_le (by omega)
  simp [fill1, cellsOf, isK, splice, hs, hd, ← hl]
theorem one_int {k : IntKind} {i : Int} : one (.int k i) = true := nr rfl
theorem one_bool {b : Bool} : one (.bool b) = true := nr rfl
theorem one_slice {a : Option Addr} {n m : Nat} : one (.slice a n m) = true := nr rfl
theorem one_ptr {a : Option Addr} : one (.pointer a) = true := nr rfl
def bsl1 (t : TypeId) (e len : Nat) (o : Option (List Value)) (h : AH) : Option (Value × AH) := match o with
  | some cs => if cs.all one then some (.slice (some ⟨h.next, 0, none⟩) len len, h.new (.row t e cs)) else none
  | none => none
theorem run_bsl {len : Nat} {zs : List Value} {ps : List (Nat × Nat × Opd)} : (I.bsl t e len zs ps).run T h = bsl1 t e len (fillL T zs ps) h := nr <| by
  simp only [I.run, bsl1]; rfl
theorem bsl1_some {len : Nat} {cs : List Value} (hc : cs.all one = true) : bsl1 t e len (some cs) h = some (.slice (some ⟨h.next, 0, none⟩) len len, h.new (.row t e cs)) := by simp only [bsl1]; rw [if_pos hc]
end
end Go.Proofs.Ythofdojknjhpgaa
