/- Own texts, merged: a part of the proof that is told in the last text of this claim. -/
import Derived.Test.YthofdojknjhpgaaCMR
import Derived.IntWalk
set_option linter.unusedVariables false
set_option linter.unusedSimpArgs false
namespace Go.Proofs.Ythofdojknjhpgaa
open Go

theorem nr {α : Type _} {a b : α} (e : a = b) : a = b := by cases e; exact Eq.refl a
theorem upd_app {T : Tm} {d i : Nat} {v : Value} : upd T d v i = if i = d then v else T i := nr (Eq.refl _)
def TE : Tm := fun _ => .tuple #[]
def thenI (r : Option (Value × AH)) (K : Value → AH → Prop) : Prop := match r with | some (v, h) => K v h | none => False
section
variable {P : Program} {T T' : Tm} {h h' : AH} {K : Tm → AH → Prop} {os : List AOp} {ds : List DOp} {d : Option Nat} {v : Value}
theorem thenI_some {K : Value → AH → Prop} : thenI (some (v, h)) K = K v h := nr rfl
@[congr] theorem thenI_congr {r r' : Option (Value × AH)} {K : Value → AH → Prop} (e : r = r') : thenI r K = thenI r' K := by rw [e]
@[congr] theorem RO_congr (e : h = h') : RO P os T h K = RO P os T h' K := by rw [e]
@[congr] theorem RD_congr {hs : List AH} {pd : List Pend} (e : h = h') : RD P ds hs pd T h K = RD P ds hs pd T h' K := by rw [e]
theorem RO_nil : RO P [] T h K = K T h := nr rfl
theorem RO_ins {i : I} : RO P (⟨d, none, .ins i⟩ :: os) T h K = thenI (i.run T h) fun v h1 => RO P os (updO T d v) h1 K := by
  apply propext
  simp only [RO, Step, ActS]
  cases hi : i.run T h with
  | none => simp [thenI]
  | some r =>
    obtain ⟨v, h1⟩ := r
    simp only [thenI]
    constructor
    · rintro ⟨v', h', g, k⟩; cases g; exact k
    · intro k; exact ⟨v, h1, rfl, k⟩
theorem RO_insS {i : I} {n : Nat} : RO P (⟨some n, none, .ins i⟩ :: os) T h K = thenI (i.run T h) fun v h1 => RO P os (upd T n v) h1 K := RO_ins
theorem RO_insN {i : I} : RO P (⟨none, none, .ins i⟩ :: os) T h K = thenI (i.run T h) fun v h1 => RO P os T h1 K := RO_ins
theorem RO_call {f : FuncId} {args : List Opd} {R : Value → AH → Prop} (hc : EC P f (args.map (·.ev T)) h R) (k : ∀ v h1, R v h1 → RO P os (updO T d v) h1 K) : RO P (⟨d, none, .call f args⟩ :: os) T h K := by
  obtain ⟨v, h1, g1, g2⟩ := hc
  exact ⟨v, h1, g1, k v h1 g2⟩
theorem RO_callp {f : FuncId} {args : List Opd} {v : Value} (hc : AC P f (args.map (·.ev T)) h v h) (k : RO P os (updO T d v) h K) : RO P (⟨d, none, .call f args⟩ :: os) T h K := ⟨v, h, hc, k⟩
/-- The simple case of a drawn region: no later effect may come before. -/
theorem RD_nil {hs : List AH} {pd : List Pend} : RD P [] hs pd T h K = K T h := nr rfl
/-- Steps of a drawn region. -/
theorem RD_q {i : I} {hs : List AH} {pd : List Pend} (hq : i.quiet = true) : RD P (⟨⟨d, none, .ins i⟩, 0, 0⟩ :: ds) hs pd T h K = thenI (i.run T h) fun v h1 => RD P ds hs pd (updO T d v) h1 K := by
  apply propext
  have hq' : (DOp.o ⟨⟨d, none, .ins i⟩, 0, 0⟩).quiet = true := hq
  simp only [RD]
  rw [if_pos hq']
  simp only [Step, ActS]
  cases hi : i.run T h with
  | none => simp [thenI]
  | some r =>
    obtain ⟨v, h1⟩ := r
    obtain rfl := quiet_same hq hi
    simp only [thenI, Option.some.injEq, Prod.mk.injEq, and_true, List.take_zero, List.not_mem_nil, false_implies, implies_true, true_and, if_true]
    constructor
    · rintro ⟨v', rfl, k⟩; exact k
    · intro k; exact ⟨v, rfl, k⟩
theorem RD_fw {i : I} {hs : List AH} {pd : List Pend} {n : Nat} (hq : i.quiet = true) (k : thenI (i.run T h) fun v h1 => RD P ds hs ((n + 1, ⟨d, none, .ins i⟩, T, v) :: pd) (updO T d v) h1 K) : RD P (⟨⟨d, none, .ins i⟩, 0, n + 1⟩ :: ds) hs pd T h K := by
  have hq' : (DOp.o ⟨⟨d, none, .ins i⟩, 0, n + 1⟩).quiet = true := hq
  simp only [RD]
  rw [if_pos hq']
  cases hi : i.run T h with
  | none => rw [hi] at k; exact k.elim
  | some r =>
    obtain ⟨v, h1⟩ := r
    obtain rfl := quiet_same hq hi
    rw [hi] at k
    exact ⟨v, hi, by simp, by simpa [thenI] using k⟩
theorem RD_bk {i : I} {hs : List AH} {pd : List Pend} {n : Nat} (hq : i.quiet = true) (k : thenI (i.run T h) fun v h1 => (∀ g ∈ hs.take n, i.run T g = some (v, g)) ∧ RD P ds hs pd (updO T d v) h1 K) : RD P (⟨⟨d, none, .ins i⟩, n, 0⟩ :: ds) hs pd T h K := by
  have hq' : (DOp.o ⟨⟨d, none, .ins i⟩, n, 0⟩).quiet = true := hq
  simp only [RD]
  rw [if_pos hq']
  cases hi : i.run T h with
  | none => rw [hi] at k; exact k.elim
  | some r =>
    obtain ⟨v, h1⟩ := r
    obtain rfl := quiet_same hq hi
    rw [hi] at k
    exact ⟨v, hi, k.1, by simpa using k.2⟩
theorem RD_e {i : I} {hs : List AH} {pd : List Pend} (hq : i.quiet = false) : RD P (⟨⟨d, none, .ins i⟩, 0, 0⟩ :: ds) hs pd T h K = thenI (i.run T h) fun v h1 => h.next ≤ h1.next ∧ (∀ p ∈ pd, Step P p.2.1 p.2.2.1 h1 p.2.2.2 h1) ∧ RD P ds (h :: hs) (decP pd) (updO T d v) h1 K := by
  apply propext
  have hq' : ¬ (DOp.o ⟨⟨d, none, .ins i⟩, 0, 0⟩).quiet = true := by show ¬ i.quiet = true; rw [hq]; decide
  simp only [RD]
  rw [if_neg hq']
  simp only [Step, ActS]
  cases hi : i.run T h with
  | none => simp [thenI]
  | some r =>
    obtain ⟨v, h1⟩ := r
    simp only [thenI]
    constructor
    · rintro ⟨v', h', g, k⟩; cases g; exact k
    · intro k; exact ⟨v, h1, rfl, k⟩
theorem RD_ins {i : I} {hs : List AH} {pd : List Pend} : RD P (⟨⟨d, none, .ins i⟩, 0, 0⟩ :: ds) hs pd T h K =
    bif i.quiet then (thenI (i.run T h) fun v h1 => RD P ds hs pd (updO T d v) h1 K)
    else (thenI (i.run T h) fun v h1 => h.next ≤ h1.next ∧ (∀ p ∈ pd, Step P p.2.1 p.2.2.1 h1 p.2.2.2 h1) ∧ RD P ds (h :: hs) (decP pd) (updO T d v) h1 K) := by
  cases hq : i.quiet with
  | true => exact RD_q hq
  | false => exact RD_e hq
theorem RD_insS {i : I} {hs : List AH} {pd : List Pend} {n : Nat} : RD P (⟨⟨some n, none, .ins i⟩, 0, 0⟩ :: ds) hs pd T h K =
    bif i.quiet then (thenI (i.run T h) fun v h1 => RD P ds hs pd (upd T n v) h1 K)
    else (thenI (i.run T h) fun v h1 => h.next ≤ h1.next ∧ (∀ p ∈ pd, Step P p.2.1 p.2.2.1 h1 p.2.2.2 h1) ∧ RD P ds (h :: hs) (decP pd) (upd T n v) h1 K) := RD_ins
theorem RD_insN {i : I} {hs : List AH} {pd : List Pend} : RD P (⟨⟨none, none, .ins i⟩, 0, 0⟩ :: ds) hs pd T h K =
    bif i.quiet then (thenI (i.run T h) fun v h1 => RD P ds hs pd T h1 K)
    else (thenI (i.run T h) fun v h1 => h.next ≤ h1.next ∧ (∀ p ∈ pd, Step P p.2.1 p.2.2.1 h1 p.2.2.2 h1) ∧ RD P ds (h :: hs) (decP pd) T h1 K) := RD_ins
@[congr] theorem cond_congr' {b b' : Bool} {x y : Prop} (e : b = b') : cond b x y = cond b' x y := by rw [e]
/-- Regions, with what follows kept out of the rewriting. -/
def Is (T1 : Tm) (h1 : AH) (T : Tm) (h : AH) : Prop := T = T1 ∧ h = h1
theorem Is.mk : Is T h T h := ⟨rfl, rfl⟩
theorem EX.regx {m n0 : Nat} {Q : Exit → Tm → AH → Prop} {T1 : Tm} {h1 : AH} (k : ∀ K : Tm → AH → Prop, K T1 h1 → RO P os T h K) (k2 : Q .normal T1 h1) : EX P m n0 (.reg os) T h Q := by
  obtain ⟨T', h', g1, rfl, rfl⟩ := RO_run os T h _ (k (Is T1 h1) .mk)
  refine ⟨.normal, T', h', fun c hc => ?_, k2⟩
  cases c with
  | region id ops dr =>
    cases dr with
    | false => exact AX.region hc.1 hc.2 g1
    | true => exact hc.elim
  | _ => exact hc.elim
theorem EX.drwx {m n0 : Nat} {Q : Exit → Tm → AH → Prop} {T1 : Tm} {h1 : AH} (k : ∀ K : Tm → AH → Prop, K T1 h1 → RD P ds [] [] T h K) (k2 : Q .normal T1 h1) : EX P m n0 (.drw ds) T h Q := by
  obtain ⟨T', h', g1, rfl, rfl⟩ := RD_run ds [] [] T h _ (k (Is T1 h1) .mk)
  refine ⟨.normal, T', h', fun c hc => ?_, k2⟩
  cases c with
  | region id ops dr =>
    cases dr with
    | true =>
      obtain ⟨xs, q, bs, cl, rfl, q1, q2, q3⟩ := hc
      exact AX.draw q3 q1 rfl q2 g1
    | false => exact hc.elim
  | _ => exact hc.elim
theorem RD_call {f : FuncId} {args : List Opd} {R : Value → AH → Prop} {hs : List AH} {pd : List Pend} (hc : EC P f (args.map (·.ev T)) h R) (k : ∀ v h1, R v h1 → h.next ≤ h1.next ∧ (∀ p ∈ pd, Step P p.2.1 p.2.2.1 h1 p.2.2.2 h1) ∧ RD P ds (h :: hs) (decP pd) (updO T d v) h1 K) : RD P (⟨⟨d, none, .call f args⟩, 0, 0⟩ :: ds) hs pd T h K := by
  obtain ⟨v, h1, g1, g2⟩ := hc
  have hq' : ¬ (DOp.o ⟨⟨d, none, .call f args⟩, 0, 0⟩).quiet = true := by show ¬ false = true; decide
  simp only [RD]
  rw [if_neg hq']
  exact ⟨v, h1, g1, k v h1 g2⟩
theorem RD_callp {f : FuncId} {args : List Opd} {v : Value} {hs : List AH} (hc : AC P f (args.map (·.ev T)) h v h) (k : RD P ds (h :: hs) [] (updO T d v) h K) : RD P (⟨⟨d, none, .call f args⟩, 0, 0⟩ :: ds) hs [] T h K := by
  have hq' : ¬ (DOp.o ⟨⟨d, none, .call f args⟩, 0, 0⟩).quiet = true := by show ¬ false = true; decide
  simp only [RD]
  rw [if_neg hq']
  exact ⟨v, h, hc, Nat.le_refl _, by simp, k⟩
theorem updO_some {n : Nat} : updO T (some n) v = upd T n v := nr rfl
theorem updO_none : updO T none v = T := nr rfl
theorem T0_cons {a : Value} {l : List Value} {i : Nat} : T0 (a :: l) i = if i = 0 then a else T0 l (i - 1) := by cases i <;> rfl
end

section
variable {T : Tm} {h : AH} {g : Nat} {eqs : List (Nat × Nat)} {k : IntKind} {a b : Int}
theorem run_mv {x : Opd} : (I.mv x).run T h = some (x.ev T, h) := nr rfl
theorem ev_c {v : Value} : (Opd.c v).ev T = v := nr rfl
theorem ev_t {n : Nat} : (Opd.t n).ev T = T n := nr rfl
def opt1 (o : Option Value) (h : AH) : Option (Value × AH) := match o with | some v => some (v, h) | none => none
theorem opt1_some {v : Value} : opt1 (some v) h = some (v, h) := nr rfl
theorem run_bin {op : BinOp} {x y : Opd} : (I.bin op g eqs x y).run T h = opt1 (vbin op g eqs (x.ev T) (y.ev T)) h := nr rfl
theorem run_un {op : UnOp} {x : Opd} : (I.un op x).run T h = opt1 (vun op (x.ev T)) h := nr rfl
theorem vbin_add : vbin .add g eqs (.int k a) (.int k b) = some (.int k (k.wrap (a + b))) := by simp [vbin, ibin]
theorem vbin_sub : vbin .sub g eqs (.int k a) (.int k b) = some (.int k (k.wrap (a - b))) := by simp [vbin, ibin]
theorem vbin_mul : vbin .mul g eqs (.int k a) (.int k b) = some (.int k (k.wrap (a * b))) := by simp [vbin, ibin]
theorem vbin_quo (hb : b ≠ 0) : vbin .quo g eqs (.int k a) (.int k b) = some (.int k (k.wrap (a.tdiv b))) := by simp [vbin, ibin, hb]
theorem vbin_rem (hb : b ≠ 0) : vbin .rem g eqs (.int k a) (.int k b) = some (.int k (a.tmod b)) := by simp [vbin, ibin, hb]
theorem vbin_eql : vbin .eql g eqs (.int k a) (.int k b) = some (.bool (decide (a = b))) := by
  have : (a == b) = decide (a = b) := by cases h : decide (a = b) <;> simp_all
  simp [vbin, ibin, this]
theorem vbin_neq : vbin .neq g eqs (.int k a) (.int k b) = some (.bool (decide (a ≠ b))) := by
  have : (a != b) = decide (a ≠ b) := by by_cases h : a = b <;> simp [h]
  simp [vbin, ibin, this]
theorem vbin_lss : vbin .lss g eqs (.int k a) (.int k b) = some (.bool (decide (a < b))) := by simp [vbin, ibin]
theorem vbin_leq : vbin .leq g eqs (.int k a) (.int k b) = some (.bool (decide (a ≤ b))) := by simp [vbin, ibin]
theorem vbin_gtr : vbin .gtr g eqs (.int k a) (.int k b) = some (.bool (decide (b < a))) := by simp [vbin, ibin]
theorem vbin_geq : vbin .geq g eqs (.int k a) (.int k b) = some (.bool (decide (b ≤ a))) := by simp [vbin, ibin]
theorem vbin_beq {p q : Bool} : vbin .eql 1 eqs (.bool p) (.bool q) = some (.bool (p == q)) := by simp [vbin, oeq]
theorem vbin_bne {p q : Bool} : vbin .neq 1 eqs (.bool p) (.bool q) = some (.bool !(p == q)) := by simp [vbin, oeq]
theorem vun_not {p : Bool} : vun .not (.bool p) = some (.bool !p) := nr rfl
theorem vun_neg : vun .neg (.int k a) = some (.int k (k.wrap (0 - a))) := nr rfl
def cint1 (k : IntKind) (v : Value) (h : AH) : Option (Value × AH) := match v with | .int _ n => some (.int k (k.wrap n), h) | _ => none
theorem run_cint {x : Opd} : (I.cint k x).run T h = cint1 k (x.ev T) h := nr (by simp only [I.run, cint1]; rfl)
theorem cint1_mk {k' : IntKind} : cint1 k (.int k' a) h = some (.int k (k.wrap a), h) := nr rfl
def lens1 (v : Value) (h : AH) : Option (Value × AH) := match v with | .slice _ n _ => some (.int .i64 n, h) | .func (.yield n) _ _ => some (.int .i64 n, h) | _ => none
theorem run_lens {x : Opd} : (I.lens false x).run T h = lens1 (x.ev T) h := nr (by simp only [I.run, lens1]; rfl)
theorem lens1_mk {o : Option Addr} {n m : Nat} : lens1 (.slice o n m) h = some (.int .i64 n, h) := nr rfl
theorem run_lena {n : Nat} : (I.lena n).run T h = some (.int .i64 n, h) := nr rfl
def pick1 (c a b : Value) (h : AH) : Option (Value × AH) := match c with | .bool p => some (bif p then a else b, h) | _ => none
theorem run_pick {x y z : Opd} : (I.pick x y z).run T h = pick1 (x.ev T) (y.ev T) (z.ev T) h := nr (by simp only [I.run, pick1]; rfl)
theorem pick1_mk {p : Bool} {a b : Value} : pick1 (.bool p) a b h = some (bif p then a else b, h) := nr rfl
def fld1 (off : Nat) (v : Value) (h : AH) : Option (Value × AH) := match v with | .agg cs => opt1 cs[off]? h | _ => none
theorem run_fld {off : Nat} {x : Opd} : (I.fld off none x).run T h = fld1 off (x.ev T) h := nr <| by
  simp only [I.run, fld1, opt1]; rfl
theorem fld1_mk {off : Nat} {cs : List Value} : fld1 off (.agg cs.toArray) h = opt1 cs[off]? h := by simp [fld1]
def flds1 (off s : Nat) (v : Value) (h : AH) : Option (Value × AH) := match v with | .agg cs => if off + s ≤ cs.size then some (.agg ((cs.toList.drop off).take s).toArray, h) else none | _ => none
theorem run_flds {off s : Nat} {x : Opd} : (I.fld off (some s) x).run T h = flds1 off s (x.ev T) h := nr (by simp only [I.run, flds1]; rfl)
def fa1 (off : Nat) (v : Value) (h : AH) : Option (Value × AH) := match v with
  | .pointer (some ⟨B, o, none⟩) => some (.pointer (some ⟨B, o + off, none⟩), h)
  | .func (.method _) xs _ => some (fp (xs.toList.drop off), h)
  | _ => none
theorem run_fa {off : Nat} {x : Opd} : (I.fa off x).run T h = fa1 off (x.ev T) h := nr (by simp only [I.run, fa1]; rfl)
theorem fa1_mk {off B o : Nat} : fa1 off (.pointer (some ⟨B, o, none⟩)) h = some (.pointer (some ⟨B, o + off, none⟩), h) := nr rfl
def ext1 (i : Nat) (v : Value) (h : AH) : Option (Value × AH) := match v with | .tuple vs => opt1 vs[i]? h | _ => none
theorem run_ext {i : Nat} {x : Opd} : (I.ext i x).run T h = ext1 i (x.ev T) h := nr (by simp only [I.run, ext1, opt1]; rfl)
theorem ext1_mk {i : Nat} {cs : List Value} : ext1 i (.tuple cs.toArray) h = opt1 cs[i]? h := by simp [ext1]
def ias1 (e : Nat) (v i : Value) (h : AH) : Option (Value × AH) := match v, i with
  | .slice (some ⟨B, o, none⟩) len _, .int _ i => if 0 ≤ i ∧ i < len then some (.pointer (some ⟨B, o + i.toNat * e, none⟩), h) else none
  | .func (.yield len) xs _, .int _ i => if 0 ≤ i ∧ i < len then some (fp (xs.toList.drop (i.toNat * e)), h) else none
  | _, _ => none
theorem run_ias {e : Nat} {x i : Opd} : (I.ias e x i).run T h = ias1 e (x.ev T) (i.ev T) h := nr (by simp only [I.run, ias1]; rfl)
def iaa1 (n e : Nat) (v i : Value) (h : AH) : Option (Value × AH) := match v, i with
  | .pointer (some ⟨B, o, none⟩), .int _ i => if 0 ≤ i ∧ i < n then some (.pointer (some ⟨B, o + i.toNat * e, none⟩), h) else none
  | .func (.method _) xs _, .int _ i => if 0 ≤ i ∧ i < n then some (fp (xs.toList.drop (i.toNat * e)), h) else none
  | _, _ => none
theorem run_iaa {n e : Nat} {x i : Opd} : (I.iaa n e x i).run T h = iaa1 n e (x.ev T) (i.ev T) h := nr (by simp only [I.run, iaa1]; rfl)
theorem iaa1_mk {n e B o : Nat} {i : Int} (h0 : 0 ≤ i) (h1 : i < n) : iaa1 n e (.pointer (some ⟨B, o, none⟩)) (.int k i) h = some (.pointer (some ⟨B, o + i.toNat * e, none⟩), h) := by simp [iaa1, h0, h1]
def ld1 (a : Value) (h : AH) : Option (Value × AH) := match a with
  | .pointer (some ⟨B, o, none⟩) => match h.get B with
    | some (.row _ _ cs) => opt1 cs[o]? h
    | _ => none
  | .func (.method _) xs _ => opt1 xs[0]? h
  | _ => none
theorem run_ld {x : Opd} : (I.ld none x).run T h = ld1 (x.ev T) h := nr <| by
  simp only [I.run, ld1, AH.row?, opt1]
  split <;> rename_i heq <;> simp only [heq]
  · rename_i B o
    cases hB : h.get B with
    | none => rfl
    | some b => cases b <;> rfl
  · rfl
theorem ld1_mk {B o e : Nat} {t : TypeId} {cs : List Value} (hB : h.get B = some (.row t e cs)) : ld1 (.pointer (some ⟨B, o, none⟩)) h = opt1 cs[o]? h := by simp [ld1, hB]
def lds1 (s : Nat) (a : Value) (h : AH) : Option (Value × AH) := match a with
  | .pointer (some ⟨B, o, none⟩) => match h.get B with
    | some (.row _ _ cs) => if o + s ≤ cs.length then some (.agg ((cs.drop o).take s).toArray, h) else none
    | _ => none
  | .func (.method _) xs _ => if s ≤ xs.size then some (.agg (xs.toList.take s).toArray, h) else none
  | _ => none
theorem run_lds {s : Nat} {x : Opd} : (I.ld (some s) x).run T h = lds1 s (x.ev T) h := nr <| by
  simp only [I.run, lds1, AH.row?]
  split <;> rename_i heq <;> simp only [heq]
  rename_i B o
  cases hB : h.get B with
  | none => simp
  | some b => cases b <;> simp
theorem lds1_mk {B o e s : Nat} {t : TypeId} {cs : List Value} (hB : h.get B = some (.row t e cs)) (hs : o + s ≤ cs.length) : lds1 s (.pointer (some ⟨B, o, none⟩)) h = some (.agg ((cs.drop o).take s).toArray, h) := by simp [lds1, hB, hs]
def st1 (s : Nat) (a x : Value) (h : AH) : Option (Value × AH) := match a with
  | .pointer (some ⟨B, o, none⟩) => match h.get B with
    | some (.row t e cs) => if h.ro ≤ B ∧ (cellsOf x).length = s ∧ o + s ≤ cs.length ∧ (cellsOf x).all one = true then some (.tuple #[], h.put B (some (.row t e (splice cs o (cellsOf x))))) else none
    | _ => none
  | _ => none
theorem run_st {s : Nat} {a x : Opd} : (I.st s a x).run T h = st1 s (a.ev T) (x.ev T) h := nr <| by
  simp only [I.run, st1, AH.row?]
  split <;> rename_i heq <;> simp only [heq]
  rename_i B o
  cases hB : h.get B with
  | none => simp
  | some b => cases b <;> simp
theorem st1_mk {s B o e : Nat} {t : TypeId} {cs : List Value} {x : Value} (hB : h.get B = some (.row t e cs)) (hr : h.ro ≤ B) (hl : (cellsOf x).length = s) (ho : o + s ≤ cs.length) (hx : (cellsOf x).all one = true) : st1 s (.pointer (some ⟨B, o, none⟩)) x h = some (.tuple #[], h.put B (some (.row t e (splice cs o (cellsOf x))))) := by
  simp only [st1, hB]; rw [if_pos ⟨hr, hl, ho, hx⟩]
theorem run_new {t : TypeId} {e : Nat} {zs : List Value} : (I.new t e zs).run T h = some (.pointer (some ⟨h.next, 0, none⟩), h.new (.row t e zs)) := nr rfl
theorem run_mkm : I.mkm.run T h = some (.map (some h.next), h.new (.map [])) := nr rfl
def nil1 (v : Value) (h : AH) : Option (Value × AH) := match v with
  | .pointer (some a) => some (.pointer (some a), h)
  | .func (.func f) xs cs => some (.func (.func f) xs cs, h)
  | .func (.method s) xs ys => some (.func (.method s) xs ys, h)
  | _ => none
theorem run_nilck {x : Opd} : (I.nilck x).run T h = nil1 (x.ev T) h := nr (by simp only [I.run, nil1]; rfl)
theorem nil1_ptr {a : Addr} : nil1 (.pointer (some a)) h = some (.pointer (some a), h) := nr rfl
theorem run_build {zs : List Value} {ps : List (Nat × Nat × Opd)} : (I.build zs ps).run T h = opt1 ((fillL T zs ps).map fun cs => .agg cs.toArray) h := nr <| by
  simp only [I.run]; cases fillL T zs ps <;> rfl
theorem run_mkf {f : FuncId} {xs cs : List Opd} : (I.mkf f xs cs).run T h = some (.func (.func f) (xs.map (·.ev T)).toArray (cs.map (·.ev T)).toArray, h) := nr rfl

theorem wrap_id {a : Int} (h0 : -9223372036854775808 ≤ a) (h1 : a < 9223372036854775808) : IntKind.wrap .i64 a = a := Go.IntWalk.i64_in a ⟨h0, by omega⟩
end
end Go.Proofs.Ythofdojknjhpgaa
