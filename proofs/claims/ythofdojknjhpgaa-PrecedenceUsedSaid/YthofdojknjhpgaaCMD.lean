/- Own texts, merged: a part of the proof that is told in the last text of this claim. -/
import Derived.Test.YthofdojknjhpgaaCMC
set_option linter.unusedVariables false
set_option linter.unusedSimpArgs false
namespace Go.Proofs.Ythofdojknjhpgaa
open Go

def opd : Operand → Option Opd
  | .tmp t => some (.t t)
  | .const v => if plainV v then some (.c v) else none
  | .func f => some (.c (.func (.func f) #[] #[]))
  | .global _ => none
def opds : List Operand → Option (List Opd)
  | [] => some []
  | x :: xs => match opd x, opds xs with | some y, some ys => some (y :: ys) | _, _ => none
def opdO : Option Operand → Option (Option Opd)
  | none => some none
  | some x => match opd x with | some y => some (some y) | none => none
def isAggT (P : Program) (t : TypeId) : Bool := match P.underlying t with | some (.struct _) | some (.array _ _) => true | _ => false
def sizeT (P : Program) (t : TypeId) : Option Nat := match P.info? t with | some i => some i.size | none => none
/-- The zero value's cells, if they are plain. -/
def zeroT (P : Program) (t : TypeId) : Option (List Value) := match P.info? t with
  | some i => match i.zero with | some z => if (Value.cells z).toList.all plain1 && plainV z then some (Value.cells z).toList else none | none => none
  | none => none
def zeroV (P : Program) (t : TypeId) : Option Value := match P.info? t with
  | some i => match i.zero with | some z => if plainV z then some z else none | none => none
  | none => none
/-- The cells of an element, if slices are cut out of a variable of this type. -/
def eszT (P : Program) (t : TypeId) : Nat := match P.underlying t with | some (.array _ e) => (sizeT P e).getD 0 | _ => 0
def aggS (P : Program) (t : TypeId) : Option (Option Nat) := match P.underlying t, sizeT P t with
  | some _, some s => some (if isAggT P t then some s else none)
  | _, _ => none
def simpleT (P : Program) (t : TypeId) : Nat := match P.underlying t with | some .bool => 1 | some (.int _) => 2 | some .string => 3 | _ => 0
def eqTag (P : Program) (t : TypeId) : Nat := match P.underlying t with
  | some .bool => 1
  | some (.pointer _) => 2
  | some (.slice _) => 3
  | some (.map _ _) => 4
  | some (.func _ _ _) => 5
  | some (.struct fs) => if P.stoodInHeld t || P.eqGuardType P.depth t || fs.toList.any (fun f => f.name == "_" || simpleT P f.type == 0) then 0 else 6
  | _ => 0
def eqOffs (P : Program) (t : TypeId) : List (Nat × Nat) := match P.underlying t with
  | some (.struct fs) => fs.toList.map fun f => (f.offset, simpleT P f.type)
  | _ => []
def placesS (P : Program) (fs : Array Field) : List (Nat × Operand) → Option (List (Nat × Nat × Opd))
  | [] => some []
  | (i, x) :: ps => match fs[i]?, opd x, placesS P fs ps with
    | some f, some y, some r => match sizeT P f.type with | some s => some ((f.offset, s, y) :: r) | none => none
    | _, _, _ => none
def placesA (s : Nat) : List (Nat × Operand) → Option (List (Nat × Nat × Opd))
  | [] => some []
  | (i, x) :: ps => match opd x, placesA s ps with
    | some y, some r => some ((i * s, s, y) :: r)
    | _, _ => none
def sizesT (P : Program) (fs : Array Field) : Bool := fs.toList.all fun f => (P.info? f.type).isSome

def compB (P : Program) (b : Builtin) (args : List Operand) (ts : List TypeId) : Option I :=
  match b, args, ts with
  | .len, [x], [t] => match P.underlying t, opd x with
    | some .string, some y => some (.lens true y)
    | some (.slice _), some y => some (.lens false y)
    | some (.array n _), some _ => some (.lena n)
    | some (.map _ _), some y => some (.lenm y)
    | _, _ => none
  | .append, [s, x], [t, u] => if t = u then match P.underlying t with
      | some (.slice e) => match P.info? e, opd s, opd x, zeroT P e with
        | some i, some s, some x, some z => if 0 < i.size ∧ z.length = i.size then some (.app e i.size i.bytes s x) else none
        | _, _, _, _ => none
      | _ => none
    else none
  | .copy, [d, s], [t, u] => match P.underlying t with
      | some (.slice e) => match P.info? e, opd d, opd s with
        | some i, some d, some s => if t = u ∧ 0 < i.size then some (.cpy i.size d s) else none
        | _, _, _ => none
      | _ => none
  | .delete, [m, k], [t, _] => match P.underlying t with
      | some (.map kt _) => match opd m, opd k with
        | some m, some k => some (.del (simpleT P kt) m k)
        | _, _ => none
      | _ => none
  | .max, xs, _ => match opds xs with | some ys => some (.mm true ys) | none => none
  | .min, xs, _ => match opds xs with | some ys => some (.mm false ys) | none => none
  | _, _, _ => none

def comp (P : Program) (o : Oper) : Option I :=
  match o.op with
  | .move x => match opd x with | some y => some (.mv y) | none => none
  | .assign x => match opd x with | some y => some (.mv y) | none => none
  | .pick c a b => match opd c, opd a, opd b with | some c, some a, some b => some (.pick c a b) | _, _, _ => none
  | .alloc t => match zeroT P t with | some zs => some (.new t (eszT P t) zs) | none => none
  | .box t x => match opd x with | some y => some (.box t (eszT P t) y) | none => none
  | .build t ps => match zeroT P t, P.underlying t with
    | some zs, some (.struct fs) => if sizesT P fs then match placesS P fs ps.toList with | some r => some (.build zs r) | none => none else none
    | some zs, some (.array _ e) => match sizeT P e with
      | some s => match placesA s ps.toList with | some r => some (.build zs r) | none => none
      | none => none
    | _, _ => none
  | .buildSlice t len ps => match P.underlying t with
    | some (.slice e) => match sizeT P e, zeroT P e with
      | some s, some z => if 0 < s ∧ z.length = s ∧ len * s ≤ 16777216 then match placesA s ps.toList with
          | some r => some (.bsl e s len (zerosN z len) r)
          | none => none
        else none
      | _, _ => none
    | _ => none
  | .load t a => match aggS P t, opd a with | some s, some y => some (.ld s y) | _, _ => none
  | .store t a x => match sizeT P t, opd a, opd x with | some s, some a, some x => some (.st s a x) | _, _, _ => none
  | .nilCheck x => match opd x with | some y => some (.nilck y) | none => none
  | .binOp op t x y _ => match opd x, opd y with
    | some x, some y => some (.bin op (eqTag P t) (eqOffs P t) x y)
    | _, _ => none
  | .unOp op _ x => match opd x with | some y => some (.un op y) | none => none
  | .convert src dst x => match P.underlying src, P.underlying dst, opd x with
    | some (.int _), some (.int k), some y => some (.cint k y)
    | some .string, some .string, some y => some (.cstr y)
    | _, _, _ => none
  | .makeInterface t x => match P.underlying t, opd x with
    | some (.interface _), _ => none
    | some _, some y => some (.mki t y)
    | _, _ => none
  | .typeAssert x xt t ok => match P.underlying t, opd x, zeroV P t with
    | some (.interface _), _, _ => none
    | some _, some y, some z => some (.tas t ok z y)
    | _, _, _ => none
  | .makeFunc (.func f) first captured => match opds first.toList, opds captured.toList with
    | some xs, some ys => some (.mkf f xs ys)
    | _, _ => none
  | .makeMap _ none => some .mkm
  | .makeSlice t l c => match P.underlying t with
    | some (.slice e) => match P.info? e, zeroT P e, opd l, opd c with
      | some i, some z, some l, some c => if z.length = i.size ∧ 0 < i.size then some (.mks e i.size i.bytes z l c) else none
      | _, _, _, _ => none
    | _ => none
  | .slice t x lo hi none => match P.underlying t, opd x, opdO lo, opdO hi with
    | some .string, some x, some lo, some hi => some (.slstr x lo hi)
    | some (.slice e), some x, some lo, some hi => match sizeT P e with | some s => some (.sls s x lo hi) | none => none
    | some (.array n e), some x, some lo, some hi => match sizeT P e with | some s => some (.sla n s x lo hi) | none => none
    | _, _, _, _ => none
  | .fieldAddr t x f => match P.underlying t, opd x with
    | some (.struct fs), some y => match fs[f]? with
      | some fd => match sizeT P fd.type with | some s => if s = 0 then none else some (.fa fd.offset y) | none => none
      | none => none
    | _, _ => none
  | .field t x f => match P.underlying t, opd x with
    | some (.struct fs), some y => match fs[f]? with
      | some fd => match aggS P fd.type with | some s => some (.fld fd.offset s y) | none => none
      | none => none
    | _, _ => none
  | .indexAddr t x i => match P.underlying t, opd x, opd i with
    | some (.slice e), some x, some i => match sizeT P e with | some s => some (.ias s x i) | none => none
    | some (.array n e), some x, some i => match sizeT P e with | some s => some (.iaa n s x i) | none => none
    | _, _, _ => none
  | .index t x i => match P.underlying t, opd x, opd i with
    | some .string, some x, some i => some (.ixs x i)
    | some (.array n e), some x, some i => match aggS P e, sizeT P e with | some ag, some s => some (.ixa n s ag x i) | _, _ => none
    | _, _, _ => none
  | .lookup t m k ok => match P.underlying t, opd m, opd k with
    | some (.map kt e), some m, some k => match zeroV P e with | some z => some (.lk (simpleT P kt) z ok m k) | none => none
    | _, _, _ => none
  | .mapUpdate t m k x => match P.underlying t, opd m, opd k, opd x with
    | some (.map kt _), some m, some k, some x => some (.mup (simpleT P kt) m k x)
    | _, _, _, _ => none
  | .insert t m k x => match P.underlying t, opd m, opd k, opd x with
    | some (.map kt _), some m, some k, some x => some (.mup (simpleT P kt) m k x)
    | _, _, _, _ => none
  | .extract x i => match opd x with | some y => some (.ext i y) | none => none
  | .call { callee := .builtin b, args, argTypes } => compB P b args.toList argTypes.toList
  | _ => none

def TR (φ : Phi) (n : Nat) (T : Tm) (a : Act) : Prop := ∀ t, VR φ n (T t) (a.tmps.getD t undef)
theorem TR.mono {φ ψ : Phi} {n m : Nat} {T : Tm} {a : Act} (h : TR φ n T a) (ha : Agr n φ ψ) (hm : n ≤ m) : TR ψ m T a := fun t => (h t).mono ha hm
theorem TR.opd {φ : Phi} {n : Nat} {T : Tm} {a : Act} (h : TR φ n T a) {x : Operand} {y : Opd} (hx : opd x = some y) : VR φ n (y.ev T) (a.eval x) := by
  cases x with
  | tmp t => simp [Ythofdojknjhpgaa.opd] at hx; subst hx; exact h t
  | const v =>
    simp only [Ythofdojknjhpgaa.opd] at hx
    split at hx
    · rename_i hv; cases hx; exact VR.plainV hv
    · cases hx
  | func f => simp [Ythofdojknjhpgaa.opd] at hx; subst hx; exact VR.plain1 rfl
  | global g => simp [Ythofdojknjhpgaa.opd] at hx
theorem TR.opds {φ : Phi} {n : Nat} {T : Tm} {a : Act} (h : TR φ n T a) : ∀ {xs : List Operand} {ys : List Opd}, opds xs = some ys → VRL φ n (ys.map (·.ev T)) (xs.map a.eval)
  | [], ys, hx => by simp [Ythofdojknjhpgaa.opds] at hx; subst hx; exact .nil
  | x :: xs, ys, hx => by
    simp only [Ythofdojknjhpgaa.opds] at hx
    split at hx
    · rename_i y ys' h1 h2
      cases hx
      exact .cons (h.opd h1) (TR.opds h h2)
    · cases hx
/-- What an operation comes to in the world. -/
def OK (base : Nat) (w0 : World) (φ : Phi) (h : AH) (r : Result Next) (v : Value) (h' : AH) : Prop :=
  ∃ ψ nx w' c, r = .ok nx w' ∧ (nx = .value c ∨ (nx = .skip ∧ c = undef)) ∧ Agr h.next φ ψ ∧ h.next ≤ h'.next ∧ VR ψ h'.next v c ∧ HR base w0 ψ h' w'
theorem OK.pure {base : Nat} {w0 : World} {φ : Phi} {h : AH} {w : World} {v c : Value} (hr : HR base w0 φ h w) (hv : VR φ h.next v c) : OK base w0 φ h (.ok (.value c) w) v h :=
  ⟨φ, _, w, c, rfl, .inl rfl, Agr.refl _ _, Nat.le_refl _, hv, hr⟩
theorem OK.val {base : Nat} {w0 : World} {φ ψ : Phi} {h h' : AH} {w' : World} {v c : Value} (ha : Agr h.next φ ψ) (hn : h.next ≤ h'.next) (hv : VR ψ h'.next v c) (hr : HR base w0 ψ h' w') : OK base w0 φ h (.ok (.value c) w') v h' :=
  ⟨ψ, _, w', c, rfl, .inl rfl, ha, hn, hv, hr⟩
theorem OK.skip {base : Nat} {w0 : World} {φ ψ : Phi} {h h' : AH} {w' : World} (ha : Agr h.next φ ψ) (hn : h.next ≤ h'.next) (hr : HR base w0 ψ h' w') : OK base w0 φ h (.ok .skip w') (.tuple #[]) h' :=
  ⟨ψ, _, w', _, rfl, .inr ⟨rfl, rfl⟩, ha, hn, .any _, hr⟩
end Go.Proofs.Ythofdojknjhpgaa
