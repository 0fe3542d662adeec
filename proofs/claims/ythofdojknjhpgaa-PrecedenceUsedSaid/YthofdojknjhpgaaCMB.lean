/- Own texts, merged: a part of the proof that is told in the last text of this claim. -/
import Derived.Test.YthofdojknjhpgaaCMA
set_option linter.unusedVariables false
set_option linter.unusedSimpArgs false
namespace Go.Proofs.Ythofdojknjhpgaa
open Go

inductive Opd where
  | t (n : Nat)
  | c (v : Value)
def Opd.ev (T : Nat → Value) : Opd → Value
  | .t n => T n
  | .c v => v
abbrev Tm := Nat → Value
def upd (T : Tm) (d : Nat) (v : Value) : Tm := fun i => if i = d then v else T i
def updO (T : Tm) (d : Option Nat) (v : Value) : Tm := match d with | some d => upd T d v | none => T

inductive I where
  | mv (x : Opd)
  | pick (c a b : Opd)
  | new (t : TypeId) (e : Nat) (zs : List Value)
  | box (t : TypeId) (e : Nat) (x : Opd)
  | build (zs : List Value) (ps : List (Nat × Nat × Opd))
  | bsl (t : TypeId) (e len : Nat) (zs : List Value) (ps : List (Nat × Nat × Opd))
  | ld (s : Option Nat) (a : Opd)
  | st (s : Nat) (a x : Opd)
  | nilck (x : Opd)
  | bin (op : BinOp) (g : Nat) (eqs : List (Nat × Nat)) (x y : Opd)
  | un (op : UnOp) (x : Opd)
  | cint (k : IntKind) (x : Opd)
  | mki (t : TypeId) (x : Opd)
  | tas (t : TypeId) (ok : Bool) (z : Value) (x : Opd)
  | mkf (f : FuncId) (first captured : List Opd)
  | mkm
  | mks (t : TypeId) (e bytes : Nat) (z : List Value) (l c : Opd)
  | sls (e : Nat) (x : Opd) (lo hi : Option Opd)
  | slstr (x : Opd) (lo hi : Option Opd)
  | sla (n e : Nat) (x : Opd) (lo hi : Option Opd)
  | fa (off : Nat) (x : Opd)
  | fld (off : Nat) (s : Option Nat) (x : Opd)
  | ias (e : Nat) (x i : Opd)
  | iaa (n e : Nat) (x i : Opd)
  | ixs (x i : Opd)
  | ixa (n e : Nat) (s : Option Nat) (x i : Opd)
  | lk (g : Nat) (z : Value) (ok : Bool) (m k : Opd)
  | mup (g : Nat) (m k x : Opd)
  | del (g : Nat) (m k : Opd)
  | ext (i : Nat) (x : Opd)
  | lens (str : Bool) (x : Opd)
  | cstr (x : Opd)
  | lena (n : Nat)
  | lenm (x : Opd)
  | app (t : TypeId) (e bytes : Nat) (s x : Opd)
  | cpy (e : Nat) (d s : Opd)
  | mm (max : Bool) (xs : List Opd)

/-- A value without addresses. -/
def plain1 : Value → Bool
  | .bool _ | .int _ _ | .float _ _ | .string _ | .pointer none | .slice none 0 0 | .map none | .nilFunc | .nilIface => true
  | .func (.func _) xs cs => xs.size == 0 && cs.size == 0
  | _ => false
def plainV : Value → Bool
  | .agg cs => cs.toList.all plain1
  | v => plain1 v

def ibin (op : BinOp) (k : IntKind) (a b : Int) : Option Value :=
  match op with
  | .add => some (.int k (k.wrap (a + b)))
  | .sub => some (.int k (k.wrap (a - b)))
  | .mul => some (.int k (k.wrap (a * b)))
  | .quo => if b = 0 then none else some (.int k (k.wrap (a.tdiv b)))
  | .rem => if b = 0 then none else some (.int k (a.tmod b))
  | .and => some (.int k (k.wrap ((BitVec.ofInt k.bits a &&& BitVec.ofInt k.bits b).toNat)))
  | .or => some (.int k (k.wrap ((BitVec.ofInt k.bits a ||| BitVec.ofInt k.bits b).toNat)))
  | .xor => some (.int k (k.wrap ((BitVec.ofInt k.bits a ^^^ BitVec.ofInt k.bits b).toNat)))
  | .andNot => some (.int k (k.wrap ((BitVec.ofInt k.bits a &&& ~~~BitVec.ofInt k.bits b).toNat)))
  | .eql => some (.bool (a == b))
  | .neq => some (.bool (a != b))
  | .lss => some (.bool (a < b))
  | .leq => some (.bool (a ≤ b))
  | .gtr => some (.bool (a > b))
  | .geq => some (.bool (a ≥ b))
  | _ => none
def ishift (op : BinOp) (k : IntKind) (a b : Int) : Option Value :=
  if b < 0 then none else
  match op with
  | .shl => some (.int k (k.wrap (a * 2 ^ (min b.toNat k.bits))))
  | .shr => some (.int k (a.fdiv (2 ^ (min b.toNat k.bits))))
  | _ => none
def sbin (op : BinOp) (a b : ByteArray) : Option Value :=
  match op with
  | .add => if a.size + b.size ≤ 9223372036854775807 then some (.string (a ++ b)) else none
  | .eql => some (.bool (a.toList == b.toList))
  | .neq => some (.bool !(a.toList == b.toList))
  | .lss => some (.bool (Op.bytesLess a.toList b.toList))
  | .leq => some (.bool (Op.bytesLess a.toList b.toList || a.toList == b.toList))
  | .gtr => some (.bool !(Op.bytesLess a.toList b.toList || a.toList == b.toList))
  | .geq => some (.bool !Op.bytesLess a.toList b.toList)
  | _ => none
/-- Equality of two simple values of one kind (1: bools, 2: numbers, 3: strings). -/
def veq (g : Nat) (x y : Value) : Option Bool :=
  match x, y with
  | .int k a, .int k' b => if g = 2 ∧ k = k' then some (a == b) else none
  | .bool a, .bool b => if g = 1 then some (a == b) else none
  | .string a, .string b => if g = 3 then some (a.toList == b.toList) else none
  | _, _ => none
def aeq (xs ys : Array Value) : List (Nat × Nat) → Option Bool
  | [] => some true
  | (o, g) :: os => match xs[o]?, ys[o]? with
    | some x, some y => match veq g x y with
      | some b => match aeq xs ys os with
        | some c => some (b && c)
        | none => none
      | none => none
    | _, _ => none
/-- '==' beside numbers and strings (1: bools, 2: pointers, 3: slices, 4: maps, 5: functions, 6: structs). -/
def oeq (g : Nat) (eqs : List (Nat × Nat)) (x y : Value) : Option Bool :=
  match x, y with
  | .bool a, .bool b => if g = 1 then some (a == b) else none
  | .pointer none, .pointer b => if g = 2 then some b.isNone else none
  | .pointer (some _), .pointer none => if g = 2 then some false else none
  | .slice none _ _, .slice b _ _ => if g = 3 then some b.isNone else none
  | .slice (some _) _ _, .slice none _ _ => if g = 3 then some false else none
  | .map none, .map b => if g = 4 then some b.isNone else none
  | .map (some _), .map none => if g = 4 then some false else none
  | .nilFunc, .nilFunc => if g = 5 then some true else none
  | .nilFunc, .func (.func _) _ _ => if g = 5 then some false else none
  | .func (.func _) _ _, .nilFunc => if g = 5 then some false else none
  | .func (.yield l) _ _, .slice none _ _ => if g = 3 ∧ 0 < l then some false else none
  | .slice none _ _, .func (.yield l) _ _ => if g = 3 ∧ 0 < l then some false else none
  | .func (.method _) _ _, .pointer none => if g = 2 then some false else none
  | .pointer none, .func (.method _) _ _ => if g = 2 then some false else none
  | .agg xs, .agg ys => if g = 6 then aeq xs ys eqs else none
  | _, _ => none
def vbin (op : BinOp) (g : Nat) (eqs : List (Nat × Nat)) (x y : Value) : Option Value :=
  match x, y with
  | .int k a, .int k' b => match op with
    | .shl => ishift .shl k a b
    | .shr => ishift .shr k a b
    | _ => if k = k' then ibin op k a b else none
  | .string a, .string b => sbin op a b
  | _, _ => match op with
    | .eql => match oeq g eqs x y with | some b => some (.bool b) | none => none
    | .neq => match oeq g eqs x y with | some b => some (.bool !b) | none => none
    | _ => none
def vun (op : UnOp) (x : Value) : Option Value :=
  match op, x with
  | .neg, .int k n => some (.int k (k.wrap (0 - n)))
  | .not, .bool b => some (.bool !b)
  | _, _ => none

def tasV (t : TypeId) (ok : Bool) (z x : Value) : Option Value := match x with
  | .iface t' v => if t' = t then some (bif ok then .tuple #[v, .bool true] else v) else bif ok then some (.tuple #[z, .bool false]) else none
  | .nilIface => bif ok then some (.tuple #[z, .bool false]) else none
  | _ => none
def cellsOf (v : Value) : List Value := match v with | .agg cs => cs.toList | v => [v]
def splice (cs : List Value) (off : Nat) (vs : List Value) : List Value := cs.take off ++ vs ++ cs.drop (off + vs.length)
def isK (v : Value) : Bool := match v with | .tuple _ | .chan _ => false | _ => true
theorem isK_ne {v : Value} (h : isK v = true) : v ≠ .tuple #[] := by rintro rfl; simp [isK] at h
def fillL (T : Tm) : List Value → List (Nat × Nat × Opd) → Option (List Value)
  | cs, [] => some cs
  | cs, (off, s, x) :: ps =>
    let vs := cellsOf (x.ev T)
    if vs.length = s ∧ off + s ≤ cs.length ∧ isK (x.ev T) = true then fillL T (splice cs off vs) ps else none
def zerosN (z : List Value) : Nat → List Value
  | 0 => []
  | n + 1 => z ++ zerosN z n

def AH.row? (h : AH) (B : Nat) : Option (TypeId × Nat × List Value) := match h.get B with | some (.row t e cs) => some (t, e, cs) | _ => none
def AH.map? (h : AH) (B : Nat) : Option (List (Value × Value)) := match h.get B with | some (.map es) => some es | _ => none

def bound (T : Tm) (d : Nat) : Option Opd → Option Nat
  | none => some d
  | some x => match x.ev T with | .int _ i => if 0 ≤ i then some i.toNat else none | _ => none

def mfind (g : Nat) (k : Value) : List (Value × Value) → Nat → Option (Option (Nat × Value))
  | [], _ => some none
  | (k', v) :: es, i => match veq g k k' with
    | some true => some (some (i, v))
    | some false => mfind g k es (i + 1)
    | none => none

def mm2 (mx : Bool) (x y : Int) : Int := bif mx then (if y > x then y else x) else (if y < x then y else x)
def mmL (mx : Bool) (T : Tm) (k : IntKind) (x : Int) : List Opd → Option Int
  | [] => some x
  | y :: ys => match y.ev T with | .int k' b => if k' = k then mmL mx T k (mm2 mx x b) ys else none | _ => none

/-- The cells that a slice (or nil) shows. -/
def AH.src (h : AH) (e : Nat) : Value → Option (List Value)
  | .slice none _ _ => some []
  | .slice (some ⟨B, o, none⟩) l _ => if l = 0 then some [] else match h.row? B with
    | some (_, _, cs) => if o + l * e ≤ cs.length then some ((cs.drop o).take (l * e)) else none
    | none => none
  | .func (.yield l) xs _ => if xs.size = l * e then some xs.toList else none
  | _ => none
def lenV : Value → Option Nat
  | .slice _ l _ => some l
  | .func (.yield l) _ _ => some l
  | .string s => some s.size
  | _ => none

def lkV (h : AH) (g : Nat) (z : Value) (ok : Bool) (m k : Value) : Option Value := match m with
  | .map none => match veq g k k with | some _ => some (bif ok then .tuple #[z, .bool false] else z) | none => none
  | .map (some B) => match h.map? B with
    | some es => match veq g k k, mfind g k es 0 with
      | some _, some (some (_, v)) => some (bif ok then .tuple #[v, .bool true] else v)
      | some _, some none => some (bif ok then .tuple #[z, .bool false] else z)
      | _, _ => none
    | none => none
  | _ => none
def lenmV (h : AH) (m : Value) : Option Value := match m with
  | .map none => some (.int .i64 0)
  | .map (some B) => match h.map? B with | some es => some (.int .i64 es.length) | none => none
  | _ => none
def I.run (i : I) (T : Tm) (h : AH) : Option (Value × AH) :=
  match i with
  | .mv x => some (x.ev T, h)
  | .pick c a b => match c.ev T with | .bool b' => some (bif b' then a.ev T else b.ev T, h) | _ => none
  | .new t e zs => some (.pointer (some ⟨h.next, 0, none⟩), h.new (.row t e zs))
  | .box t e x => let cs := cellsOf (x.ev T); if cs.all one then some (.pointer (some ⟨h.next, 0, none⟩), h.new (.row t e cs)) else none
  | .build zs ps => match fillL T zs ps with | some cs => some (.agg cs.toArray, h) | none => none
  | .bsl t e len zs ps => match fillL T zs ps with
    | some cs => if cs.all one then some (.slice (some ⟨h.next, 0, none⟩) len len, h.new (.row t e cs)) else none
    | none => none
  | .ld none a => match a.ev T with
    | .pointer (some ⟨B, o, none⟩) => match h.row? B with
      | some (_, _, cs) => match cs[o]? with | some v => some (v, h) | none => none
      | none => none
    | .func (.method _) xs _ => match xs[0]? with | some v => some (v, h) | none => none
    | _ => none
  | .ld (some s) a => match a.ev T with
    | .pointer (some ⟨B, o, none⟩) => match h.row? B with
      | some (_, _, cs) => if o + s ≤ cs.length then some (.agg ((cs.drop o).take s).toArray, h) else none
      | none => none
    | .func (.method _) xs _ => if s ≤ xs.size then some (.agg (xs.toList.take s).toArray, h) else none
    | _ => none
  | .st s a x => match a.ev T with
    | .pointer (some ⟨B, o, none⟩) => match h.row? B with
      | some (t, e, cs) =>
        let vs := cellsOf (x.ev T)
        if h.ro ≤ B ∧ vs.length = s ∧ o + s ≤ cs.length ∧ vs.all one = true then some (.tuple #[], h.put B (some (.row t e (splice cs o vs)))) else none
      | none => none
    | _ => none
  | .nilck x => match x.ev T with
    | .pointer (some a) => some (.pointer (some a), h)
    | .func (.func f) xs cs => some (.func (.func f) xs cs, h)
    | .func (.method s) xs ys => some (.func (.method s) xs ys, h)
    | _ => none
  | .bin op g eqs x y => match vbin op g eqs (x.ev T) (y.ev T) with | some v => some (v, h) | none => none
  | .un op x => match vun op (x.ev T) with | some v => some (v, h) | none => none
  | .cint k x => match x.ev T with | .int _ n => some (.int k (k.wrap n), h) | _ => none
  | .mki t x => if isK (x.ev T) = true then some (.iface t (x.ev T), h) else none
  | .tas t ok z x => match tasV t ok z (x.ev T) with | some v => some (v, h) | none => none
  | .mkf f first captured => some (.func (.func f) (first.map (·.ev T)).toArray (captured.map (·.ev T)).toArray, h)
  | .mkm => some (.map (some h.next), h.new (.map []))
  | .mks t e bytes z l c => match l.ev T, c.ev T with
    | .int _ l, .int _ c => if 0 ≤ l ∧ l ≤ c ∧ (bytes : Int) * c ≤ 281474976710656 ∧ c ≤ 9223372036854775807 then some (.slice (some ⟨h.next, 0, none⟩) l.toNat l.toNat, h.new (.row t e (zerosN z l.toNat))) else none
    | _, _ => none
  | .sls e x lo hi => match x.ev T with
    | .slice a len _ => match bound T 0 lo, bound T len hi with
      | some l, some r => if l ≤ r ∧ r ≤ len then
          match a with
          | none => some (.slice none 0 0, h)
          | some ⟨B, o, none⟩ => match h.row? B with
            | some (_, e', _) => if e' = e then some (.slice (some ⟨B, o + l * e, none⟩) (r - l) (r - l), h) else none
            | none => none
          | _ => none
        else none
      | _, _ => none
    | .func (.yield len) xs _ => match bound T 0 lo, bound T len hi with
      | some l, some r => if l ≤ r ∧ r ≤ len ∧ xs.size = len * e then some (fz (r - l) ((xs.toList.drop (l * e)).take ((r - l) * e)), h) else none
      | _, _ => none
    | _ => none
  | .slstr x lo hi => match x.ev T with
    | .string s => match bound T 0 lo, bound T s.size hi with
      | some l, some r => if l ≤ r ∧ r ≤ s.size then some (.string (s.extract l r), h) else none
      | _, _ => none
    | _ => none
  | .sla n e x lo hi => match x.ev T with
    | .pointer (some ⟨B, o, none⟩) => match h.row? B with
      | some (_, e', cs) => match bound T 0 lo, bound T n hi with
        | some l, some r => if l ≤ r ∧ r ≤ n ∧ e' = e ∧ o + n * e ≤ cs.length ∧ h.ro ≤ B then some (.slice (some ⟨B, o + l * e, none⟩) (r - l) (r - l), h) else none
        | _, _ => none
      | none => none
    | _ => none
  | .fa off x => match x.ev T with
    | .pointer (some ⟨B, o, none⟩) => some (.pointer (some ⟨B, o + off, none⟩), h)
    | .func (.method _) xs _ => some (fp (xs.toList.drop off), h)
    | _ => none
  | .fld off none x => match x.ev T with | .agg cs => (match cs[off]? with | some v => some (v, h) | none => none) | _ => none
  | .fld off (some s) x => match x.ev T with | .agg cs => if off + s ≤ cs.size then some (.agg ((cs.toList.drop off).take s).toArray, h) else none | _ => none
  | .ias e x i => match x.ev T, i.ev T with
    | .slice (some ⟨B, o, none⟩) len _, .int _ i => if 0 ≤ i ∧ i < len then some (.pointer (some ⟨B, o + i.toNat * e, none⟩), h) else none
    | .func (.yield len) xs _, .int _ i => if 0 ≤ i ∧ i < len then some (fp (xs.toList.drop (i.toNat * e)), h) else none
    | _, _ => none
  | .iaa n e x i => match x.ev T, i.ev T with
    | .pointer (some ⟨B, o, none⟩), .int _ i => if 0 ≤ i ∧ i < n then some (.pointer (some ⟨B, o + i.toNat * e, none⟩), h) else none
    | .func (.method _) xs _, .int _ i => if 0 ≤ i ∧ i < n then some (fp (xs.toList.drop (i.toNat * e)), h) else none
    | _, _ => none
  | .ixs x i => match x.ev T, i.ev T with
    | .string s, .int _ i => if 0 ≤ i then match s.data[i.toNat]? with | some b => some (.int .u8 b.toNat, h) | none => none else none
    | _, _ => none
  | .ixa n e none x i => match x.ev T, i.ev T with
    | .agg cs, .int _ i => if 0 ≤ i ∧ i < n then match cs[i.toNat * e]? with | some v => some (v, h) | none => none else none
    | _, _ => none
  | .ixa n e (some s) x i => match x.ev T, i.ev T with
    | .agg cs, .int _ i => if 0 ≤ i ∧ i < n ∧ i.toNat * e + s ≤ cs.size then some (.agg ((cs.toList.drop (i.toNat * e)).take s).toArray, h) else none
    | _, _ => none
  | .lk g z ok m k => match lkV h g z ok (m.ev T) (k.ev T) with | some v => some (v, h) | none => none
  | .mup g m k x => match m.ev T with
    | .map (some B) => match h.map? B with
      | some es => if h.ro ≤ B ∧ one (x.ev T) = true then match veq g (k.ev T) (k.ev T), mfind g (k.ev T) es 0 with
          | some _, some (some (i, _)) => some (.tuple #[], h.put B (some (.map (es.set i (k.ev T, x.ev T)))))
          | some _, some none => some (.tuple #[], h.put B (some (.map (es ++ [(k.ev T, x.ev T)]))))
          | _, _ => none
        else none
      | none => none
    | _ => none
  | .del g m k => match m.ev T with
    | .map (some B) => match h.map? B with
      | some es => if h.ro ≤ B then match veq g (k.ev T) (k.ev T), mfind g (k.ev T) es 0 with
          | some _, some (some (i, _)) => some (.tuple #[], h.put B (some (.map (es.eraseIdx i))))
          | some _, some none => some (.tuple #[], h)
          | _, _ => none
        else none
      | none => none
    | _ => none
  | .ext i x => match x.ev T with | .tuple vs => (match vs[i]? with | some v => some (v, h) | none => none) | _ => none
  | .lens true x => match x.ev T with | .string s => some (.int .i64 s.size, h) | _ => none
  | .lens false x => match x.ev T with | .slice _ n _ => some (.int .i64 n, h) | .func (.yield n) _ _ => some (.int .i64 n, h) | _ => none
  | .cstr x => match x.ev T with | .string s => some (.string s, h) | _ => none
  | .lena n => some (.int .i64 n, h)
  | .lenm x => match lenmV h (x.ev T) with | some v => some (v, h) | none => none
  | .app t e bytes s x => match h.src e (x.ev T), lenV (x.ev T), s.ev T with
    | some news, some m, .slice a n n' =>
      if m = 0 then some (.slice a n n', h)
      else if (n + m) * bytes ≤ 140737488355328 ∧ n + m ≤ 9223372036854775807 ∧ news.all one = true then
        match a with
        | none => if n = 0 then some (.slice (some ⟨h.next, 0, none⟩) m m, h.new (.row t e news)) else none
        | some ⟨B, o, none⟩ => match h.row? B with
          | some (t', e', cs) => if h.ro ≤ B ∧ o = 0 ∧ t' = t ∧ e' = e ∧ n * e ≤ cs.length ∧ (cs.take (n * e)).all one = true then
              some (.slice (some ⟨h.next, 0, none⟩) (n + m) (n + m), (h.new (.row t e (cs.take (n * e) ++ news))).put B none)
            else none
          | none => none
        | _ => none
      else none
    | _, _, _ => none
  | .cpy e d s => match d.ev T, lenV (s.ev T), h.src e (s.ev T) with
    | .slice (some ⟨B, o, none⟩) n _, some m, some news => match h.row? B with
      | some (t, e', cs) =>
        let vs := news.take (min m n * e)
        if h.ro ≤ B ∧ e' = e ∧ o + min m n * e ≤ cs.length ∧ vs.all one = true then some (.int .i64 (min m n : Nat), h.put B (some (.row t e' (splice cs o vs)))) else none
      | none => none
    | .slice none _ _, some _, some _ => some (.int .i64 0, h)
    | _, _, _ => none
  | .mm mx xs => match xs with
    | [] => none
    | x :: ys => match x.ev T with | .int k a => (match mmL mx T k a ys with | some r => some (.int k r, h) | none => none) | _ => none

end Go.Proofs.Ythofdojknjhpgaa
