/- Own texts, merged: a part of the proof that is told in the last text of this claim. -/
import Derived.Below
import Derived.Orders
import Derived.Tactics
import Derived.OwnWalk
import Derived.Laws.BytesArg
import Derived.Laws.MakeOwn
import Derived.Laws.OwnMore
import Derived.Laws.Rows
import Derived.Laws.CopyRow
set_option linter.unusedVariables false
set_option linter.unusedSimpArgs false
namespace Go.Proofs.Ythofdojknjhpgaa
open Go

/-- A row of cells, or a map. -/
inductive Blk where
  | row (t : TypeId) (e : Nat) (cs : List Value)
  | map (es : List (Value × Value))
@[ext] structure AH where
  blk : Nat → Option Blk
  next : Nat
  ro : Nat
def AH.get (h : AH) (B : Nat) : Option Blk := h.blk B
def AH.put (h : AH) (B : Nat) (b : Option Blk) : AH := { h with blk := fun C => if C = B then b else h.blk C }
def AH.new (h : AH) (b : Blk) : AH := { blk := fun C => if C = h.next then some b else h.blk C, next := h.next + 1, ro := h.ro }
@[simp] theorem AH.get_put (h : AH) (B : Nat) (b : Option Blk) (C : Nat) : (h.put B b).get C = if C = B then b else h.get C := rfl
@[simp] theorem AH.get_new (h : AH) (b : Blk) (C : Nat) : (h.new b).get C = if C = h.next then some b else h.get C := rfl
@[simp] theorem AH.next_put (h : AH) (B : Nat) (b : Option Blk) : (h.put B b).next = h.next := rfl
@[simp] theorem AH.ro_put (h : AH) (B : Nat) (b : Option Blk) : (h.put B b).ro = h.ro := rfl
@[simp] theorem AH.next_new (h : AH) (b : Blk) : (h.new b).next = h.next + 1 := rfl
@[simp] theorem AH.ro_new (h : AH) (b : Blk) : (h.new b).ro = h.ro := rfl

/-- Where an abstract block lies: the concrete block, the first cell, the cells from there on (of a block that may be written: all its cells), the cells of an element. -/
structure Loc where
  blk : Nat
  base : Nat
  room : Nat
  esz : Nat
deriving Inhabited
/-- Where the blocks lie, and what the frozen concrete blocks hold. -/
structure Phi where
  loc : Nat → Loc
  fz : Nat → Option (Array Value)
instance : CoeFun Phi (fun _ => Nat → Loc) := ⟨Phi.loc⟩
/-- A slice that nobody changes: how many elements, their cells. -/
def fz (n : Nat) (cs : List Value) : Value := .func (.yield n) cs.toArray #[]
/-- A pointer into what nobody changes: the cells from there on. -/
def fp (cs : List Value) : Value := .func (.method "") cs.toArray #[]
/-- 'v' stands for the concrete value 'c'. All blocks that 'v' names are below 'n'. The empty tuple stands for anything. -/
inductive VR (φ : Phi) (n : Nat) : Value → Value → Prop where
  | fz0 (c : Value) : (c = .slice none 0 0 ∨ ∃ a k, c = .slice (some a) 0 k) → VR φ n (.func (.yield 0) #[] #[]) c
  | fz (l k b o : Nat) (xs ys C : Array Value) : l < 4611686018427387904 → l ≤ k → φ.fz b = some C → xs.size = ys.size → (∀ i (h1 : i < xs.size) (h2 : i < ys.size), VR φ n xs[i] ys[i]) → (∀ u ∈ ys.toList, u.oneCell' = true) → (∀ (i : Nat) (u : Value), ys[i]? = some u → C[o + i]? = some u) → VR φ n (.func (.yield l) xs #[]) (.slice (some ⟨b, o, none⟩) l k)
  | fp (s : String) (b o : Nat) (xs ys C : Array Value) : φ.fz b = some C → xs.size = ys.size → (∀ i (h1 : i < xs.size) (h2 : i < ys.size), VR φ n xs[i] ys[i]) → (∀ u ∈ ys.toList, u.oneCell' = true) → (∀ (i : Nat) (u : Value), ys[i]? = some u → C[o + i]? = some u) → VR φ n (.func (.method s) xs #[]) (.pointer (some ⟨b, o, none⟩))
  | any (c : Value) : VR φ n (.tuple #[]) c
  | skip : VR φ n (.chan none) (.tuple #[])
  | bool (b : Bool) : VR φ n (.bool b) (.bool b)
  | int (k : IntKind) (i : Int) : VR φ n (.int k i) (.int k i)
  | float (k : FloatKind) (b : Nat) : VR φ n (.float k b) (.float k b)
  | string (s : ByteArray) : VR φ n (.string s) (.string s)
  | ptr0 : VR φ n (.pointer none) (.pointer none)
  | ptr (B o : Nat) : B < n → VR φ n (.pointer (some ⟨B, o, none⟩)) (.pointer (some ⟨(φ B).blk, (φ B).base + o, none⟩))
  | slice0 : VR φ n (.slice none 0 0) (.slice none 0 0)
  | slice (B o l c : Nat) (a : Addr) : B < n → l ≤ c → (0 < c → a = ⟨(φ B).blk, (φ B).base + o, none⟩ ∧ o + c * (φ B).esz ≤ (φ B).room) → VR φ n (.slice (some ⟨B, o, none⟩) l l) (.slice (some a) l c)
  | map0 : VR φ n (.map none) (.map none)
  | map (B : Nat) : B < n → VR φ n (.map (some B)) (.map (some (φ B).blk))
  | func (f : FuncId) (xs ys cs ds : Array Value) : xs.size = ys.size → (∀ i (h1 : i < xs.size) (h2 : i < ys.size), VR φ n xs[i] ys[i]) → cs.size = ds.size → (∀ i (h1 : i < cs.size) (h2 : i < ds.size), VR φ n cs[i] ds[i]) → VR φ n (.func (.func f) xs cs) (.func (.func f) ys ds)
  | nilFunc : VR φ n .nilFunc .nilFunc
  | iface (t : TypeId) (v c : Value) : v ≠ .tuple #[] → VR φ n v c → VR φ n (.iface t v) (.iface t c)
  | nilIface : VR φ n .nilIface .nilIface
  | agg (xs ys : Array Value) : xs.size = ys.size → (∀ i (h1 : i < xs.size) (h2 : i < ys.size), VR φ n xs[i] ys[i]) → VR φ n (.agg xs) (.agg ys)
  | tuple (xs ys : Array Value) : xs.size = ys.size → (∀ i (h1 : i < xs.size) (h2 : i < ys.size), VR φ n xs[i] ys[i]) → VR φ n (.tuple xs) (.tuple ys)

structure Agr (n : Nat) (φ ψ : Phi) : Prop where
  loc : ∀ B, B < n → ψ B = φ B
  fz : ∀ b C, φ.fz b = some C → ψ.fz b = some C
instance (n : Nat) (φ ψ : Phi) : CoeFun (Agr n φ ψ) (fun _ => ∀ B, B < n → ψ B = φ B) := ⟨Agr.loc⟩
theorem Agr.refl (n : Nat) (φ : Phi) : Agr n φ φ := ⟨fun _ _ => rfl, fun _ _ h => h⟩
theorem Agr.trans {n m : Nat} {φ ψ χ : Phi} (h : Agr n φ ψ) (k : Agr m ψ χ) (hm : n ≤ m) : Agr n φ χ := ⟨fun B hB => (k B (by omega)).trans (h B hB), fun b C hb => k.fz b C (h.fz b C hb)⟩
theorem Agr.mono {n m : Nat} {φ ψ : Phi} (h : Agr m φ ψ) (hm : n ≤ m) : Agr n φ ψ := ⟨fun B hB => h B (by omega), h.fz⟩

theorem VR.mono {φ ψ : Phi} {n m : Nat} {v c : Value} (h : VR φ n v c) (ha : Agr n φ ψ) (hm : n ≤ m) : VR ψ m v c := by
  induction h with
  | fz0 c hc => exact .fz0 c hc
  | fz l k b o xs ys C h0 h1 h2 h3 _ h5 h6 ih => exact .fz l k b o xs ys C h0 h1 (ha.fz b C h2) h3 ih h5 h6
  | fp s b o xs ys C h2 h3 _ h5 h6 ih => exact .fp s b o xs ys C (ha.fz b C h2) h3 ih h5 h6
  | any c => exact .any c
  | skip => exact .skip
  | bool b => exact .bool b
  | int k i => exact .int k i
  | float k b => exact .float k b
  | string s => exact .string s
  | ptr0 => exact .ptr0
  | ptr B o hB => have := VR.ptr (φ := ψ) (n := m) B o (by omega); rwa [ha B hB] at this
  | slice0 => exact .slice0
  | slice B o l c a hB hl hc => exact .slice B o l c a (by omega) hl (by rw [ha B hB]; exact hc)
  | map0 => exact .map0
  | map B hB => have := VR.map (φ := ψ) (n := m) B (by omega); rwa [ha B hB] at this
  | func f xs ys cs ds h1 _ h2 _ ih1 ih2 => exact .func f xs ys cs ds h1 ih1 h2 ih2
  | nilFunc => exact .nilFunc
  | iface t v c hv _ ih => exact .iface t v c hv ih
  | nilIface => exact .nilIface
  | agg xs ys h1 _ ih => exact .agg xs ys h1 ih
  | tuple xs ys h1 _ ih => exact .tuple xs ys h1 ih
/-- Of a value whose blocks are below 'n' nothing beyond is asked. -/
theorem VR.low {φ ψ : Phi} {n m : Nat} {v c d : Value} (h : VR φ n v c) (k : VR ψ m v d) : VR ψ n v d := by
  induction h generalizing d with
  | fz0 c hc =>
    cases k with
    | fz0 _ hd => exact .fz0 _ hd
    | fz l k b o xs ys C h0 h1 h2 h3 h4 h5 h6 => exact .fz0 _ (.inr ⟨_, _, rfl⟩)
  | fz l k b o xs ys C h0 h1 h2 h3 _ h5 h6 ih =>
    cases k with
    | fz0 _ hd => exact .fz0 _ hd
    | fz l k b o xs ys C k0 k1 k2 k3 k4 k5 k6 => exact .fz _ _ _ _ _ _ _ k0 k1 k2 k3 (fun i a b => ih i a (by omega) (k4 i a b)) k5 k6
  | fp s b o xs ys C h2 h3 _ h5 h6 ih =>
    cases k with
    | fp _ b o xs ys C k2 k3 k4 k5 k6 => exact .fp _ _ _ _ _ _ k2 k3 (fun i a b => ih i a (by omega) (k4 i a b)) k5 k6
  | any c => exact .any d
  | skip => cases k; exact .skip
  | bool b => cases k; exact .bool b
  | int j i => cases k; exact .int j i
  | float j b => cases k; exact .float j b
  | string s => cases k; exact .string s
  | ptr0 => cases k; exact .ptr0
  | ptr B o hB => cases k; exact .ptr B o hB
  | slice0 => cases k; exact .slice0
  | slice B o l c a hB hl hc =>
    cases k with
    | slice _ _ _ c' a' _ hl' hc' => exact .slice B o l c' a' hB hl' hc'
  | map0 => cases k; exact .map0
  | map B hB => cases k; exact .map B hB
  | func f xs ys cs ds h1 _ h2 _ ih1 ih2 =>
    cases k with
    | func _ _ ys' _ ds' g1 k1 g2 k2 => exact .func f xs ys' cs ds' g1 (fun i a b => ih1 i a (by omega) (k1 i a b)) g2 (fun i a b => ih2 i a (by omega) (k2 i a b))
  | nilFunc => cases k; exact .nilFunc
  | iface t v c hv _ ih => cases k with | iface _ _ _ _ k => exact .iface t v _ hv (ih k)
  | nilIface => cases k; exact .nilIface
  | agg xs ys h1 _ ih => cases k with | agg _ ys' g1 k1 => exact .agg xs ys' g1 (fun i a b => ih i a (by omega) (k1 i a b))
  | tuple xs ys h1 _ ih =>
    cases k with
    | any => exact .any d
    | tuple _ ys' g1 k1 => exact .tuple xs ys' g1 (fun i a b => ih i a (by omega) (k1 i a b))

/-- A value of one cell (and known). -/
def one (v : Value) : Bool := match v with | .agg _ | .tuple _ | .chan _ => false | _ => true
theorem VR.one_ {φ : Phi} {n : Nat} {v c : Value} (h : VR φ n v c) (hv : one v = true) : c.oneCell' = true := by
  cases h with
  | fz0 _ hc => rcases hc with rfl | ⟨a, k, rfl⟩ <;> rfl
  | _ => first | rfl | (simp [one] at hv)

/-- So many entries, laid at different times. -/
def SzB (E : Array MapEntry) (cl n : Nat) : Prop := E.size = n ∧ (∀ x ∈ E.toList, x.born < cl) ∧ (E.toList.map (·.born)).Nodup
structure HR (base : Nat) (w0 : World) (φ : Phi) (h : AH) (w : World) : Prop where
  below : RowKit.Below base w0 w
  bs : base ≤ w.heap.size
  lt : ∀ B b, h.get B = some b → B < h.next
  rows : ∀ B t e cs, h.get B = some (.row t e cs) → (φ B).esz = e ∧ ∃ c t' fr, w.heap[(φ B).blk]? = some (.cells c t' fr) ∧ ∀ (i : Nat) (v : Value), cs[i]? = some v → ∃ u, c[(φ B).base + i]? = some u ∧ VR φ h.next v u ∧ u.oneCell' = true
  wr : ∀ B t e cs, h.ro ≤ B → h.get B = some (.row t e cs) → base ≤ (φ B).blk ∧ (φ B).base = 0 ∧ ∃ c, w.heap[(φ B).blk]? = some (.cells c t (0, 0)) ∧ c.size = (φ B).room
  maps : ∀ B es, h.get B = some (.map es) → (h.ro ≤ B → base ≤ (φ B).blk) ∧ (B < h.ro → (φ B).blk < base) ∧ ∃ E clock, w.heap[(φ B).blk]? = some (.map E clock) ∧ SzB E clock es.length ∧ ∀ (i : Nat) (k v : Value), es[i]? = some (k, v) → ∃ e : MapEntry, E[i]? = some e ∧ e.key = k ∧ VR φ h.next v e.val
  old : ∀ B t e cs, B < h.ro → h.get B = some (.row t e cs) → (φ B).blk < base
  inj : ∀ B C b c, h.ro ≤ B → h.ro ≤ C → h.get B = some b → h.get C = some c → (φ B).blk = (φ C).blk → B = C
  ron : h.ro ≤ h.next
  frz : ∀ b C, φ.fz b = some C → (∃ t fr, w.heap[b]? = some (.cells C t fr)) ∧ ∀ B bl, h.ro ≤ B → h.get B = some bl → (φ B).blk ≠ b

end Go.Proofs.Ythofdojknjhpgaa
