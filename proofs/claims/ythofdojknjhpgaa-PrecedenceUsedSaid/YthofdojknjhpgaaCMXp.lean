/- Own texts, merged: a part of the proof that is told in the last text of this claim. -/
import Derived.Test.YthofdojknjhpgaaCMXo
set_option linter.unusedVariables false
set_option linter.unusedSectionVars false
set_option linter.unusedSimpArgs false
namespace Go.Proofs.Ythofdojknjhpgaa
open Go
section
variable {P : Program} {T : Tm} {h h' : AH} {K : Tm → AH → Prop} {os : List AOp} {ds : List DOp} {v : Value} {f : FuncId} {hs : List AH} {pd : List Pend} {n : Nat} {args : List Opd} {x : Opd} {xs cs : Array Value}
/-- A call of a function value. -/
theorem RO_calldE (hx : x.ev T = .func (.func f) xs cs) (hf : okF P f = true) (hc : AC P f (xs.toList ++ args.map (·.ev T) ++ cs.toList) h v h') : RO P os (upd T n v) h' K → RO P (⟨some n, none, .calld x args⟩ :: os) T h K := fun k => ⟨v, h', ⟨f, xs, cs, hx, hf, hc⟩, k⟩
theorem RD_calldE (hx : x.ev T = .func (.func f) xs cs) (hf : okF P f = true) (hc : AC P f (xs.toList ++ args.map (·.ev T) ++ cs.toList) h v h') (hn : h.next ≤ h'.next) (hp : ∀ p ∈ pd, Step P p.2.1 p.2.2.1 h' p.2.2.2 h') (k : RD P ds (h :: hs) (decP pd) (upd T n v) h' K) : RD P (⟨⟨some n, none, .calld x args⟩, 0, 0⟩ :: ds) hs pd T h K := by
  have hq' : ¬ (DOp.o ⟨⟨some n, none, .calld x args⟩, 0, 0⟩).quiet = true := by show ¬ false = true; decide
  simp only [RD]
  rw [if_neg hq']
  exact ⟨v, h', ⟨f, xs, cs, hx, hf, hc⟩, hn, hp, k⟩
/-- A call that leaves the heap alone, whenever it comes. -/
theorem RD_callqS {bk fw : Nat} (hc : AC P f (args.map (·.ev T)) h v h) (hb : ∀ g ∈ hs.take bk, AC P f (args.map (·.ev T)) g v g) : RD P ds hs (if fw = 0 then pd else (fw, ⟨some n, none, .callq f args⟩, T, v) :: pd) (upd T n v) h K → RD P (⟨⟨some n, none, .callq f args⟩, bk, fw⟩ :: ds) hs pd T h K := by
  intro k
  have hq' : (DOp.o ⟨⟨some n, none, .callq f args⟩, bk, fw⟩).quiet = true := rfl
  simp only [RD]
  rw [if_pos hq']
  exact ⟨v, ⟨hc, rfl⟩, fun g hg => ⟨hb g hg, rfl⟩, k⟩
theorem step_callq {d : Option Nat} : Step P ⟨d, none, .callq f args⟩ T h v h' = (AC P f (args.map (·.ev T)) h v h' ∧ h' = h) := nr rfl
def mks1 (t : TypeId) (e bytes : Nat) (z : List Value) (l c : Value) (h : AH) : Option (Value × AH) := match l, c with
  | .int _ l, .int _ c => if 0 ≤ l ∧ l ≤ c ∧ (bytes : Int) * c ≤ 281474976710656 ∧ c ≤ 9223372036854775807 then some (.slice (some ⟨h.next, 0, none⟩) l.toNat l.toNat, h.new (.row t e (zerosN z l.toNat))) else none
  | _, _ => none
theorem run_mks {t : TypeId} {e bytes : Nat} {z : List Value} {l c : Opd} : (I.mks t e bytes z l c).run T h = mks1 t e bytes z (l.ev T) (c.ev T) h := nr <| by
  simp only [I.run, mks1]
  rfl
theorem mks1_nat {t : TypeId} {e bytes m : Nat} {z : List Value} {k k' : IntKind} (hb : bytes * m ≤ 281474976710656) (hm : m ≤ 4611686018427387904) : mks1 t e bytes z (.int k (m : Nat)) (.int k' (m : Nat)) h = some (.slice (some ⟨h.next, 0, none⟩) m m, h.new (.row t e (zerosN z m))) := by
  show (if 0 ≤ (m : Int) ∧ (m : Int) ≤ (m : Int) ∧ (bytes : Int) * (m : Int) ≤ 281474976710656 ∧ (m : Int) ≤ 9223372036854775807 then some (Value.slice (some ⟨h.next, 0, none⟩) (m : Int).toNat (m : Int).toNat, h.new (.row t e (zerosN z (m : Int).toNat))) else none) = _
  rw [if_pos ⟨Int.natCast_nonneg _, Int.le_refl _, by rw [← Int.natCast_mul]; omega, by omega⟩, Int.toNat_natCast]
end
end Go.Proofs.Ythofdojknjhpgaa
