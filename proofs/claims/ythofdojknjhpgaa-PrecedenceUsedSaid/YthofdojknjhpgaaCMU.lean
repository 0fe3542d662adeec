/- Own texts, merged: a part of the proof that is told in the last text of this claim. -/
import Derived.Test.YthofdojknjhpgaaCMT
import Derived.WalkKit
import Derived.ProofKit
import Derived.OpenShut
import Derived.ShutString
import Derived.ChangeOld
import Derived.SizedLaws
import Derived.ChangeSlices
set_option linter.unusedVariables false
set_option linter.unusedSimpArgs false
namespace Go.Proofs.Ythofdojknjhpgaa
open Go Go.RowKit Go.ChangeShapes Go.WideShapes Go.ChangeAt

def hE : AH := ⟨fun _ => none, 0, 0⟩
/-- Whatever there is at the beginning: nobody changes it. -/
def phiW (W : World) : Phi := ⟨fun _ => default, fun b => match W.heap[b]? with | some (.cells C _ _) => some C | _ => none⟩
theorem phiW_fz {W : World} {b : Nat} {C : Array Value} {t : TypeId} {fr : Nat × Nat} (hb : W.heap[b]? = some (.cells C t fr)) : (phiW W).fz b = some C := by simp [phiW, hb]
theorem HR.root (W : World) : HR W.heap.size W (phiW W) hE W where
  below := Below.refl _ _
  bs := Nat.le_refl _
  lt := fun B b hB => by cases hB
  rows := fun B t e cs hB => by cases hB
  wr := fun B t e cs _ hB => by cases hB
  maps := fun B es hB => by cases hB
  old := fun B t e cs _ hB => by cases hB
  inj := fun B C b c _ _ hB => by cases hB
  ron := Nat.le_refl _
  frz := fun b C hb => by
    refine ⟨?_, fun B bl _ hB => by cases hB⟩
    simp only [phiW] at hb
    split at hb
    · rename_i C' t fr hw; cases hb; exact ⟨t, fr, hw⟩
    · cases hb
theorem AC.root {P : Program} {f : FuncId} {args : List Value} {h' : AH} {cargs : Array Value} {W : World} (k : AC P f args hE (.bool true) h') (hv : VRL (phiW W) 0 args cargs.toList) : Calls P f cargs W fun e w' => e = .returned (.bool true) ∧ Below W.heap.size W w' := by
  refine (k _ _ _ cargs W (HR.root W) hv).mono ?_
  rintro e w' ⟨cv, ψ, rfl, g1, g2, g3, g4⟩
  rw [bool_of g3]
  exact ⟨rfl, g4.below⟩
def IsRow (k : IntKind) (w : World) (a : Option Addr) (len cap : Nat) (zs : List Int) : Prop :=
  (a = none ∧ len = 0 ∧ cap = 0 ∧ zs = []) ∨
  ∃ x, a = some x ∧ len ≤ cap ∧ cap ≤ maxLen ∧ zs.length = cap ∧ (∀ i, i < zs.length → w.cell? (x.add i) = some (.int k (zs.getD i 0))) ∧ ∀ n ∈ zs, (Lit.int k n).wf = true
theorem sized_ints {H : Type} {enc : TypeId × Value → H} {P : Program} {W : World} {base : Nat} {spare : Nat → Bool} {held : Bool} {t e : TypeId} {k : IntKind} {a : Option Addr} {len cap : Nat} {d : DataW H} {ps : List MemPlace} {ts : List TypeId} {ds : List (DataW H)} {j : Nat}
    (hsz : (DataW.weightsEach P ts ds).all (· ≤ reachBytes) = true) (ht : ts[j]? = some t) (hd : ds[j]? = some d) (hu : P.underlying t = some (.slice e)) (he : P.underlying e = some (.int k)) (hc : P.cellsOf e = 1) {B : Nat} (hB : P.bytesOf e = B)
    (h : DataW.Trod enc P W base spare held t (.slice a len cap) d ps) : len * B ≤ 140737488351232 := by
  obtain ⟨fuel, hf⟩ := h
  rcases open_ints hu he hc hf with ⟨hcs, _⟩ | ⟨x, l, c, zs, hcs, _, hl, _, hz, hx, _, _⟩
  · simp [Value.cells] at hcs
    obtain ⟨rfl, rfl, rfl⟩ := hcs
    simp
  · simp [Value.cells] at hcs
    obtain ⟨rfl, rfl, rfl⟩ := hcs
    obtain ⟨hx, _⟩ := Prod.mk.inj hx
    subst hx
    have z := sized_slice hsz ht hd hu
    rw [hB] at z
    have hl2 : len ≤ zs.length := by
      rw [hz]
      split
      · exact hl
      · exact Nat.le_refl _
    have h1 : (lits (H := H) k (zs.take len)).length + (lits (H := H) k (zs.drop len)).length = zs.length := by
      simp [lits]
      omega
    rw [h1] at z
    exact Nat.le_trans (Nat.mul_le_mul_right _ hl2) z
/-- A slice of numbers that is handed in. -/
theorem vr_ints {W : World} {a : Option Addr} {len cap n : Nat} {zs : List Int} (hr : IsRow .i64 W a len cap zs) (hl : len * 8 ≤ 140737488351232) : VR (phiW W) n (L (zs.take len)) (.slice a len cap) := by
  rcases hr with ⟨rfl, rfl, rfl, rfl⟩ | ⟨x, rfl, h1, h2, h3, h4, h5⟩
  · exact .fz0 _ (.inl rfl)
  · rcases Nat.eq_zero_or_pos len with h0 | h0
    · subst h0
      exact .fz0 _ (.inr ⟨x, cap, rfl⟩)
    · have hcell := h4 0 (by omega)
      have hx0 : x.add 0 = x := by unfold Addr.add; rw [if_pos rfl]
      have s1 : x.spot = none := by
        rw [hx0] at hcell
        unfold World.cell? at hcell
        split at hcell
        · split at hcell
          · cases hcell
          · rename_i hs; cases hq : x.spot <;> simp_all
        · cases hcell
      have hadd : ∀ i, x.add i = ⟨x.block, x.off + i, none⟩ := by
        intro i
        unfold Addr.add; split
        · rename_i h0; subst h0; cases x; simp at s1 ⊢; exact s1
        · rfl
      rw [hadd 0] at hcell
      obtain ⟨C, t, fr, hb⟩ : ∃ C t fr, W.heap[x.block]? = some (.cells C t fr) := by
        unfold World.cell? at hcell
        split at hcell
        · rename_i c t fr hq; exact ⟨c, t, fr, hq⟩
        · cases hcell
      have hx : x = ⟨x.block, x.off, none⟩ := by cases x; simp at s1 ⊢; exact s1
      have hC : ∀ i, i < zs.length → C[x.off + i]? = some (.int .i64 (zs.getD i 0)) := by
        intro i hi
        have := h4 i hi
        rw [hadd i, cell_of_row W _ _ C t fr hb] at this
        exact this
      have hlen : (zs.take len).length = len := by rw [List.length_take]; omega
      have hF : ∀ l : List Int, F l = l.map (fun z => Value.int .i64 z) := by
        intro l; induction l with
        | nil => rfl
        | cons z l ih => rw [F_cons, ih]; rfl
      rw [hx]
      have := VR.fz (φ := phiW W) (n := n) len cap x.block x.off (F (zs.take len)).toArray (F (zs.take len)).toArray C (by omega) h1 (phiW_fz hb) rfl (fun i a b => by
        simp only [hF, List.getElem_toArray, List.getElem_map]; exact .int _ _) (fun u hu => by
        simp only [hF, List.mem_map] at hu; obtain ⟨z, _, rfl⟩ := hu; rfl) (fun i u hu => by
        simp only [hF, List.getElem?_toArray, List.getElem?_map] at hu
        rw [List.getElem?_take] at hu
        split at hu
        · rename_i hi
          have hiz : i < zs.length := by omega
          rw [List.getElem?_eq_getElem hiz] at hu
          simp at hu
          subst hu
          rw [hC i hiz]; simp [hiz]
        · simp at hu)
      unfold L fz
      rw [hlen]
      exact this
/-- A number of 64 bits. -/
def I64 (x : Int) : Prop := -9223372036854775808 ≤ x ∧ x < 9223372036854775808
theorem wf_i64 {x : Int} (h : (Lit.int .i64 x).wf = true) : I64 x := by
  simp only [Lit.wf, Bool.and_eq_true, decide_eq_true_eq] at h
  have h1 : IntKind.min .i64 = -9223372036854775808 := by decide
  have h2 : IntKind.max .i64 = 9223372036854775807 := by decide
  unfold I64; omega
end Go.Proofs.Ythofdojknjhpgaa
