/- Own texts, merged: a part of the proof that is told in the last text of this claim. -/
import Derived.Test.YthofdojknjhpgaaCMD
set_option linter.unusedVariables false
set_option linter.unusedSimpArgs false
namespace Go.Proofs.Ythofdojknjhpgaa
open Go

theorem add_none (b o n : Nat) : (⟨b, o, none⟩ : Addr).add n = ⟨b, o + n, none⟩ := by
  unfold Addr.add; split
  · rename_i h; subst h; rfl
  · rfl
section
variable {P : Program}
theorem sizeT_some {t : TypeId} {s : Nat} (h : sizeT P t = some s) : ∃ i, P.info? t = some i ∧ i.size = s := by
  unfold sizeT at h
  split at h
  · rename_i i hi; cases h; exact ⟨i, hi, rfl⟩
  · cases h
theorem r_sizeOf {t : TypeId} {s : Nat} (h : sizeT P t = some s) (w : World) : (sizeOf t).run P w = .ok s w := by
  obtain ⟨i, hi, rfl⟩ := sizeT_some h
  simp [sizeOf, typeInfo, hi]
theorem r_isAgg {t : TypeId} {d : TypeDesc} (h : P.underlying t = some d) (w : World) : (isAgg t).run P w = .ok (isAggT P t) w := by
  simp only [isAgg, Sem.run_bind, run_underlying h, Result.andThen_ok, isAggT, h]
  cases d <;> rfl
theorem aggS_some {t : TypeId} {s : Option Nat} (h : aggS P t = some s) : ∃ d n, P.underlying t = some d ∧ sizeT P t = some n ∧ s = if isAggT P t then some n else none := by
  unfold aggS at h
  split at h
  · rename_i d n h1 h2; cases h; exact ⟨d, n, h1, h2, rfl⟩
  · cases h
theorem zeroT_some {t : TypeId} {zs : List Value} (h : zeroT P t = some zs) : ∃ i z, P.info? t = some i ∧ i.zero = some z ∧ zs = (Value.cells z).toList ∧ zs.all plain1 = true ∧ plainV z = true := by
  unfold zeroT at h
  split at h
  · rename_i i hi
    split at h
    · rename_i z hz
      split at h
      · rename_i hp
        cases h
        simp only [Bool.and_eq_true] at hp
        exact ⟨i, z, hi, hz, rfl, hp.1, hp.2⟩
      · cases h
    · cases h
  · cases h
theorem zeroV_some {t : TypeId} {z : Value} (h : zeroV P t = some z) : ∃ i, P.info? t = some i ∧ i.zero = some z ∧ plainV z = true := by
  unfold zeroV at h
  split at h
  · rename_i i hi
    split at h
    · rename_i z' hz
      split at h
      · rename_i hp; cases h; exact ⟨i, hi, hz, hp⟩
      · cases h
    · cases h
  · cases h
theorem r_zero {t : TypeId} {i : TypeInfo} {z : Value} (h : P.info? t = some i) (hz : i.zero = some z) (w : World) : (zeroValue t).run P w = .ok z w := by
  simp [zeroValue, typeInfo, h, hz]
theorem r_loadCells {w : World} {a : Addr} {us : List Value} (h : ∀ (j : Nat) (u : Value), us[j]? = some u → w.cell? (a.add j) = some u) : (loadCells a us.length).run P w = .ok us.toArray w := by
  rw [run_loadCells (f := fun j => us.getD j default)]
  · congr 1
    apply congrArg
    apply List.ext_getElem?
    intro j
    simp only [List.getElem?_map, List.getElem?_range]
    by_cases hj : j < us.length
    · simp [hj, List.getElem?_range]
    · simp [hj, List.getElem?_range, List.getElem?_eq_none (Nat.le_of_not_lt hj)]
  · intro j hj
    exact h j _ (by simp [hj])
end

section
variable {P : Program} {base : Nat} {w0 : World} {φ : Phi} {h : AH} {w : World} {T : Tm} {a : Act}

theorem s_alloc {t : TypeId} {e : Nat} {zs : List Value} (hr : HR base w0 φ h w) (hz : zeroT P t = some zs) :
    OK base w0 φ h (((do pure (Next.value (← Instr.alloc t true (.tuple #[]))) : Sem Next)).run P w) (.pointer (some ⟨h.next, 0, none⟩)) (h.new (.row t e zs)) := by
  obtain ⟨i, z, hi, hz1, rfl, hp, _⟩ := zeroT_some hz
  have hn := hr.newRow (t := t) (e := e) (c := z.cells) (VRL.plain hp) (fun u hu => by have := VRL.all_one (VRL.plain (φ := φ) (n := h.next) hp) (plain_one hp) u hu; exact this) (fun i u hu => by simpa using hu)
  have hrun : ((do pure (Next.value (← Instr.alloc t true (.tuple #[]))) : Sem Next)).run P w = .ok (.value (.pointer (some ⟨w.heap.size, 0, none⟩))) (w.alloc (.cells z.cells t)) := by
    simp [Instr.alloc, r_zero hi hz1, newVar, newRow]
  rw [hrun]
  refine OK.val (ext_agr _ _ _) (by simp) ?_ hn
  have := VR.ptr (φ := ext φ h.next ⟨w.heap.size, 0, z.cells.size, e⟩) (n := (h.new (.row t e z.cells.toList)).next) h.next 0 (by simp)
  simpa [ext_same] using this
theorem s_box {t : TypeId} {e : Nat} {v c : Value} (hr : HR base w0 φ h w) (hv : VR φ h.next v c) (h1 : (cellsOf v).all one = true) :
    OK base w0 φ h (((do pure (Next.value (← Instr.box t c)) : Sem Next)).run P w) (.pointer (some ⟨h.next, 0, none⟩)) (h.new (.row t e (cellsOf v))) := by
  have hne : v ≠ .tuple #[] := by rintro rfl; simp [cellsOf, one] at h1
  have hc := hv.cells hne
  have hn := hr.newRow (t := t) (e := e) (c := c.cells) hc (hc.all_one h1) (fun i u hu => by simpa using hu)
  have hrun : ((do pure (Next.value (← Instr.box t c)) : Sem Next)).run P w = .ok (.value (.pointer (some ⟨w.heap.size, 0, none⟩))) (w.alloc (.cells c.cells t)) := by
    simp [Instr.box, newVar, newRow]
  rw [hrun]
  refine OK.val (ext_agr _ _ _) (by simp) ?_ hn
  have := VR.ptr (φ := ext φ h.next ⟨w.heap.size, 0, c.cells.size, e⟩) (n := (h.new (.row t e (cellsOf v))).next) h.next 0 (by simp)
  simpa [ext_same] using this
theorem s_load1 {t : TypeId} {c : Value} {B o : Nat} {t' : TypeId} {e : Nat} {cs : List Value} {v : Value} (hr : HR base w0 φ h w) (hv : VR φ h.next (.pointer (some ⟨B, o, none⟩)) c) (hs : aggS P t = some none)
    (hb : h.get B = some (.row t' e cs)) (hi : cs[o]? = some v) : OK base w0 φ h (((do pure (Next.value (← Instr.loadAt t c)) : Sem Next)).run P w) v h := by
  obtain ⟨d, n, hu, hsz, hsn⟩ := aggS_some hs
  have hag : isAggT P t = false := by
    cases hq : isAggT P t with
    | false => rfl
    | true => simp [hq] at hsn
  cases hv with
  | ptr _ _ hB =>
    obtain ⟨_, c', t'', fr, hw, hcell⟩ := hr.rows B t' e cs hb
    obtain ⟨u, h1, h2, h3⟩ := hcell o v hi
    have hrun : (((do pure (Next.value (← Instr.loadAt t (.pointer (some ⟨(φ B).blk, (φ B).base + o, none⟩)))) : Sem Next)).run P w) = .ok (.value u) w := by
      simp [Instr.loadAt, Instr.sureAddr, loadVar, r_isAgg hu, hag, cell_of_row w _ _ _ _ _ hw, h1]
    rw [hrun]
    exact OK.pure hr h2
theorem s_loadN {t : TypeId} {c : Value} {B o s : Nat} {t' : TypeId} {e : Nat} {cs : List Value} (hr : HR base w0 φ h w) (hv : VR φ h.next (.pointer (some ⟨B, o, none⟩)) c) (hs : aggS P t = some (some s))
    (hb : h.get B = some (.row t' e cs)) (hi : o + s ≤ cs.length) : OK base w0 φ h (((do pure (Next.value (← Instr.loadAt t c)) : Sem Next)).run P w) (.agg ((cs.drop o).take s).toArray) h := by
  obtain ⟨d, n, hu, hsz, hsn⟩ := aggS_some hs
  have hag : isAggT P t = true := by
    cases hq : isAggT P t with
    | false => simp [hq] at hsn
    | true => rfl
  have hns : n = s := by simp [hag] at hsn; exact hsn.symm
  subst hns
  cases hv with
  | ptr _ _ hB =>
    obtain ⟨us, h1, h2, h3, h4⟩ := hr.stretch hb o n hi
    have hl := r_loadCells (P := P) (w := w) (a := ⟨(φ B).blk, (φ B).base + o, none⟩) (us := us) (fun j u hj => by rw [add_none]; exact h4 j u hj)
    rw [h2] at hl
    have hrun : (((do pure (Next.value (← Instr.loadAt t (.pointer (some ⟨(φ B).blk, (φ B).base + o, none⟩)))) : Sem Next)).run P w) = .ok (.value (.agg us.toArray)) w := by
      simp [Instr.loadAt, Instr.sureAddr, loadVar, r_isAgg hu, hag, r_sizeOf hsz, hl]
    rw [hrun]
    exact OK.pure hr h1.agg
theorem setRow_splice {P : Program} (hr : HR base w0 φ h w) {B o : Nat} {t : TypeId} {e : Nat} {cs vs us : List Value} (hro : h.ro ≤ B) (hb : h.get B = some (.row t e cs)) (hv : VRL φ h.next vs us) (h1 : vs.all one = true) (ho : o + vs.length ≤ cs.length) :
    ∃ w', (storeCells ⟨(φ B).blk, o, none⟩ us).run P w = .ok () w' ∧ HR base w0 φ (h.put B (some (.row t e (splice cs o vs)))) w' := by
  obtain ⟨hb1, hb2, c, hw, hsz⟩ := hr.wr B t e cs hro hb
  obtain ⟨_, c', t', fr, hw', hcell⟩ := hr.rows B t e cs hb
  rw [hw] at hw'
  cases hw'
  have hlen : cs.length ≤ c.size := by
    rcases Nat.eq_zero_or_pos cs.length with h0 | h0
    · omega
    · obtain ⟨u, hu, _⟩ := hcell (cs.length - 1) _ (List.getElem?_eq_getElem (by omega))
      have := (Array.getElem?_eq_some_iff.1 hu).1
      omega
  have ho2 : o + us.length ≤ c.size := by rw [← hv.1]; omega
  have hone := hv.all_one h1
  have hst := run_storeCells_at P (φ B).blk o t us 0 c w hw (by simpa using ho2) hone
  simp only [Nat.add_zero] at hst
  refine ⟨_, hst, ?_⟩
  have hall : ∀ (i : Nat) (v : Value), cs[i]? = some v → ∃ u, c[i]? = some u ∧ VR φ h.next v u ∧ u.oneCell' = true := fun i v hi => by
    obtain ⟨u, h5, h6, h7⟩ := hcell i v hi
    exact ⟨u, by simpa [hb2] using h5, h6, h7⟩
  have hcs : VRL φ h.next cs (c.toList.take cs.length) := by
    refine ⟨by simp; omega, fun i v u hi hu => ?_⟩
    obtain ⟨u', h5, h6, _⟩ := hall i v hi
    have hilt : i < cs.length := (List.getElem?_eq_some_iff.1 hi).1
    rw [List.getElem?_take, if_pos hilt] at hu
    rw [show c.toList[i]? = some u' from by simpa using h5] at hu
    cases hu
    exact h6
  refine hr.putRow (c' := (c.toList.take o ++ us ++ c.toList.drop (o + us.length)).toArray) (us := splice (c.toList.take cs.length) o us) hro hb (hcs.splice hv o) ?_ ?_ ?_ ?_ ?_ rfl rfl rfl ?_
  · intro u hu
    unfold splice at hu
    simp only [List.mem_append] at hu
    have hold : ∀ u, u ∈ c.toList.take cs.length → u.oneCell' = true := by
      intro u hu
      obtain ⟨i, hi⟩ := List.mem_iff_getElem?.1 hu
      rw [List.getElem?_take] at hi
      split at hi
      · rename_i hlt
        obtain ⟨u', h5, _, h7⟩ := hall i _ (List.getElem?_eq_getElem hlt)
        rw [show c.toList[i]? = some u' from by simpa using h5] at hi
        cases hi
        exact h7
      · cases hi
    rcases hu with (hu | hu) | hu
    · exact hold u (List.mem_of_mem_take hu)
    · exact hone u hu
    · exact hold u (List.mem_of_mem_drop hu)
  · intro i u hu
    have hul : us.length = vs.length := hv.1.symm
    simp only [splice, List.getElem?_toArray, List.getElem?_append, List.length_append, List.length_take, List.getElem?_take, List.getElem?_drop, Array.length_toList] at hu ⊢
    have e1 : min o (min cs.length c.size) = o := by omega
    have e2 : min o c.size = o := by omega
    simp only [e1, e2] at hu ⊢
    split at hu
    · rename_i h5
      rw [if_pos h5]
      split at hu
      · rename_i h6
        rw [if_pos h6, if_pos h6]
        split at hu
        · exact hu
        · cases hu
      · rename_i h6
        rw [if_neg h6]; exact hu
    · rename_i h5
      rw [if_neg h5]
      split at hu
      · exact hu
      · cases hu
  · rw [setRow_heap w _ c _ _ _ hw]
  · simp only [List.size_toArray, List.length_append, List.length_take, List.length_drop, Array.length_toList]
    omega
  · intro k hk
    exact setRow_other w _ k _ hk
  · simp
theorem s_store {t : TypeId} {ca cx : Value} {B o s : Nat} {t' : TypeId} {e : Nat} {cs : List Value} {v : Value} (hr : HR base w0 φ h w) (hv : VR φ h.next (.pointer (some ⟨B, o, none⟩)) ca) (hx : VR φ h.next v cx) (hs : sizeT P t = some s)
    (hro : h.ro ≤ B) (hb : h.get B = some (.row t' e cs)) (hl : (cellsOf v).length = s) (ho : o + s ≤ cs.length) (h1 : (cellsOf v).all one = true) (hss : 0 < s ∨ True) :
    OK base w0 φ h (((do Instr.storeAt t ca cx; pure Next.skip : Sem Next)).run P w) (.tuple #[]) (h.put B (some (.row t' e (splice cs o (cellsOf v))))) := by
  cases hv with
  | ptr _ _ hB =>
    by_cases hne : v = .tuple #[]
    · subst hne; simp [cellsOf, one] at h1
    · have hc := hx.cells hne
      obtain ⟨w', hrun, hr'⟩ := setRow_splice (P := P) (o := o) hr hro hb hc h1 (by omega)
      have hb0 := (hr.wr B t' e cs hro hb).2.1
      have hsz : cx.cells.size = s := by have := hc.1; simp at this; omega
      have hrun2 : (((do Instr.storeAt t (.pointer (some ⟨(φ B).blk, (φ B).base + o, none⟩)) cx; pure Next.skip : Sem Next)).run P w) = .ok .skip w' := by
        simp [Instr.storeAt, Instr.sureAddr, storeVar, r_sizeOf hs, hsz, hb0, hrun]
      rw [hrun2]
      exact OK.skip (Agr.refl _ _) (Nat.le_refl _) hr'
end
end Go.Proofs.Ythofdojknjhpgaa
