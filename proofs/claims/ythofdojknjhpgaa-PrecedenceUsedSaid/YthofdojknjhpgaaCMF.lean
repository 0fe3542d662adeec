/- Own texts, merged: a part of the proof that is told in the last text of this claim. -/
import Derived.Test.YthofdojknjhpgaaCME
import Derived.Laws.Build
import Derived.Laws.Tables
import Derived.Laws.StructEq
set_option linter.unusedVariables false
set_option linter.unusedSimpArgs false
namespace Go.Proofs.Ythofdojknjhpgaa
open Go

theorem foldl_splice (off : Nat) : ∀ (us : List Value) (j : Nat) (c : Array Value), off + j + us.length ≤ c.size →
    ((us.zipIdx j).foldl (fun (cs : Array Value) (x : Value × Nat) => cs.setIfInBounds (off + x.2) x.1) c).toList = splice c.toList (off + j) us
  | [], j, c, _ => by simp [splice]
  | u :: us, j, c, h => by
    simp only [List.length_cons] at h
    simp only [List.zipIdx_cons, List.foldl_cons]
    rw [foldl_splice off us (j + 1) _ (by simp; omega)]
    have hs := list_seg_step c.toList (off + j) u us (by simp; omega)
    simp only [splice, List.length_cons, Array.toList_setIfInBounds]
    rw [show off + (j + 1) = off + j + 1 from by omega]
    exact hs
theorem splice_length {cs vs : List Value} {o : Nat} (h : o + vs.length ≤ cs.length) : (splice cs o vs).length = cs.length := by
  simp [splice]; omega
theorem fill_one {place : Nat → Option (Nat × Nat)} {i : Nat} {off s : Nat} (hp : place i = some (off, s)) (v : Value) (rest : List (Nat × Value)) (c : Array Value) (hs : v.cells.size = s) (hl : off + s ≤ c.size) :
    ∃ c' : Array Value, Instr.fill place c ((i, v) :: rest) = Instr.fill place c' rest ∧ c'.toList = splice c.toList off v.cells.toList := by
  refine ⟨v.cells.zipIdx.foldl (fun cs (x : Value × Nat) => cs.setIfInBounds (off + x.2) x.1) c, ?_, ?_⟩
  · conv => lhs; unfold Instr.fill
    simp only [hp]
    rw [if_neg (by simp [hs]; omega)]
  · rw [← Array.foldl_toList, Array.toList_zipIdx]
    simpa using foldl_splice off v.cells.toList 0 c (by simpa using (by omega : off + v.cells.size ≤ c.size))

section
variable {P : Program} {base : Nat} {w0 : World} {φ : Phi} {h : AH} {w : World} {T : Tm} {a : Act}

theorem cells_len {φ : Phi} {n : Nat} {v c : Value} (hv : VR φ n v c) {s : Nat} (hl : (cellsOf v).length = s) (hne : v ≠ .tuple #[]) : c.cells.size = s := by
  have := (hv.cells hne).1
  simp at this
  omega
/-- An unknown value is no part. -/
theorem fill_ok {place : Nat → Option (Nat × Nat)} (ht : TR φ h.next T a) : ∀ (ps : List (Nat × Operand)) (r : List (Nat × Nat × Opd)) (zs : List Value) (c : Array Value) (cs : List Value),
    (∀ q, q < ps.length → ∃ i x o s y, ps[q]? = some (i, x) ∧ r[q]? = some (o, s, y) ∧ place i = some (o, s) ∧ opd x = some y) → r.length = ps.length →
    VRL φ h.next zs c.toList → fillL T zs r = some cs →
    ∃ c', Instr.fill place c (ps.map fun p => (p.1, a.eval p.2)) = some c' ∧ VRL φ h.next cs c'.toList
  | [], r, zs, c, cs, _, hl, hv, hf => by
    obtain rfl : r = [] := List.eq_nil_of_length_eq_zero (by simpa using hl)
    simp [fillL] at hf
    subst hf
    exact ⟨c, rfl, hv⟩
  | (i, x) :: ps, r, zs, c, cs, hp, hl, hv, hf => by
    obtain ⟨i', x', o, s, y, h1, h2, h3, h4⟩ := hp 0 (by simp)
    simp at h1
    obtain ⟨rfl, rfl⟩ := h1
    cases r with
    | nil => simp at h2
    | cons r0 r =>
      simp at h2
      subst h2
      simp only [fillL] at hf
      split at hf
      · rename_i hsz
        have hne := isK_ne hsz.2.2
        have hvr := ht.opd h4
        have hcs := cells_len hvr hsz.1 hne
        have hlen : c.size = zs.length := by simpa using hv.1.symm
        obtain ⟨c1, e1, e2⟩ := fill_one h3 (a.eval x) (ps.map fun p => (p.1, a.eval p.2)) c hcs (by omega)
        simp only [List.map_cons]
        rw [e1]
        refine fill_ok ht ps r _ c1 cs ?_ (by simpa using hl) ?_ hf
        · intro q hq
          obtain ⟨i2, x2, o2, s2, y2, g1, g2, g3, g4⟩ := hp (q + 1) (by simpa using hq)
          exact ⟨i2, x2, o2, s2, y2, by simpa using g1, by simpa using g2, g3, g4⟩
        · rw [e2]
          exact hv.splice (hvr.cells hne) o
      · cases hf
theorem placesS_ok {fs : Array Field} : ∀ {ps : List (Nat × Operand)} {r : List (Nat × Nat × Opd)}, placesS P fs ps = some r →
    r.length = ps.length ∧ ∀ q, q < ps.length → ∃ i x o s y, ps[q]? = some (i, x) ∧ r[q]? = some (o, s, y) ∧ (∃ f, fs[i]? = some f ∧ f.offset = o ∧ sizeT P f.type = some s) ∧ opd x = some y
  | [], r, hp => by simp [placesS] at hp; subst hp; exact ⟨rfl, fun q hq => by simp at hq⟩
  | (i, x) :: ps, r, hp => by
    simp only [placesS] at hp
    split at hp
    · rename_i f y r' h1 h2 h3
      split at hp
      · rename_i s h4
        cases hp
        obtain ⟨g1, g2⟩ := placesS_ok h3
        refine ⟨by simp [g1], fun q hq => ?_⟩
        cases q with
        | zero => exact ⟨i, x, f.offset, s, y, rfl, rfl, ⟨f, h1, rfl, h4⟩, h2⟩
        | succ q => obtain ⟨i2, x2, o2, s2, y2, k1, k2, k3, k4⟩ := g2 q (by simpa using hq); exact ⟨i2, x2, o2, s2, y2, by simpa using k1, by simpa using k2, k3, k4⟩
      · cases hp
    · cases hp
theorem placesA_ok {z : Nat} : ∀ {ps : List (Nat × Operand)} {r : List (Nat × Nat × Opd)}, placesA z ps = some r →
    r.length = ps.length ∧ ∀ q, q < ps.length → ∃ i x o s y, ps[q]? = some (i, x) ∧ r[q]? = some (o, s, y) ∧ (o = i * z ∧ s = z) ∧ opd x = some y
  | [], r, hp => by simp [placesA] at hp; subst hp; exact ⟨rfl, fun q hq => by simp at hq⟩
  | (i, x) :: ps, r, hp => by
    simp only [placesA] at hp
    split at hp
    · rename_i y r' h1 h2
      cases hp
      obtain ⟨g1, g2⟩ := placesA_ok h2
      refine ⟨by simp [g1], fun q hq => ?_⟩
      cases q with
      | zero => exact ⟨i, x, _, _, y, rfl, rfl, ⟨rfl, rfl⟩, h1⟩
      | succ q => obtain ⟨i2, x2, o2, s2, y2, k1, k2, k3, k4⟩ := g2 q (by simpa using hq); exact ⟨i2, x2, o2, s2, y2, by simpa using k1, by simpa using k2, k3, k4⟩
    · cases hp
theorem mapM_places (w : World) : ∀ (fs : List Field), (∀ f ∈ fs, (P.info? f.type).isSome = true) →
    (fs.mapM fun f => (do pure (f.offset, ← sizeOf f.type) : Sem (Nat × Nat))).run P w = .ok (fs.map fun f => (f.offset, (sizeT P f.type).getD 0)) w
  | [], _ => by simp [List.mapM_nil]
  | f :: fs, hf => by
    have h1 := hf f (by simp)
    obtain ⟨i, hi⟩ := Option.isSome_iff_exists.1 h1
    have ih := mapM_places w fs (fun g hg => hf g (by simp [hg]))
    have hs : (do pure (f.offset, ← sizeOf f.type) : Sem (Nat × Nat)).run P w = .ok (f.offset, i.size) w := by simp [sizeOf, typeInfo, hi]
    rw [List.mapM_cons, Sem.run_bind, hs, Result.andThen_ok, Sem.run_bind, ih]
    simp [sizeT, hi]
theorem map_parts (ps : Array (Nat × Operand)) : (ps.map fun (i, x) => (i, a.eval x)).toList = ps.toList.map fun p => (p.1, a.eval p.2) := by
  rw [Array.toList_map]
theorem s_buildS {t : TypeId} {fs : Array Field} {ps : Array (Nat × Operand)} {zs cs : List Value} {r : List (Nat × Nat × Opd)} (hr : HR base w0 φ h w) (ht : TR φ h.next T a) (hz : zeroT P t = some zs) (hu : P.underlying t = some (.struct fs)) (hsz : sizesT P fs = true)
    (hp : placesS P fs ps.toList = some r) (hf : fillL T zs r = some cs) :
    OK base w0 φ h (((do pure (Next.value (← Instr.build t (ps.map fun (i, x) => (i, a.eval x)))) : Sem Next)).run P w) (.agg cs.toArray) h := by
  obtain ⟨i, z, hi, hz1, rfl, hpl, _⟩ := zeroT_some hz
  obtain ⟨hl, hq⟩ := placesS_ok hp
  have hpm := mapM_places (P := P) w fs.toList (fun f hf => by simpa using List.all_eq_true.1 hsz f hf)
  obtain ⟨c', e1, e2⟩ := fill_ok (place := ((fs.toList.map fun f => (f.offset, (sizeT P f.type).getD 0)).toArray[·]?)) ht ps.toList r z.cells.toList z.cells cs (fun q hql => by
    obtain ⟨i2, x2, o2, s2, y2, k1, k2, ⟨f, k3, k4, k5⟩, k6⟩ := hq q hql
    exact ⟨i2, x2, o2, s2, y2, k1, k2, by simp [List.getElem?_map, k3, k4, k5], k6⟩) hl (VRL.plain hpl) hf
  rw [← map_parts] at e1
  have hrun : ((do pure (Next.value (← Instr.build t (ps.map fun (i, x) => (i, a.eval x)))) : Sem Next)).run P w = .ok (.value (.agg c')) w := by
    simp only [Instr.build, Sem.run_bind, r_zero hi hz1, Result.andThen_ok, run_underlying hu, Array.mapM_eq_mapM_toList, Sem.run_map, hpm, e1, Sem.run_pure]
  rw [hrun]
  exact OK.pure hr (by have := e2.agg; simpa using this)
theorem s_buildA {t e : TypeId} {n s : Nat} {ps : Array (Nat × Operand)} {zs cs : List Value} {r : List (Nat × Nat × Opd)} (hr : HR base w0 φ h w) (ht : TR φ h.next T a) (hz : zeroT P t = some zs) (hu : P.underlying t = some (.array n e)) (hs : sizeT P e = some s)
    (hp : placesA s ps.toList = some r) (hf : fillL T zs r = some cs) :
    OK base w0 φ h (((do pure (Next.value (← Instr.build t (ps.map fun (i, x) => (i, a.eval x)))) : Sem Next)).run P w) (.agg cs.toArray) h := by
  obtain ⟨i, z, hi, hz1, rfl, hpl, _⟩ := zeroT_some hz
  obtain ⟨hl, hq⟩ := placesA_ok hp
  obtain ⟨c', e1, e2⟩ := fill_ok (place := fun i => some (i * s, s)) ht ps.toList r z.cells.toList z.cells cs (fun q hql => by
    obtain ⟨i2, x2, o2, s2, y2, k1, k2, ⟨k3, k4⟩, k6⟩ := hq q hql
    exact ⟨i2, x2, o2, s2, y2, k1, k2, by rw [k3, k4], k6⟩) hl (VRL.plain hpl) hf
  rw [← map_parts] at e1
  have hrun : ((do pure (Next.value (← Instr.build t (ps.map fun (i, x) => (i, a.eval x)))) : Sem Next)).run P w = .ok (.value (.agg c')) w := by
    simp only [Instr.build, Sem.run_bind, r_zero hi hz1, Result.andThen_ok, run_underlying hu, r_sizeOf hs, e1, Sem.run_pure]
  rw [hrun]
  exact OK.pure hr (by have := e2.agg; simpa using this)

theorem zerosN_length (z : List Value) (n : Nat) : (zerosN z n).length = n * z.length := by
  induction n with
  | zero => simp [zerosN]
  | succ n ih => simp [zerosN, ih, Nat.succ_mul]; omega
theorem zerosN_get (z : List Value) (hz : 0 < z.length) : ∀ (n i : Nat), i < n * z.length → (zerosN z n)[i]? = z[i % z.length]?
  | 0, i, h => by omega
  | n + 1, i, h => by
    simp only [zerosN, List.getElem?_append]
    by_cases hi : i < z.length
    · rw [if_pos hi, Nat.mod_eq_of_lt hi]
    · rw [if_neg hi, zerosN_get z hz n (i - z.length) (by rw [Nat.succ_mul] at h; omega)]
      rw [Nat.mod_eq_sub_mod (by omega : z.length ≤ i)]
theorem zeros_made (z : Array Value) (s n : Nat) (hz : z.size = s) (hs : 0 < s) : ((Array.range (n * s)).map (z[· % z.size]!)).toList = zerosN z.toList n := by
  apply List.ext_getElem?
  intro i
  have hlz : z.toList.length = s := by simpa using hz
  by_cases hi : i < n * s
  · rw [zerosN_get _ (by omega) n i (by rw [hlz]; exact hi)]
    have hm : i % s < s := Nat.mod_lt _ hs
    simp [hi, hz, hlz]
    rw [getElem!_pos z (i % s) (by omega)]
    simp [hz ▸ hm]
  · rw [List.getElem?_eq_none (by simp; omega), List.getElem?_eq_none (by rw [zerosN_length, hlz]; omega)]
theorem zerosN_plain {z : List Value} (hz : z.all plain1 = true) (n : Nat) : (zerosN z n).all plain1 = true := by
  induction n with
  | zero => rfl
  | succ n ih => simp [zerosN, List.all_append, hz, ih]
theorem VR.newSlice {n B l c : Nat} {x : Loc} (hB : B < n) (hl : l ≤ c) (hx : c * x.esz ≤ x.room) (h0 : x.base = 0) (hφ : φ B = x) : VR φ n (.slice (some ⟨B, 0, none⟩) l l) (.slice (some ⟨x.blk, 0, none⟩) l c) := by
  refine .slice B 0 l c _ hB hl fun _ => ⟨by rw [hφ, h0], by rw [hφ]; omega⟩
theorem s_bsl {t e : TypeId} {s len : Nat} {ps : Array (Nat × Operand)} {z cs : List Value} {r : List (Nat × Nat × Opd)} (hr : HR base w0 φ h w) (ht : TR φ h.next T a) (hu : P.underlying t = some (.slice e)) (hs : sizeT P e = some s) (hz : zeroT P e = some z) (h0 : 0 < s) (hzl : z.length = s) (hlen : len * s ≤ 16777216)
    (hp : placesA s ps.toList = some r) (hf : fillL T (zerosN z len) r = some cs) (h1 : cs.all one = true) :
    OK base w0 φ h (((do pure (Next.value (← Instr.buildSlice t len (ps.map fun (i, x) => (i, a.eval x)))) : Sem Next)).run P w) (.slice (some ⟨h.next, 0, none⟩) len len) (h.new (.row e s cs)) := by
  obtain ⟨i, z', hi, hz1, rfl, hpl, _⟩ := zeroT_some hz
  have his : i.size = s := by obtain ⟨i2, h2, h3⟩ := sizeT_some hs; rw [hi] at h2; cases h2; exact h3
  obtain ⟨hl, hq⟩ := placesA_ok hp
  have hcl : z'.cells.size = s := by simpa using hzl
  have hmade : ((Array.range (len * s)).map ((if len * s = 0 then #[] else z'.cells)[· % (if len * s = 0 then #[] else z'.cells).size]!)).toList = zerosN z'.cells.toList len := by
    by_cases hn : len = 0
    · subst hn; simp [zerosN]
    · have : ¬ len * s = 0 := by
        have := Nat.mul_pos (Nat.pos_of_ne_zero hn) h0
        omega
      simp only [this, if_false]
      exact zeros_made _ s len hcl h0
  obtain ⟨c', e1, e2⟩ := fill_ok (place := fun i => some (i * s, s)) ht ps.toList r (zerosN z'.cells.toList len) ((Array.range (len * s)).map ((if len * s = 0 then #[] else z'.cells)[· % (if len * s = 0 then #[] else z'.cells).size]!)) cs (fun q hql => by
    obtain ⟨i2, x2, o2, s2, y2, k1, k2, ⟨k3, k4⟩, k6⟩ := hq q hql
    exact ⟨i2, x2, o2, s2, y2, k1, k2, by rw [k3, k4], k6⟩) hl (by rw [hmade]; exact VRL.plain (zerosN_plain hpl len)) hf
  rw [← map_parts] at e1
  have hn := hr.newRow (t := e) (e := s) (c := c') e2 (e2.all_one h1) (fun i u hu => by simpa using hu)
  have hsize : c'.size = len * s := by
    have h7 := e2.1
    have h8 : cs.length = len * s := by
      have hfl : ∀ (r : List (Nat × Nat × Opd)) (zs cs : List Value), fillL T zs r = some cs → cs.length = zs.length := by
        intro r
        induction r with
        | nil => intro zs cs hf; simp [fillL] at hf; rw [hf]
        | cons x r ih =>
          intro zs cs hf
          obtain ⟨o, s, y⟩ := x
          simp only [fillL] at hf
          split at hf
          · rename_i hx
            rw [ih _ _ hf, splice_length (by omega)]
          · cases hf
      rw [hfl r _ _ hf, zerosN_length, Array.length_toList, hcl]
    simp at h7
    omega
  have hrun : ((do pure (Next.value (← Instr.buildSlice t len (ps.map fun (i, x) => (i, a.eval x)))) : Sem Next)).run P w = .ok (.value (.slice (some ⟨w.heap.size, 0, none⟩) len len)) (w.alloc (.cells c' e)) := by
    simp only [Instr.buildSlice, Sem.run_bind, run_underlying hu, Result.andThen_ok, r_sizeOf hs]
    rw [if_neg (by omega)]
    by_cases hz0 : len * s = 0
    · simp only [hz0, if_true] at e1 ⊢
      simp only [Sem.run_pure, Sem.run_bind, Result.andThen_ok, e1]
      simp [newRow]
    · simp only [hz0, if_false] at e1 ⊢
      simp only [Sem.run_pure, Sem.run_bind, Result.andThen_ok, r_zero hi hz1, e1]
      simp [newRow]
  rw [hrun]
  refine OK.val (ext_agr _ _ _) (by simp) ?_ hn
  exact VR.newSlice (x := ⟨w.heap.size, 0, c'.size, s⟩) (by simp) (Nat.le_refl _) (by simp [hsize]) rfl (ext_same _ _ _)
end
end Go.Proofs.Ythofdojknjhpgaa
