/- Own texts, merged: a part of the proof that is told in the last text of this claim. -/
import Derived.Test.YthofdojknjhpgaaCMJ
set_option linter.unusedVariables false
set_option linter.unusedSimpArgs false
namespace Go.Proofs.Ythofdojknjhpgaa
open Go

section
variable {P : Program} {base : Nat} {w0 : World} {φ : Phi} {h : AH} {w : World} {T : Tm} {a : Act}

theorem s_cpy {t ty e : TypeId} {i : TypeInfo} {x d cx cd : Value} {B o m n n' : Nat} {t' : TypeId} {e' : Nat} {cs news : List Value} (hr : HR base w0 φ h w) (hd : VR φ h.next d cd) (hx : VR φ h.next x cx) (ht : P.underlying t = some (.slice e)) (hi : P.info? e = some i)
    (hde : d = .slice (some ⟨B, o, none⟩) n n') (hn : h.src i.size x = some news) (hm : lenV x = some m) (hB : h.get B = some (.row t' e' cs)) (hro : h.ro ≤ B) (hlen : o + min m n * i.size ≤ cs.length) (hone : (news.take (min m n * i.size)).all one = true) :
    OK base w0 φ h (((do pure (Next.value (← Builtin.copy_ #[t, t] ty #[cd, cx]))) : Sem Next).run P w) (.int .i64 (min m n : Nat)) (h.put B (some (.row t' e' (splice cs o (news.take (min m n * i.size)))))) := by
  subst hde
  cases hd with
  | slice _ _ _ cp ad hBn hl hc =>
  have hmin : Nat.min m n = min m n := rfl
  have hput0 : min m n = 0 → HR base w0 φ (h.put B (some (.row t' e' (splice cs o (news.take (min m n * i.size)))))) w := by
    intro h0
    refine hr.congr (fun C => ?_) rfl rfl
    rw [AH.get_put]
    split
    · rename_i hC; subst hC; rw [hB, h0]; simp [splice]
    · rfl
  rcases hr.src_ok hx hn hm with ⟨rfl, rfl, rfl⟩ | ⟨as, cq, us, rfl, hvr, hul, hcell⟩
  · have hrun : (Builtin.copy_ #[t, t] ty #[.slice (some ad) n cp, .slice none 0 0]).run P w = .ok (goInt ((min 0 n : Nat) : Int)) w := by
      simp [Builtin.copy_, run_underlying ht, Builtin.lenOf, sizeOf, typeInfo, hi, Builtin.firstCells, storeCells]
    rw [Sem.run_bind, hrun]
    exact OK.val (Agr.refl _ _) (Nat.le_refl _) (.int _ _) (hput0 (by omega))
  · have hvk := hvr.take (min m n * i.size)
    have hlk : (us.take (min m n * i.size)).length = min m n * i.size := by
      rw [List.length_take, hul]
      exact Nat.min_eq_left (Nat.mul_le_mul_right _ (Nat.min_le_left _ _))
    have hf := run_firstCells_some (P := P) w i.size (min m n) as m cq (us.take (min m n * i.size)) hlk (fun j u hj => by
      rw [List.getElem?_take] at hj
      split at hj
      · exact hcell j u hj
      · cases hj)
    by_cases h0 : min m n = 0
    · have hus : us.take (min m n * i.size) = [] := by rw [h0]; simp
      rw [hus] at hf
      have hrun : (Builtin.copy_ #[t, t] ty #[.slice (some ad) n cp, .slice (some as) m cq]).run P w = .ok (goInt ((min m n : Nat) : Int)) w := by
        simp only [Builtin.copy_, List.getElem?_toArray, List.getElem?_cons_zero, List.getElem?_cons_succ, Sem.run_bind, run_underlying ht, Result.andThen_ok, Builtin.lenOf, Sem.run_pure, r_sizeOf (show sizeT P e = some i.size by simp [sizeT, hi]), hmin, hf, storeCells]
      rw [Sem.run_bind, hrun]
      exact OK.val (Agr.refl _ _) (Nat.le_refl _) (.int _ _) (hput0 h0)
    · obtain ⟨e1, _⟩ := hc (by omega)
      have hb2 := (hr.wr B t' e' cs hro hB).2.1
      rw [hb2, Nat.zero_add] at e1
      subst e1
      obtain ⟨w', hst, hr'⟩ := setRow_splice (P := P) (o := o) hr hro hB hvk hone (by rw [hvk.1, hlk]; exact hlen)
      have hrun : (Builtin.copy_ #[t, t] ty #[.slice (some ⟨(φ B).blk, o, none⟩) n cp, .slice (some as) m cq]).run P w = .ok (goInt ((min m n : Nat) : Int)) w' := by
        simp only [Builtin.copy_, List.getElem?_toArray, List.getElem?_cons_zero, List.getElem?_cons_succ, Sem.run_bind, run_underlying ht, Result.andThen_ok, Builtin.lenOf, Sem.run_pure, r_sizeOf (show sizeT P e = some i.size by simp [sizeT, hi]), hmin, hf, hst]
      rw [Sem.run_bind, hrun]
      exact OK.val (Agr.refl _ _) (Nat.le_refl _) (.int _ _) hr'
theorem s_cpy0 {t ty e : TypeId} {i : TypeInfo} {x d cx cd : Value} {m n n' : Nat} {news : List Value} (hr : HR base w0 φ h w) (hd : VR φ h.next d cd) (hx : VR φ h.next x cx) (ht : P.underlying t = some (.slice e)) (hi : P.info? e = some i)
    (hde : d = .slice none n n') (hn : h.src i.size x = some news) (hm : lenV x = some m) :
    OK base w0 φ h (((do pure (Next.value (← Builtin.copy_ #[t, t] ty #[cd, cx]))) : Sem Next).run P w) (.int .i64 0) h := by
  subst hde
  cases hd
  rcases hr.src_ok hx hn hm with ⟨rfl, rfl, rfl⟩ | ⟨as, cq, us, rfl, hvr, hul, hcell⟩
  · have hrun : (Builtin.copy_ #[t, t] ty #[.slice none 0 0, .slice none 0 0]).run P w = .ok (goInt 0) w := by
      simp [Builtin.copy_, run_underlying ht, Builtin.lenOf, sizeOf, typeInfo, hi, Builtin.firstCells]
    rw [Sem.run_bind, hrun]
    exact OK.pure hr (.int _ _)
  · have hf := run_firstCells_some (P := P) w i.size 0 as m cq [] (by simp) (fun j u hj => by simp at hj)
    have hrun : (Builtin.copy_ #[t, t] ty #[.slice none 0 0, .slice (some as) m cq]).run P w = .ok (goInt 0) w := by
      simp [Builtin.copy_, run_underlying ht, Builtin.lenOf, sizeOf, typeInfo, hi, hf]
    rw [Sem.run_bind, hrun]
    exact OK.pure hr (.int _ _)
theorem r_mm {mx : Bool} {k : IntKind} (ht : TR φ h.next T a) : ∀ (ys : List Operand) (zs : List Opd) (x r : Int), opds ys = some zs → mmL mx T k x zs = some r →
    ((ys.map a.eval).foldlM (bif mx then Builtin.max2 else Builtin.min2) (.int k x)).run P w = .ok (.int k r) w
  | [], zs, x, r, hz, hm => by simp [opds] at hz; subst hz; simp [mmL] at hm; subst hm; simp
  | y :: ys, zs, x, r, hz, hm => by
    simp only [opds] at hz
    split at hz
    · rename_i y' ys' h1 h2
      cases hz
      simp only [mmL] at hm
      split at hm
      · rename_i k' b hb
        split at hm
        · rename_i hk
          subst hk
          have hv := ht.opd h1
          rw [hb] at hv
          have hv2 := int_of hv
          have ih := r_mm (mx := mx) (k := k') ht ys ys' (mm2 mx x b) r h2 hm
          cases mx
          · simp only [cond_false] at ih ⊢
            simp only [List.map_cons, List.foldlM_cons, Sem.run_bind, hv2, Builtin.min2, Sem.run_pure, Result.andThen_ok]
            simpa [mm2] using ih
          · simp only [cond_true] at ih ⊢
            simp only [List.map_cons, List.foldlM_cons, Sem.run_bind, hv2, Builtin.max2, Sem.run_pure, Result.andThen_ok]
            simpa [mm2] using ih
        · cases hm
      · cases hm
    · cases hz
theorem s_ixa {t e : TypeId} {n s : Nat} {d : TypeDesc} {k : IntKind} {i : Int} {x y c cy : Value} {cs : Array Value} (hr : HR base w0 φ h w) (hx : VR φ h.next x c) (hy : VR φ h.next y cy) (hxe : x = .agg cs) (hye : y = .int k i) (hu : P.underlying t = some (.array n e)) (hs : sizeT P e = some s) (hud : P.underlying e = some d) (hi : 0 ≤ i ∧ i < n)
    {v : Value} (hv : if isAggT P e = true then i.toNat * s + s ≤ cs.size ∧ v = .agg ((cs.toList.drop (i.toNat * s)).take s).toArray else cs[i.toNat * s]? = some v) :
    OK base w0 φ h (((do pure (Next.value (← Instr.index t c cy))) : Sem Next).run P w) v h := by
  subst hxe
  subst hye
  obtain rfl := int_of hy
  cases hx with
  | agg _ ys hl hp =>
  have hvl := VRL.of_arrays hl hp
  cases hag : isAggT P e with
  | false =>
    simp only [hag, Bool.false_eq_true, if_false] at hv
    obtain ⟨u, hu3, hvr⟩ := hvl.get (by simpa using hv)
    have hpt := r_partA (w := w) (ys := ys) (o := i.toNat * s) hs hag hud
    simp only [Bool.false_eq_true, if_false, show ys[i.toNat * s]? = some u by simpa using hu3] at hpt
    have hrun : ((do pure (Next.value (← Instr.index t (.agg ys) (.int k i))) : Sem Next)).run P w = .ok (.value u) w := by
      simp [Instr.index, asIntOf, run_underlying hu, hi, r_sizeOf hs, hpt]
    rw [hrun]
    exact OK.pure hr hvr
  | true =>
    simp only [hag, if_true] at hv
    obtain ⟨hv1, rfl⟩ := hv
    have hpt := r_partA (w := w) (ys := ys) (o := i.toNat * s) hs hag hud
    simp only [if_true] at hpt
    have hrun : ((do pure (Next.value (← Instr.index t (.agg ys) (.int k i))) : Sem Next)).run P w = .ok (.value (.agg (ys.extract (i.toNat * s) (i.toNat * s + s)))) w := by
      simp [Instr.index, asIntOf, run_underlying hu, hi, r_sizeOf hs, hpt]
    rw [hrun]
    refine OK.pure hr ?_
    have hg := ((hvl.drop (i.toNat * s)).take s).agg
    have he : ys.extract (i.toNat * s) (i.toNat * s + s) = ((ys.toList.drop (i.toNat * s)).take s).toArray := by
      apply Array.ext'
      simp [List.extract_eq_take_drop]
    rw [he]
    exact hg
end
end Go.Proofs.Ythofdojknjhpgaa
