/- Own texts, merged: a part of the proof that is told in the last text of this claim. -/
import Derived.Test.YthofdojknjhpgaaCMF
set_option linter.unusedVariables false
set_option linter.unusedSimpArgs false
namespace Go.Proofs.Ythofdojknjhpgaa
open Go

section
variable {P : Program} {base : Nat} {w0 : World} {φ : Phi} {h : AH} {w : World} {T : Tm} {a : Act}

theorem int_of {n : Nat} {k : IntKind} {i : Int} {c : Value} (hv : VR φ n (.int k i) c) : c = .int k i := by cases hv; rfl
theorem str_of {n : Nat} {s : ByteArray} {c : Value} (hv : VR φ n (.string s) c) : c = .string s := by cases hv; rfl
theorem bool_of {n : Nat} {b : Bool} {c : Value} (hv : VR φ n (.bool b) c) : c = .bool b := by cases hv; rfl
theorem guard_int (op : BinOp) (t : TypeId) (x y : Operand) (k k' : IntKind) (i j : Int) : (eqGuard op t x y (.int k i) (.int k' j)).run P w = .ok () w := by cases op <;> simp [eqGuard]
theorem guard_str (op : BinOp) (t : TypeId) (x y : Operand) (i j : ByteArray) : (eqGuard op t x y (.string i) (.string j)).run P w = .ok () w := by cases op <;> simp [eqGuard]
theorem r_ibin {op : BinOp} {t : TypeId} {k : IntKind} {i j : Int} {r : Value} (hop : op ≠ .shl) (hop2 : op ≠ .shr) (hv : ibin op k i j = some r) : (binOp op t (.int k i) (.int k j)).run P w = .ok r w ∧ ∀ ψ n, VR ψ n r r := by
  cases op <;> simp [ibin] at hv hop hop2 <;> first
    | (subst hv; exact ⟨by simp [binOp, Op.intArith, Op.intBits, Op.intCmp], fun _ _ => by constructor⟩)
    | (obtain ⟨h0, rfl⟩ := hv; exact ⟨by simp [binOp, Op.intDiv, h0], fun _ _ => by constructor⟩)
theorem r_ishift {op : BinOp} {t : TypeId} {k k' : IntKind} {i j : Int} {r : Value} (hop : op = .shl ∨ op = .shr) (hv : ishift op k i j = some r) : (binOp op t (.int k i) (.int k' j)).run P w = .ok r w ∧ ∀ ψ n, VR ψ n r r := by
  unfold ishift at hv
  split at hv
  · cases hv
  · rename_i h0
    rcases hop with rfl | rfl <;> simp at hv <;> subst hv <;> exact ⟨by simp [binOp, Op.shift, h0], fun _ _ => by constructor⟩
theorem r_sbin {op : BinOp} {t : TypeId} {i j : ByteArray} {r : Value} (hv : sbin op i j = some r) : (binOp op t (.string i) (.string j)).run P w = .ok r w ∧ ∀ ψ n, VR ψ n r r := by
  cases op <;> simp [sbin] at hv <;> first
    | (subst hv; exact ⟨by simp [binOp, Op.stringOp], fun _ _ => by constructor⟩)
    | (obtain ⟨h0, rfl⟩ := hv
       refine ⟨?_, fun _ _ => by constructor⟩
       have h1 : ¬ (((i.size + j.size : Nat) : Int) > IntKind.i64.max) := by
         have : IntKind.i64.max = 9223372036854775807 := by decide
         omega
       simp only [binOp, Op.stringOp, if_neg h1, Sem.run_pure])
theorem simple_int {t : TypeId} (hs : simpleT P t = 2) : ∃ k, P.underlying t = some (.int k) := by
  unfold simpleT at hs; split at hs <;> simp_all
theorem simple_bool {t : TypeId} (hs : simpleT P t = 1) : P.underlying t = some .bool := by
  unfold simpleT at hs; split at hs <;> simp_all
theorem simple_str {t : TypeId} (hs : simpleT P t = 3) : P.underlying t = some .string := by
  unfold simpleT at hs; split at hs <;> simp_all
theorem simple_agg {t : TypeId} (hs : simpleT P t ≠ 0) : isAggT P t = false ∧ ∃ d, P.underlying t = some d := by
  unfold simpleT at hs
  unfold isAggT
  split at hs <;> simp_all
theorem r_part {t : TypeId} (hs : simpleT P t ≠ 0) {xs : Array Value} {o : Nat} {v : Value} (hx : xs[o]? = some v) : (part t xs o).run P w = .ok v w := by
  obtain ⟨h1, d, h2⟩ := simple_agg hs
  simp [part, r_isAgg h2, h1, hx]
theorem r_veq {n d : Nat} {t : TypeId} {x y c e : Value} {b : Bool} (hv : veq (simpleT P t) x y = some b) (hx : VR φ n x c) (hy : VR φ n y e) : (Op.equalIn (d + 1) t c e).run P w = .ok b w := by
  unfold veq at hv
  split at hv
  · split at hv
    · rename_i hg
      cases hv
      obtain ⟨rfl⟩ := int_of hx
      obtain ⟨rfl⟩ := int_of hy
      obtain ⟨k, hk⟩ := simple_int hg.1
      obtain rfl := hg.2
      exact run_equalIn_int w d t _ _ _ _ hk
    · cases hv
  · split at hv
    · rename_i hg
      cases hv
      obtain rfl := bool_of hx
      obtain rfl := bool_of hy
      exact run_equalIn_bool' w d t _ _ (simple_bool hg)
    · cases hv
  · split at hv
    · rename_i hg
      cases hv
      obtain rfl := str_of hx
      obtain rfl := str_of hy
      exact run_equalIn_string w d t _ _ (simple_str hg)
    · cases hv
  · cases hv
theorem r_aeq {n d : Nat} {xs ys cs es : Array Value} (hx : VRL φ n xs.toList cs.toList) (hy : VRL φ n ys.toList es.toList) : ∀ (fs : List Field) (b : Bool), (∀ f ∈ fs, f.name ≠ "_" ∧ simpleT P f.type ≠ 0) →
    aeq xs ys (fs.map fun f => (f.offset, simpleT P f.type)) = some b → (Op.eqFields (d + 1) cs es fs).run P w = .ok b w
  | [], b, _, hb => by simp [aeq] at hb; subst hb; simp [Op.eqFields]
  | f :: fs, b, hf, hb => by
    simp only [List.map_cons, aeq] at hb
    split at hb
    · rename_i x y h1 h2
      split at hb
      · rename_i b1 h3
        split at hb
        · rename_i b2 h4
          cases hb
          obtain ⟨c, hc1, hc2⟩ := hx.get (by simpa using h1)
          obtain ⟨e, he1, he2⟩ := hy.get (by simpa using h2)
          obtain ⟨g1, g2⟩ := hf f (by simp)
          have ih := r_aeq (d := d) hx hy fs b2 (fun g hg => hf g (by simp [hg])) h4
          have q1 := r_part (w := w) g2 (show cs[f.offset]? = some c by simpa using hc1)
          have q2 := r_part (w := w) g2 (show es[f.offset]? = some e by simpa using he1)
          have q3 := r_veq (w := w) (d := d) h3 hc2 he2
          simp only [Op.eqFields]
          rw [if_pos g1]
          simp only [Sem.run_bind, q1, q2, q3, Result.andThen_ok, Sem.run_ite]
          cases b1 <;> simp [ih]
        · cases hb
      · cases hb
    · cases hb
theorem e_ptr1 (d : Nat) {t e : TypeId} (hd : P.underlying t = some (.pointer e)) (b : Option Addr) : (Op.equalIn (d + 1) t (.pointer none) (.pointer b)).run P w = .ok b.isNone w := by
  simp [Op.equalIn, run_underlying hd]
theorem e_ptr2 (d : Nat) {t e : TypeId} (hd : P.underlying t = some (.pointer e)) (b : Addr) : (Op.equalIn (d + 1) t (.pointer (some b)) (.pointer none)).run P w = .ok false w := by
  simp [Op.equalIn, run_underlying hd]
theorem e_sl1 (d : Nat) {t e : TypeId} (hd : P.underlying t = some (.slice e)) (b : Option Addr) (i j k l : Nat) : (Op.equalIn (d + 1) t (.slice none i j) (.slice b k l)).run P w = .ok b.isNone w := by
  simp [Op.equalIn, run_underlying hd]
theorem e_sl2 (d : Nat) {t e : TypeId} (hd : P.underlying t = some (.slice e)) (b : Addr) (i j k l : Nat) : (Op.equalIn (d + 1) t (.slice (some b) i j) (.slice none k l)).run P w = .ok false w := by
  simp [Op.equalIn, run_underlying hd]
theorem e_map1 (d : Nat) {t k e : TypeId} (hd : P.underlying t = some (.map k e)) (b : Option Nat) : (Op.equalIn (d + 1) t (.map none) (.map b)).run P w = .ok b.isNone w := by
  simp [Op.equalIn, run_underlying hd]
theorem e_map2 (d : Nat) {t k e : TypeId} (hd : P.underlying t = some (.map k e)) (b : Nat) : (Op.equalIn (d + 1) t (.map (some b)) (.map none)).run P w = .ok false w := by
  simp [Op.equalIn, run_underlying hd]
theorem e_fn1 (d : Nat) {t : TypeId} {p r : Array TypeId} {v : Bool} (hd : P.underlying t = some (.func p r v)) : (Op.equalIn (d + 1) t .nilFunc .nilFunc).run P w = .ok true w := by
  simp [Op.equalIn, run_underlying hd]
theorem e_fn2 (d : Nat) {t : TypeId} {p r : Array TypeId} {v : Bool} (hd : P.underlying t = some (.func p r v)) (f : Fn) (x y : Array Value) : (Op.equalIn (d + 1) t .nilFunc (.func f x y)).run P w = .ok false w := by
  simp [Op.equalIn, run_underlying hd]
theorem e_fn3 (d : Nat) {t : TypeId} {p r : Array TypeId} {v : Bool} (hd : P.underlying t = some (.func p r v)) (f : Fn) (x y : Array Value) : (Op.equalIn (d + 1) t (.func f x y) .nilFunc).run P w = .ok false w := by
  simp [Op.equalIn, run_underlying hd]
theorem r_oeq {n : Nat} {t : TypeId} {x y c e : Value} {b : Bool} (hv : oeq (eqTag P t) (eqOffs P t) x y = some b) (hx : VR φ n x c) (hy : VR φ n y e) (op : BinOp) (ox oy : Operand) :
    (eqGuard op t ox oy c e).run P w = .ok () w ∧ (Op.equalIn 10000 t c e).run P w = .ok b w ∧ (∀ k i, c ≠ .int k i) ∧ (∀ s, c ≠ .string s) ∧ (∀ k f, c ≠ .float k f) ∧ (∀ k f g, c ≠ .complex k f g) := by
  have tag : ∀ {g : Nat}, eqTag P t = g → g ≠ 0 → g ≠ 6 → ∃ d, P.underlying t = some d ∧ (match g with | 1 => d = .bool | 2 => ∃ e, d = .pointer e | 3 => ∃ e, d = .slice e | 4 => ∃ k e, d = .map k e | 5 => ∃ p r v, d = .func p r v | _ => True) := by
    intro g hg h0 h6
    unfold eqTag at hg
    split at hg <;> rename_i hu
    · exact ⟨_, hu, by subst hg; rfl⟩
    · exact ⟨_, hu, by subst hg; exact ⟨_, rfl⟩⟩
    · exact ⟨_, hu, by subst hg; exact ⟨_, rfl⟩⟩
    · exact ⟨_, hu, by subst hg; exact ⟨_, _, rfl⟩⟩
    · exact ⟨_, hu, by subst hg; exact ⟨_, _, _, rfl⟩⟩
    · split at hg
      · exact absurd hg.symm h0
      · exact absurd hg.symm h6
    · exact absurd hg.symm h0
  unfold oeq at hv
  split at hv
  · split at hv
    · rename_i hg
      cases hv
      obtain ⟨d, hd, rfl⟩ := tag hg (by decide) (by decide)
      obtain rfl := bool_of hx
      obtain rfl := bool_of hy
      exact ⟨by cases op <;> simp [eqGuard], run_equalIn_bool' w 9999 t _ _ hd, by simp, by simp, by simp, by simp⟩
    · cases hv
  · split at hv
    · rename_i hg
      cases hv
      obtain ⟨d, hd, e', rfl⟩ := tag hg (by decide) (by decide)
      cases hx
      cases hy <;> exact ⟨by cases op <;> simp [eqGuard], e_ptr1 9999 hd _, by simp, by simp, by simp, by simp⟩
    · cases hv
  · split at hv
    · rename_i hg
      cases hv
      obtain ⟨d, hd, e', rfl⟩ := tag hg (by decide) (by decide)
      cases hx
      cases hy
      exact ⟨by cases op <;> simp [eqGuard], e_ptr2 9999 hd _, by simp, by simp, by simp, by simp⟩
    · cases hv
  · split at hv
    · rename_i hg
      cases hv
      obtain ⟨d, hd, e', rfl⟩ := tag hg (by decide) (by decide)
      cases hx
      cases hy <;> exact ⟨by cases op <;> simp [eqGuard], e_sl1 9999 hd _ _ _ _ _, by simp, by simp, by simp, by simp⟩
    · cases hv
  · split at hv
    · rename_i hg
      cases hv
      obtain ⟨d, hd, e', rfl⟩ := tag hg (by decide) (by decide)
      cases hx
      cases hy
      exact ⟨by cases op <;> simp [eqGuard], e_sl2 9999 hd _ _ _ _ _, by simp, by simp, by simp, by simp⟩
    · cases hv
  · split at hv
    · rename_i hg
      cases hv
      obtain ⟨d, hd, e', e'', rfl⟩ := tag hg (by decide) (by decide)
      cases hx
      cases hy <;> exact ⟨by cases op <;> simp [eqGuard], e_map1 9999 hd _, by simp, by simp, by simp, by simp⟩
    · cases hv
  · split at hv
    · rename_i hg
      cases hv
      obtain ⟨d, hd, e', e'', rfl⟩ := tag hg (by decide) (by decide)
      cases hx
      cases hy
      exact ⟨by cases op <;> simp [eqGuard], e_map2 9999 hd _, by simp, by simp, by simp, by simp⟩
    · cases hv
  · split at hv
    · rename_i hg
      cases hv
      obtain ⟨d, hd, e', e'', e3, rfl⟩ := tag hg (by decide) (by decide)
      cases hx
      cases hy
      exact ⟨by cases op <;> simp [eqGuard], e_fn1 9999 hd, by simp, by simp, by simp, by simp⟩
    · cases hv
  · split at hv
    · rename_i hg
      cases hv
      obtain ⟨d, hd, e', e'', e3, rfl⟩ := tag hg (by decide) (by decide)
      cases hx
      cases hy
      exact ⟨by cases op <;> simp [eqGuard], e_fn2 9999 hd _ _ _, by simp, by simp, by simp, by simp⟩
    · cases hv
  · split at hv
    · rename_i hg
      cases hv
      obtain ⟨d, hd, e', e'', e3, rfl⟩ := tag hg (by decide) (by decide)
      cases hx
      cases hy
      exact ⟨by cases op <;> simp [eqGuard], e_fn3 9999 hd _ _ _, by simp, by simp, by simp, by simp⟩
    · cases hv
  · split at hv
    · rename_i hg
      cases hv
      obtain ⟨d, hd, e', rfl⟩ := tag hg.1 (by decide) (by decide)
      cases hy
      cases hx with
      | fz0 _ hc => exact absurd hg.2 (Nat.lt_irrefl _)
      | fz => exact ⟨by cases op <;> simp [eqGuard], e_sl2 9999 hd _ _ _ _ _, by simp, by simp, by simp, by simp⟩
    · cases hv
  · split at hv
    · rename_i hg
      cases hv
      obtain ⟨d, hd, e', rfl⟩ := tag hg.1 (by decide) (by decide)
      cases hx
      cases hy with
      | fz0 _ hc => exact absurd hg.2 (Nat.lt_irrefl _)
      | fz => exact ⟨by cases op <;> simp [eqGuard], e_sl1 9999 hd _ _ _ _ _, by simp, by simp, by simp, by simp⟩
    · cases hv
  · split at hv
    · rename_i hg
      cases hv
      obtain ⟨d, hd, e', rfl⟩ := tag hg (by decide) (by decide)
      cases hy
      cases hx with
      | fp => exact ⟨by cases op <;> simp [eqGuard], e_ptr2 9999 hd _, by simp, by simp, by simp, by simp⟩
    · cases hv
  · split at hv
    · rename_i hg
      cases hv
      obtain ⟨d, hd, e', rfl⟩ := tag hg (by decide) (by decide)
      cases hx
      cases hy with
      | fp => exact ⟨by cases op <;> simp [eqGuard], e_ptr1 9999 hd _, by simp, by simp, by simp, by simp⟩
    · cases hv
  · split at hv
    · rename_i hg
      have hst : ∃ fs, P.underlying t = some (.struct fs) ∧ P.stoodInHeld t = false ∧ P.eqGuardType P.depth t = false ∧ ∀ f ∈ fs.toList, f.name ≠ "_" ∧ simpleT P f.type ≠ 0 := by
        unfold eqTag at hg
        split at hg <;> first
          | (exact absurd hg (by decide))
          | (rename_i fs hu
             split at hg
             · exact absurd hg (by decide)
             · rename_i hb
               simp only [Bool.or_eq_true, List.any_eq_true, not_or, Bool.not_eq_true, not_exists, not_and] at hb
               exact ⟨fs, hu, hb.1.1, hb.1.2, fun f hf => by have := hb.2 f hf; simpa using this⟩)
      obtain ⟨fs, hu, h1, h2, h3⟩ := hst
      cases hx with
      | agg _ cs hxs hxv =>
      cases hy with
      | agg _ es hys hyv =>
      have hfo : P.fieldsOf t = fs := by simp [Program.fieldsOf, hu]
      have hoff : eqOffs P t = fs.toList.map fun f => (f.offset, simpleT P f.type) := by simp [eqOffs, hu]
      rw [hoff] at hv
      have hq := r_aeq (w := w) (d := 9998) (VRL.of_arrays hxs hxv) (VRL.of_arrays hys hyv) fs.toList b h3 hv
      exact ⟨run_eqGuard_agg w op t ox oy cs es h2, by rw [run_equalIn_struct w 9999 t cs es (by rw [hfo]; exact hu) h1, hfo]; exact hq, by simp, by simp, by simp, by simp⟩
    · cases hv
  · cases hv
theorem s_bin {t : TypeId} {op : BinOp} {x y c e r : Value} {ox oy : Operand} (hr : HR base w0 φ h w) (hx : VR φ h.next x c) (hy : VR φ h.next y e) (hv : vbin op (eqTag P t) (eqOffs P t) x y = some r) :
    OK base w0 φ h (((do pure (Next.value (← (do eqGuard op t ox oy c e; binOp op t c e))) : Sem Next)).run P w) r h := by
  have fin : ((do eqGuard op t ox oy c e; binOp op t c e : Sem Value).run P w = .ok r w ∧ ∀ ψ n, VR ψ n r r) → OK base w0 φ h (((do pure (Next.value (← (do eqGuard op t ox oy c e; binOp op t c e))) : Sem Next)).run P w) r h := by
    rintro ⟨h1, h2⟩
    rw [Sem.run_bind, h1]
    exact OK.pure hr (h2 _ _)
  apply fin
  unfold vbin at hv
  split at hv
  · obtain rfl := int_of hx
    obtain rfl := int_of hy
    rw [Sem.run_bind, guard_int]
    split at hv
    · exact r_ishift (.inl rfl) hv
    · exact r_ishift (.inr rfl) hv
    · rename_i n1 n2
      split at hv
      · rename_i hk
        subst hk
        exact r_ibin n1 n2 hv
      · cases hv
  · obtain rfl := str_of hx
    obtain rfl := str_of hy
    rw [Sem.run_bind, guard_str]
    exact r_sbin hv
  · split at hv
    · split at hv
      · rename_i b hb
        cases hv
        obtain ⟨h1, h2, h3, h4, h5, h6⟩ := r_oeq (w := w) hb hx hy .eql ox oy
        refine ⟨?_, fun _ _ => .bool _⟩
        have h7 : binOp .eql t c e = (do pure (.bool (← Op.equal t c e)) : Sem Value) := by
          unfold binOp
          split <;> first | rfl | (rename_i hh; cases hh; done) | simp_all
        rw [Sem.run_bind, h1, Result.andThen_ok, h7]
        simp [Op.equal, Op.maxDepth, h2]
      · cases hv
    · split at hv
      · rename_i b hb
        cases hv
        obtain ⟨h1, h2, h3, h4, h5, h6⟩ := r_oeq (w := w) hb hx hy .neq ox oy
        refine ⟨?_, fun _ _ => .bool _⟩
        have h7 : binOp .neq t c e = (do pure (.bool (!(← Op.equal t c e))) : Sem Value) := by
          unfold binOp
          split <;> first | rfl | (rename_i hh; cases hh; done) | simp_all
        rw [Sem.run_bind, h1, Result.andThen_ok, h7]
        simp [Op.equal, Op.maxDepth, h2]
      · cases hv
    · cases hv
end
end Go.Proofs.Ythofdojknjhpgaa
