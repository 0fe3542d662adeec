/- Own texts, merged: a part of the proof that is told in the last text of this claim. -/
import Derived.Test.YthofdojknjhpgaaCMK
set_option linter.unusedVariables false
set_option linter.unusedSimpArgs false
namespace Go.Proofs.Ythofdojknjhpgaa
open Go

section
variable {P : Program} {base : Nat} {w0 : World} {φ : Phi} {h h' : AH} {w : World} {T : Tm} {a : Act} {v : Value}

theorem eval_map (xs : List Operand) : (xs.toArray.map a.eval) = (xs.map a.eval).toArray := by simp
theorem sound_builtin {o : Oper} {b : Builtin} {args : Array Operand} {ts : Array TypeId} {i : I} (hr : HR base w0 φ h w) (ht : TR φ h.next T a) (ho : o.op = .call { callee := .builtin b, args, argTypes := ts }) (hc : compB P b args.toList ts.toList = some i) (hrun : i.run T h = some (v, h')) :
    OK base w0 φ h ((execOp a.eval o).run P w) v h' := by
  obtain ⟨args⟩ := args
  obtain ⟨ts⟩ := ts
  simp only at hc
  unfold compB at hc
  split at hc
  · -- len
    rename_i x t
    have hex : (execOp a.eval o).run P w = ((do pure (Next.value (← Builtin.len_ #[t] o.type #[a.eval x])) : Sem Next)).run P w := by
      simp only [execOp, ho, resolve, invoke, builtin, Sem.run_bind, Sem.run_pure, Result.andThen_ok, List.map_toArray, List.map_cons, List.map_nil]
    rw [hex]
    split at hc
    · rename_i y hu hy
      cases hc
      simp only [I.run] at hrun
      split at hrun
      · rename_i s hs
        cases hrun
        have hv := ht.opd hy
        exact s_lens1 hr hv hu hs
      · cases hrun
    · rename_i e y hu hy
      cases hc
      simp only [I.run] at hrun
      split at hrun
      · rename_i s hs
        cases hrun
        exact s_lens2 hr (ht.opd hy) hu hs
      · rename_i l xs ys hs
        cases hrun
        exact s_lensF hr (ht.opd hy) hu hs
      · cases hrun
    · rename_i n e y hu hy
      cases hc
      simp only [I.run] at hrun
      cases hrun
      exact s_lena hr hu
    · rename_i k e y hu hy
      cases hc
      simp only [I.run] at hrun
      have hv := ht.opd hy
      split at hrun
      · rename_i r hm
        cases hrun
        exact s_lenm hr hv hu hm
      · cases hrun
    · cases hc
  · -- append
    rename_i s x t u
    split at hc
    · rename_i htu
      subst htu
      split at hc
      · rename_i e hu
        split at hc
        · rename_i i' s' x' z hi hs hx hz
          split at hc
          · rename_i hsz
            cases hc
            have hex : (execOp a.eval o).run P w = ((do pure (Next.value (← Builtin.append_ #[t, t] o.type #[a.eval s, a.eval x])) : Sem Next)).run P w := by
              simp only [execOp, ho, resolve, invoke, builtin, Sem.run_bind, Sem.run_pure, Result.andThen_ok, List.map_toArray, List.map_cons, List.map_nil]
            rw [hex]
            have vs := ht.opd hs
            have vx := ht.opd hx
            simp only [I.run] at hrun
            split at hrun
            · rename_i news m a' n n' hn hm hse
              split at hrun
              · rename_i hm0
                cases hrun
                rw [← hse]
                exact s_app0 hr vs vx hu hi hn (by rw [hm, hm0]) hse
              · rename_i hm0
                split at hrun
                · rename_i hbd
                  split at hrun
                  · split at hrun
                    · rename_i hn0
                      cases hrun
                      subst hn0
                      rw [hse] at vs
                      exact s_appN hr vs vx hu hi hz hsz.2 hn hm hm0 hbd.1 hbd.2.1 hbd.2.2
                    · cases hrun
                  · rename_i B o'
                    split at hrun
                    · rename_i t' e' cs hrow
                      split at hrun
                      · rename_i hcond
                        obtain ⟨h1, rfl, rfl, rfl, h5, h6⟩ := hcond
                        cases hrun
                        rw [hse] at vs
                        exact s_appR hr vs vx hu hi hz hsz.2 hn hm hm0 hbd.1 hbd.2.1 hbd.2.2 (row_some hrow) h1 h5
                      · cases hrun
                    · cases hrun
                  · cases hrun
                · cases hrun
            · cases hrun
          · cases hc
        · cases hc
      · cases hc
    · cases hc
  · -- copy
    rename_i d s t u
    split at hc
    · rename_i e hu
      split at hc
      · rename_i i' d' s' hi hd hs
        split at hc
        · rename_i hcond
          obtain ⟨rfl, _⟩ := hcond
          cases hc
          have hex : (execOp a.eval o).run P w = ((do pure (Next.value (← Builtin.copy_ #[t, t] o.type #[a.eval d, a.eval s])) : Sem Next)).run P w := by
            simp only [execOp, ho, resolve, invoke, builtin, Sem.run_bind, Sem.run_pure, Result.andThen_ok, List.map_toArray, List.map_cons, List.map_nil]
          rw [hex]
          have vd := ht.opd hd
          have vx := ht.opd hs
          simp only [I.run] at hrun
          split at hrun
          · rename_i B o' n n' m news hde hm hn
            split at hrun
            · rename_i t' e' cs hrow
              split at hrun
              · rename_i hcond2
                cases hrun
                exact s_cpy hr vd vx hu hi hde hn hm (row_some hrow) hcond2.1 hcond2.2.2.1 hcond2.2.2.2
              · cases hrun
            · cases hrun
          · rename_i n n' m news hde hm hn
            cases hrun
            exact s_cpy0 hr vd vx hu hi hde hn hm
          · cases hrun
        · cases hc
      · cases hc
    · cases hc
  · -- delete
    rename_i m k t u
    split at hc
    · rename_i kt et hu
      split at hc
      · rename_i m' k' hm hk
        cases hc
        have hex : (execOp a.eval o).run P w = ((do pure (Next.value (← Builtin.delete_ #[t, u] o.type #[a.eval m, a.eval k])) : Sem Next)).run P w := by
          simp only [execOp, ho, resolve, invoke, builtin, Sem.run_bind, Sem.run_pure, Result.andThen_ok, List.map_toArray, List.map_cons, List.map_nil]
        rw [hex]
        have vm := ht.opd hm
        have vk := ht.opd hk
        simp only [I.run] at hrun
        split at hrun
        · rename_i B hB
          rw [hB] at vm
          split at hrun
          · rename_i es hes
            have hd : ∀ b, veq (simpleT P kt) (k'.ev T) (k'.ev T) = some b → ∃ d, P.underlying kt = some d := by
              intro b hb
              unfold veq at hb
              cases hg : P.underlying kt with
              | some d => exact ⟨d, rfl⟩
              | none =>
                have : simpleT P kt = 0 := by simp [simpleT, hg]
                rw [this] at hb
                split at hb <;> simp at hb
            split at hrun
            case isFalse => cases hrun
            rename_i hro
            split at hrun
            · rename_i b j x hb hf
              obtain ⟨d, hd⟩ := hd _ hb
              cases hrun
              exact s_del hr vm vk hu hd hro hes hb hf
            · rename_i b hb hf
              obtain ⟨d, hd⟩ := hd _ hb
              cases hrun
              exact s_del hr vm vk hu hd hro hes hb hf
            · cases hrun
          · cases hrun
        · cases hrun
      · cases hc
    · cases hc
  · -- max
    split at hc
    · rename_i ys hys
      cases hc
      simp only [I.run] at hrun
      split at hrun
      · cases hrun
      · rename_i y ys'
        cases args with
        | nil => simp [opds] at hys
        | cons x xs =>
          simp only [opds] at hys
          split at hys
          · rename_i y2 ys2 h1 h2
            cases hys
            split at hrun
            · rename_i k i' hk
              split at hrun
              · rename_i r hm
                cases hrun
                have hv := ht.opd h1
                rw [hk] at hv
                have hv2 := int_of hv
                have hmm := r_mm (P := P) (w := w) (mx := true) (k := k) ht xs ys' i' r h2 hm
                have hex : (execOp a.eval o).run P w = .ok (.value (.int k r)) w := by
                  simp only [execOp, ho, resolve, invoke, builtin, Sem.run_bind, Sem.run_pure, Result.andThen_ok, List.map_toArray, List.map_cons, Builtin.max_, hv2]
                  try simp only [cond_true] at hmm
                  rw [hmm]
                  rfl
                rw [hex]
                exact OK.pure hr (.int _ _)
              · cases hrun
            · cases hrun
          · cases hys
    · cases hc
  · -- min
    split at hc
    · rename_i ys hys
      cases hc
      simp only [I.run] at hrun
      split at hrun
      · cases hrun
      · rename_i y ys'
        cases args with
        | nil => simp [opds] at hys
        | cons x xs =>
          simp only [opds] at hys
          split at hys
          · rename_i y2 ys2 h1 h2
            cases hys
            split at hrun
            · rename_i k i' hk
              split at hrun
              · rename_i r hm
                cases hrun
                have hv := ht.opd h1
                rw [hk] at hv
                have hv2 := int_of hv
                have hmm := r_mm (P := P) (w := w) (mx := false) (k := k) ht xs ys' i' r h2 hm
                have hex : (execOp a.eval o).run P w = .ok (.value (.int k r)) w := by
                  simp only [execOp, ho, resolve, invoke, builtin, Sem.run_bind, Sem.run_pure, Result.andThen_ok, List.map_toArray, List.map_cons, Builtin.min_, hv2]
                  try simp only [cond_false] at hmm
                  rw [hmm]
                  rfl
                rw [hex]
                exact OK.pure hr (.int _ _)
              · cases hrun
            · cases hrun
          · cases hys
    · cases hc
  · cases hc
end
end Go.Proofs.Ythofdojknjhpgaa
