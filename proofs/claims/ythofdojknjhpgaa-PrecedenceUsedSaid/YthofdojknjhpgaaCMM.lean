/- Own texts, merged: a part of the proof that is told in the last text of this claim. -/
import Derived.Test.YthofdojknjhpgaaCML
set_option linter.unusedVariables false
set_option linter.unusedSimpArgs false
namespace Go.Proofs.Ythofdojknjhpgaa
open Go

section
variable {P : Program} {base : Nat} {w0 : World} {φ : Phi} {h h' : AH} {w : World} {T : Tm} {a : Act} {v : Value}

theorem mup_ok {t kt et : TypeId} {m k x : Operand} {m' k' x' : Opd} (hr : HR base w0 φ h w) (ht : TR φ h.next T a) (hu : P.underlying t = some (.map kt et)) (hm : opd m = some m') (hk : opd k = some k') (hx : opd x = some x') (hrun : (I.mup (simpleT P kt) m' k' x').run T h = some (v, h')) :
    OK base w0 φ h (((do Instr.mapUpdate t (a.eval m) (a.eval k) (a.eval x); pure Next.skip) : Sem Next).run P w) v h' := by
  have vm := ht.opd hm
  have vk := ht.opd hk
  simp only [I.run] at hrun
  split at hrun
  · rename_i B hB
    rw [hB] at vm
    split at hrun
    · rename_i es hes
      split at hrun
      · rename_i hro1
        have hd : ∀ b, veq (simpleT P kt) (k'.ev T) (k'.ev T) = some b → ∃ d, P.underlying kt = some d := by
          intro b hb
          unfold veq at hb
          cases hg : P.underlying kt with
          | some d => exact ⟨d, rfl⟩
          | none =>
            have : simpleT P kt = 0 := by simp [simpleT, hg]
            rw [this] at hb
            split at hb <;> simp at hb
        split at hrun
        · rename_i b j y hb hf
          obtain ⟨d, hd⟩ := hd _ hb
          cases hrun
          exact s_mup hr vm vk (ht.opd hx) hu hd hro1.1 hes hb hf
        · rename_i b hb hf
          obtain ⟨d, hd⟩ := hd _ hb
          cases hrun
          exact s_mup hr vm vk (ht.opd hx) hu hd hro1.1 hes hb hf
        · cases hrun
      · cases hrun
    · cases hrun
  · cases hrun
theorem sound (hr : HR base w0 φ h w) (ht : TR φ h.next T a) {o : Oper} {i : I} (hc : comp P o = some i) (hrun : i.run T h = some (v, h')) : OK base w0 φ h ((execOp a.eval o).run P w) v h' := by
  obtain ⟨dst, op, type, pos, after, guard⟩ := o
  cases op with
  | move x =>
    simp only [comp] at hc
    split at hc
    · rename_i y hy; cases hc; simp only [I.run] at hrun; cases hrun; exact OK.pure hr (ht.opd hy)
    · cases hc
  | assign x =>
    simp only [comp] at hc
    split at hc
    · rename_i y hy; cases hc; simp only [I.run] at hrun; cases hrun; exact OK.pure hr (ht.opd hy)
    · cases hc
  | pick c x y =>
    simp only [comp] at hc
    split at hc
    · rename_i c' x' y' h1 h2 h3
      cases hc
      simp only [I.run] at hrun
      split at hrun
      · rename_i b hb
        cases hrun
        have hv := ht.opd h1
        rw [hb] at hv
        have hcb := bool_of hv
        have hex : (execOp a.eval { dst, op := .pick c x y, type, pos, after, guard }).run P w = .ok (.value (if b then a.eval x else a.eval y)) w := by
          simp [execOp, hcb, asBool]
        rw [hex]
        cases b
        · exact OK.pure hr (ht.opd h3)
        · exact OK.pure hr (ht.opd h2)
      · cases hrun
    · cases hc
  | alloc t =>
    simp only [comp] at hc
    split at hc
    · rename_i zs hz; cases hc; simp only [I.run] at hrun; cases hrun; exact s_alloc hr hz
    · cases hc
  | box t x =>
    simp only [comp] at hc
    split at hc
    · rename_i y hy
      cases hc
      simp only [I.run] at hrun
      split at hrun
      · rename_i h1; cases hrun; exact s_box hr (ht.opd hy) h1
      · cases hrun
    · cases hc
  | build t ps =>
    simp only [comp] at hc
    split at hc
    · rename_i zs fs hz hu
      split at hc
      · rename_i hsz
        split at hc
        · rename_i r hp
          cases hc
          simp only [I.run] at hrun
          split at hrun
          · rename_i cs hf; cases hrun; exact s_buildS hr ht hz hu hsz hp hf
          · cases hrun
        · cases hc
      · cases hc
    · rename_i zs n e hz hu
      split at hc
      · rename_i s hs
        split at hc
        · rename_i r hp
          cases hc
          simp only [I.run] at hrun
          split at hrun
          · rename_i cs hf; cases hrun; exact s_buildA hr ht hz hu hs hp hf
          · cases hrun
        · cases hc
      · cases hc
    · cases hc
  | buildSlice t len ps =>
    simp only [comp] at hc
    split at hc
    · rename_i e hu
      split at hc
      · rename_i s z hs hz
        split at hc
        · rename_i hcond
          split at hc
          · rename_i r hp
            cases hc
            simp only [I.run] at hrun
            split at hrun
            · rename_i cs hf
              split at hrun
              · rename_i h1; cases hrun; exact s_bsl hr ht hu hs hz hcond.1 hcond.2.1 hcond.2.2 hp hf h1
              · cases hrun
            · cases hrun
          · cases hc
        · cases hc
      · cases hc
    · cases hc
  | load t x =>
    simp only [comp] at hc
    split at hc
    · rename_i s y hs hy
      cases hc
      have hv := ht.opd hy
      cases s with
      | none =>
        simp only [I.run] at hrun
        split at hrun
        · rename_i B o hB
          split at hrun
          · rename_i t' e cs hrow
            split at hrun
            · rename_i u hu; cases hrun; rw [hB] at hv; exact s_load1 hr hv hs (row_some hrow) hu
            · cases hrun
          · cases hrun
        · rename_i q xs zs hB
          split at hrun
          · rename_i u hu; cases hrun; exact s_loadF1 hr hv hB hs hu
          · cases hrun
        · cases hrun
      | some s =>
        simp only [I.run] at hrun
        split at hrun
        · rename_i B o hB
          split at hrun
          · rename_i t' e cs hrow
            split at hrun
            · rename_i hu; cases hrun; rw [hB] at hv; exact s_loadN hr hv hs (row_some hrow) hu
            · cases hrun
          · cases hrun
        · rename_i q xs zs hB
          split at hrun
          · rename_i hu; cases hrun; exact s_loadFN hr hv hB hs hu
          · cases hrun
        · cases hrun
    · cases hc
  | store t x y =>
    simp only [comp] at hc
    split at hc
    · rename_i s x' y' hs hx hy
      cases hc
      have hv := ht.opd hx
      simp only [I.run] at hrun
      split at hrun
      · rename_i B o hB
        split at hrun
        · rename_i t' e cs hrow
          split at hrun
          · rename_i hcond
            cases hrun
            rw [hB] at hv
            exact s_store hr hv (ht.opd hy) hs hcond.1 (row_some hrow) hcond.2.1 hcond.2.2.1 hcond.2.2.2 (.inr trivial)
          · cases hrun
        · cases hrun
      · cases hrun
    · cases hc
  | nilCheck x =>
    simp only [comp] at hc
    split at hc
    · rename_i y hy
      cases hc
      have hv := ht.opd hy
      simp only [I.run] at hrun
      split at hrun
      · rename_i ad hB
        cases hrun
        rw [hB] at hv
        cases hx : a.eval x with
        | pointer q =>
          rw [hx] at hv
          cases q with
          | none => cases hv
          | some q =>
            have hex : (execOp a.eval { dst, op := .nilCheck x, type, pos, after, guard }).run P w = .ok (.value (.pointer (some q))) w := by simp [execOp, hx]
            rw [hex]
            exact OK.pure hr hv
        | _ => rw [hx] at hv; cases hv
      · rename_i f xs cs hB
        cases hrun
        rw [hB] at hv
        cases hx : a.eval x with
        | func fn ys ds =>
          rw [hx] at hv
          have hfn : fn = .func f := by cases hv; rfl
          subst hfn
          have hex : (execOp a.eval { dst, op := .nilCheck x, type, pos, after, guard }).run P w = .ok (.value (.func (.func f) ys ds)) w := by simp [execOp, hx]
          rw [hex]
          exact OK.pure hr hv
        | _ => rw [hx] at hv; cases hv
      · rename_i q xs zs hB
        cases hrun
        rw [hB] at hv
        obtain rfl := meth_nil hv
        obtain ⟨b, o, us, hx, _⟩ := fp_ok hr hv
        have hex : (execOp a.eval { dst, op := .nilCheck x, type, pos, after, guard }).run P w = .ok (.value (.pointer (some ⟨b, o, none⟩))) w := by simp [execOp, hx]
        rw [hex]
        exact OK.pure hr (by rw [← hx]; exact hv)
      · cases hrun
    · cases hc
  | binOp op t x y yt =>
    simp only [comp] at hc
    split at hc
    · rename_i x' y' hx hy
      cases hc
      simp only [I.run] at hrun
      split at hrun
      · rename_i r hv; cases hrun; exact s_bin hr (ht.opd hx) (ht.opd hy) hv
      · cases hrun
    · cases hc
  | unOp op t x =>
    simp only [comp] at hc
    split at hc
    · rename_i y hy
      cases hc
      simp only [I.run] at hrun
      split at hrun
      · rename_i r hv; cases hrun; exact s_un hr (ht.opd hy) hv
      · cases hrun
    · cases hc
  | convert src dst' x =>
    simp only [comp] at hc
    split at hc
    · rename_i k0 k y h1 h2 hy
      cases hc
      have hv := ht.opd hy
      simp only [I.run] at hrun
      split at hrun
      · rename_i k' n hn; cases hrun; rw [hn] at hv; exact s_cint hr hv h1 h2
      · cases hrun
    · rename_i y h1 h2 hy
      cases hc
      have hv := ht.opd hy
      simp only [I.run] at hrun
      split at hrun
      · rename_i s hn; cases hrun; rw [hn] at hv; exact s_cstr hr hv rfl h1 h2
      · cases hrun
    · cases hc
  | makeInterface t x =>
    simp only [comp] at hc
    split at hc
    · cases hc
    · rename_i d y hne hu hy
      cases hc
      have hv := ht.opd hy
      simp only [I.run] at hrun
      split at hrun
      · rename_i hk
        cases hrun
        exact s_mki hr hv hu (fun m hm => hne m (by rw [hm])) hk
      · cases hrun
    · cases hc
  | typeAssert x xt t ok =>
    simp only [comp] at hc
    split at hc
    · cases hc
    · rename_i d y z hne hu hy hz
      cases hc
      have hv := ht.opd hy
      simp only [I.run] at hrun
      split at hrun
      · rename_i r hr2; cases hrun; exact s_tas hr hv hu (fun m hm => hne m (by rw [hm])) hz hr2
      · cases hrun
    · cases hc
  | makeFunc fn first captured =>
    cases fn with
    | func f =>
      simp only [comp] at hc
      split at hc
      · rename_i xs ys h1 h2; cases hc; simp only [I.run] at hrun; cases hrun; exact s_mkf hr ht h1 h2
      · cases hc
    | _ => simp [comp] at hc
  | makeMap t r =>
    cases r with
    | none => simp only [comp] at hc; cases hc; simp only [I.run] at hrun; cases hrun; exact s_mkm hr
    | some x => simp [comp] at hc
  | makeSlice t l c =>
    simp only [comp] at hc
    split at hc
    · rename_i e hu
      split at hc
      · rename_i i' z l' c' hi hz hl hcc
        split at hc
        · rename_i hcond
          cases hc
          have hvl := ht.opd hl
          have hvc := ht.opd hcc
          simp only [I.run] at hrun
          split at hrun
          · rename_i k1 l1 k2 c1 e1 e2
            split at hrun
            · rename_i hb
              cases hrun
              rw [e1] at hvl
              rw [e2] at hvc
              exact s_mks hr hvl hvc hu hi hz hcond.1 hcond.2 hb
            · cases hrun
          · cases hrun
        · cases hc
      · cases hc
    · cases hc
  | slice t x lo hi mx =>
    cases mx with
    | some m => simp [comp] at hc
    | none =>
      simp only [comp] at hc
      split at hc
      · rename_i x' lo' hi' hu hx h1 h2
        cases hc
        have hv := ht.opd hx
        simp only [I.run] at hrun
        split at hrun
        · rename_i s hs
          split at hrun
          · rename_i l r b1 b2
            split at hrun
            · rename_i hcond; cases hrun; rw [hs] at hv; exact s_slstr hr ht hv hu h1 h2 b1 b2 hcond.1 hcond.2
            · cases hrun
          · cases hrun
        · cases hrun
      · rename_i e x' lo' hi' hu hx h1 h2
        split at hc
        · rename_i s hs
          cases hc
          have hv := ht.opd hx
          simp only [I.run] at hrun
          split at hrun
          · rename_i ad len k hxe
            split at hrun
            · rename_i l r b1 b2
              split at hrun
              · rename_i hcond
                split at hrun
                · cases hrun; exact s_sls0 hr ht hv hxe hu hs h1 h2 b1 b2 hcond.1 hcond.2
                · rename_i B o
                  split at hrun
                  · rename_i t' e' cs hrow
                    split at hrun
                    · rename_i he; subst he; cases hrun; exact s_sls hr ht hv hxe hu hs (row_some hrow) h1 h2 b1 b2 hcond.1 hcond.2
                    · cases hrun
                  · cases hrun
                · cases hrun
              · cases hrun
            · cases hrun
          · rename_i j xs zs hxe
            split at hrun
            · rename_i l r b1 b2
              split at hrun
              · rename_i hcond; cases hrun; exact s_slsF hr ht hv hxe hu hs h1 h2 b1 b2 hcond.1 hcond.2.1 hcond.2.2
              · cases hrun
            · cases hrun
          · cases hrun
        · cases hc
      · rename_i n e x' lo' hi' hu hx h1 h2
        split at hc
        · rename_i s hs
          cases hc
          have hv := ht.opd hx
          simp only [I.run] at hrun
          split at hrun
          · rename_i B o hxe
            split at hrun
            · rename_i t' e' cs hrow
              split at hrun
              · rename_i l r b1 b2
                split at hrun
                · rename_i hcond
                  obtain ⟨c1, c2, rfl, c4, c5⟩ := hcond
                  cases hrun
                  exact s_sla hr ht hv hxe hu hs c5 (row_some hrow) c4 h1 h2 b1 b2 c1 c2
                · cases hrun
              · cases hrun
            · cases hrun
          · cases hrun
        · cases hc
      · cases hc
  | fieldAddr t x f =>
    simp only [comp] at hc
    split at hc
    · rename_i fs y hu hy
      split at hc
      · rename_i fd hf
        split at hc
        · rename_i s hs
          split at hc
          · cases hc
          · rename_i h0
            cases hc
            have hv := ht.opd hy
            simp only [I.run] at hrun
            split at hrun
            · rename_i B o hxe; cases hrun; exact s_fa hr hv hxe hu hf hs h0
            · rename_i q xs zs hxe; cases hrun; exact s_faF hr hv hxe hu hf hs h0
            · cases hrun
        · cases hc
      · cases hc
    · cases hc
  | field t x f =>
    simp only [comp] at hc
    split at hc
    · rename_i fs y hu hy
      split at hc
      · rename_i fd hf
        split at hc
        · rename_i s hs
          cases hc
          have hv := ht.opd hy
          cases s with
          | none =>
            simp only [I.run] at hrun
            split at hrun
            · rename_i cs hxe
              split at hrun
              · rename_i u hu2; cases hrun; exact s_fld1 hr hv hxe hu hf hs hu2
              · cases hrun
            · cases hrun
          | some s =>
            simp only [I.run] at hrun
            split at hrun
            · rename_i cs hxe
              split at hrun
              · rename_i hu2; cases hrun; exact s_fldN hr hv hxe hu hf hs hu2
              · cases hrun
            · cases hrun
        · cases hc
      · cases hc
    · cases hc
  | indexAddr t x ix =>
    simp only [comp] at hc
    split at hc
    · rename_i e x' i' hu hx hi
      split at hc
      · rename_i s hs
        cases hc
        simp only [I.run] at hrun
        split at hrun
        · rename_i B o len k k' j e1 e2
          split at hrun
          · rename_i hcond; cases hrun; exact s_ias hr (ht.opd hx) (ht.opd hi) e1 e2 hu hs hcond
          · cases hrun
        · rename_i j xs zs k q e1 e2
          split at hrun
          · rename_i hcond; cases hrun; exact s_iasF hr (ht.opd hx) (ht.opd hi) e1 e2 hu hs hcond
          · cases hrun
        · cases hrun
      · cases hc
    · rename_i n e x' i' hu hx hi
      split at hc
      · rename_i s hs
        cases hc
        simp only [I.run] at hrun
        split at hrun
        · rename_i B o k' j e1 e2
          split at hrun
          · rename_i hcond; cases hrun; exact s_iaa hr (ht.opd hx) (ht.opd hi) e1 e2 hu hs hcond
          · cases hrun
        · rename_i j xs zs k q e1 e2
          split at hrun
          · rename_i hcond; cases hrun; exact s_iaaF hr (ht.opd hx) (ht.opd hi) e1 e2 hu hs hcond
          · cases hrun
        · cases hrun
      · cases hc
    · cases hc
  | index t x ix =>
    simp only [comp] at hc
    split at hc
    · rename_i x' i' hu hx hi
      cases hc
      simp only [I.run] at hrun
      split at hrun
      · rename_i s k j e1 e2
        split at hrun
        · rename_i h0
          split at hrun
          · rename_i b hb; cases hrun; exact s_ixs hr (ht.opd hx) (ht.opd hi) e1 e2 hu h0 hb
          · cases hrun
        · cases hrun
      · cases hrun
    · rename_i n e x' i' hu hx hi
      split at hc
      · rename_i ag s hag hs
        cases hc
        obtain ⟨d, n2, hud, hs2, hag2⟩ := aggS_some hag
        rw [hs] at hs2
        cases hs2
        cases hq : isAggT P e with
        | false =>
          simp only [hq, Bool.false_eq_true, if_false] at hag2
          subst hag2
          simp only [I.run] at hrun
          split at hrun
          · rename_i cs k j e1 e2
            split at hrun
            · rename_i h0
              split at hrun
              · rename_i u hu2; cases hrun; exact s_ixa hr (ht.opd hx) (ht.opd hi) e1 e2 hu hs hud h0 (by rw [hq]; simpa using hu2)
              · cases hrun
            · cases hrun
          · cases hrun
        | true =>
          simp only [hq, if_true] at hag2
          subst hag2
          simp only [I.run] at hrun
          split at hrun
          · rename_i cs k j e1 e2
            split at hrun
            · rename_i h0; cases hrun; exact s_ixa hr (ht.opd hx) (ht.opd hi) e1 e2 hu hs hud ⟨h0.1, h0.2.1⟩ (by rw [hq]; simpa using h0.2.2)
            · cases hrun
          · cases hrun
      · cases hc
    · cases hc
  | lookup t m k ok =>
    simp only [comp] at hc
    split at hc
    · rename_i kt et m' k' hu hm hk
      split at hc
      · rename_i z hz
        cases hc
        simp only [I.run] at hrun
        split at hrun
        · rename_i r hr2
          cases hrun
          have hd : ∃ d, P.underlying kt = some d := by
            cases hg : P.underlying kt with
            | some d => exact ⟨d, rfl⟩
            | none =>
              have h0 : simpleT P kt = 0 := by simp [simpleT, hg]
              rw [h0] at hr2
              have hv0 : ∀ x y, veq 0 x y = none := by intro x y; unfold veq; split <;> simp
              simp only [lkV, hv0] at hr2
              split at hr2
              · cases hr2
              · split at hr2 <;> cases hr2
              · cases hr2
          obtain ⟨d, hd⟩ := hd
          exact s_lk hr (ht.opd hm) (ht.opd hk) hu hd hz hr2
        · cases hrun
      · cases hc
    · cases hc
  | mapUpdate t m k x =>
    simp only [comp] at hc
    split at hc
    · rename_i kt et m' k' x' hu hm hk hx
      cases hc
      exact mup_ok hr ht hu hm hk hx hrun
    · cases hc
  | insert t m k x =>
    simp only [comp] at hc
    split at hc
    · rename_i kt et m' k' x' hu hm hk hx
      cases hc
      exact mup_ok hr ht hu hm hk hx hrun
    · cases hc
  | extract x i =>
    simp only [comp] at hc
    split at hc
    · rename_i y hy
      cases hc
      simp only [I.run] at hrun
      split at hrun
      · rename_i vs hxe
        split at hrun
        · rename_i u hu; cases hrun; exact s_ext hr (ht.opd hy) hxe hu
        · cases hrun
      · cases hrun
    · cases hc
  | call c =>
    obtain ⟨callee, args, ts⟩ := c
    cases callee with
    | builtin b => exact sound_builtin hr ht rfl hc hrun
    | _ => simp [comp] at hc
  | _ => simp [comp] at hc
end
end Go.Proofs.Ythofdojknjhpgaa
