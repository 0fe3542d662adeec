/- Own texts, merged: a part of the proof that is told in the last text of this claim. -/
import Derived.Test.YthofdojknjhpgaaCMP
import Derived.LoopN
set_option linter.unusedVariables false
set_option linter.unusedSimpArgs false
namespace Go.Proofs.Ythofdojknjhpgaa
open Go

/-- A statement, from T and h, ends with e in T' and h'; the blocks below n0 stay where they are. -/
def AX (P : Program) (m n0 : Nat) (c : Code) (T : Tm) (h : AH) (e : Exit) (T' : Tm) (h' : AH) : Prop :=
  ∀ base w0 φ a w, n0 ≤ h.next → St base w0 φ m T h a w → c.wp P (fun ce a' w' => ∃ ψ, ce = e ∧ Agr n0 φ ψ ∧ n0 ≤ h'.next ∧ St base w0 ψ m T' h' a' w') a w
/-- A loop's body, again and again. -/
def AXL (P : Program) (m n0 : Nat) (c : Code) (T : Tm) (h : AH) (e : Exit) (T' : Tm) (h' : AH) : Prop :=
  ∃ n, ∀ base w0 φ a w, n0 ≤ h.next → St base w0 φ m T h a w → Code.rounds P c (fun ce a' w' => ∃ ψ, ce = e ∧ Agr n0 φ ψ ∧ n0 ≤ h'.next ∧ St base w0 ψ m T' h' a' w') n a w

section
variable {P : Program} {m n0 : Nat} {T T1 T2 T' : Tm} {h h1 h2 h' : AH} {e : Exit} {c c1 c2 : Code}

theorem AX.skip : AX P m n0 .skip T h .normal T h := fun _ _ φ _ _ hn hst => wp_skip ⟨φ, rfl, Agr.refl _ _, hn, hst⟩
theorem AX.exit (id : Nat) : AX P m n0 (.exit id) T h (.exit id) T h := fun _ _ φ _ _ hn hst => wp_exit ⟨φ, rfl, Agr.refl _ _, hn, hst⟩
theorem AX.ret : AX P m n0 .ret T h .ret T h := fun _ _ φ _ _ hn hst => wp_ret ⟨φ, rfl, Agr.refl _ _, hn, hst⟩
theorem AX.seq (k1 : AX P m n0 c1 T h .normal T1 h1) (k2 : AX P m n0 c2 T1 h1 e T2 h2) : AX P m n0 (.seq c1 c2) T h e T2 h2 := by
  intro base w0 φ a w hn hst
  refine wp_seq (wp_mono (k1 base w0 φ a w hn hst) ?_)
  rintro ce a' w' ⟨ψ, rfl, g1, g2, g3⟩
  refine wp_mono (k2 base w0 ψ a' w' g2 g3) ?_
  rintro ce a'' w'' ⟨χ, rfl, q1, q2, q3⟩
  exact ⟨χ, rfl, g1.trans q1 (Nat.le_refl _), q2, q3⟩
theorem AX.seqX (k1 : AX P m n0 c1 T h e T1 h1) (he : e ≠ .normal) : AX P m n0 (.seq c1 c2) T h e T1 h1 := by
  intro base w0 φ a w hn hst
  refine wp_seq (wp_mono (k1 base w0 φ a w hn hst) ?_)
  rintro ce a' w' ⟨ψ, rfl, g1, g2, g3⟩
  cases ce <;> first | exact absurd rfl he | exact ⟨ψ, rfl, g1, g2, g3⟩
theorem AX.cond {x : Operand} {y : Opd} {b : Bool} (hx : opd x = some y) (hb : y.ev T = .bool b) (k : AX P m n0 (if b = true then c1 else c2) T h e T' h') : AX P m n0 (.cond x c1 c2) T h e T' h' := by
  intro base w0 φ a w hn hst
  have hv := hst.tr.opd hx
  rw [hb] at hv
  exact wp_cond (bool_of hv) (k base w0 φ a w hn hst)
theorem AX.block {id : Nat} (k : AX P m n0 c T h e T' h') (he : ∀ j, e = .exit j → j ≠ id) : AX P m n0 (.block id c) T h e T' h' := by
  intro base w0 φ a w hn hst
  refine wp_block (wp_mono (k base w0 φ a w hn hst) ?_)
  rintro ce a' w' ⟨ψ, rfl, g1, g2, g3⟩
  cases ce with
  | exit j => simp only [Exit.inBlock, if_neg (he j rfl)]; exact ⟨ψ, trivial, g1, g2, g3⟩
  | _ => exact ⟨ψ, rfl, g1, g2, g3⟩
theorem AX.blockX {id : Nat} (k : AX P m n0 c T h (.exit id) T' h') : AX P m n0 (.block id c) T h .normal T' h' := by
  intro base w0 φ a w hn hst
  refine wp_block (wp_mono (k base w0 φ a w hn hst) ?_)
  rintro ce a' w' ⟨ψ, rfl, g1, g2, g3⟩
  simp only [Exit.inBlock, if_true]
  exact ⟨ψ, trivial, g1, g2, g3⟩
theorem AX.loop (k : AXL P m n0 c T h e T' h') : AX P m n0 (.loop c) T h e T' h' := by
  obtain ⟨n, k⟩ := k
  intro base w0 φ a w hn hst
  exact wp_loop_rounds n (k base w0 φ a w hn hst)
theorem rounds_mono {Q Q' : Exit → Act → World → Prop} (hq : ∀ e a w, Q e a w → Q' e a w) : ∀ (n : Nat) (a : Act) (w : World), Code.rounds P c Q n a w → Code.rounds P c Q' n a w
  | 0, _, _, h => h
  | n + 1, a, w, h => by
    rw [rounds_succ] at h ⊢
    refine wp_mono h ?_
    intro e a' w' he
    cases e with
    | normal => exact rounds_mono hq n a' w' he
    | _ => exact hq _ _ _ he
theorem AXL.step (k1 : AX P m n0 c T h .normal T1 h1) (k2 : AXL P m n0 c T1 h1 e T2 h2) : AXL P m n0 c T h e T2 h2 := by
  obtain ⟨n, k2⟩ := k2
  refine ⟨n + 1, fun base w0 φ a w hn hst => ?_⟩
  rw [rounds_succ]
  refine wp_mono (k1 base w0 φ a w hn hst) ?_
  rintro ce a' w' ⟨ψ, rfl, g1, g2, g3⟩
  refine rounds_mono ?_ n a' w' (k2 base w0 ψ a' w' g2 g3)
  rintro ce a'' w'' ⟨χ, rfl, q1, q2, q3⟩
  exact ⟨χ, rfl, g1.trans q1 (Nat.le_refl _), q2, q3⟩
theorem AXL.done (k : AX P m n0 c T h e T1 h1) (he : e ≠ .normal) : AXL P m n0 c T h e T1 h1 := by
  refine ⟨1, fun base w0 φ a w hn hst => ?_⟩
  rw [rounds_succ]
  refine wp_mono (k base w0 φ a w hn hst) ?_
  rintro ce a' w' ⟨ψ, rfl, g1, g2, g3⟩
  cases ce <;> first | exact absurd rfl he | exact ⟨ψ, rfl, g1, g2, g3⟩

/-- Whatever T and h tell, T0 and h0 tell too. -/
def Wk (n0 : Nat) (T0 : Tm) (h0 : AH) (T : Tm) (h : AH) : Prop :=
  ∀ base w0 φ m a w, n0 ≤ h.next → St base w0 φ m T h a w → ∃ φ', Agr n0 φ φ' ∧ n0 ≤ h0.next ∧ St base w0 φ' m T0 h0 a w
theorem Wk.refl : Wk n0 T h T h := fun _ _ φ _ _ _ hn hst => ⟨φ, Agr.refl _ _, hn, hst⟩
theorem Wk.trans (k1 : Wk n0 T1 h1 T h) (k2 : Wk n0 T2 h2 T1 h1) : Wk n0 T2 h2 T h := by
  intro base w0 φ m a w hn hst
  obtain ⟨ψ, g1, g2, g3⟩ := k1 base w0 φ m a w hn hst
  obtain ⟨χ, q1, q2, q3⟩ := k2 base w0 ψ m a w g2 g3
  exact ⟨χ, g1.trans q1 (Nat.le_refl _), q2, q3⟩
theorem AX.wk {T0 : Tm} {h0 : AH} (k : AX P m n0 c T0 h0 e T' h') (hl : Wk n0 T0 h0 T h) : AX P m n0 c T h e T' h' := by
  intro base w0 φ a w hn hst
  obtain ⟨ψ, g1, g2, g3⟩ := hl base w0 φ m a w hn hst
  refine wp_mono (k base w0 ψ a w g2 g3) ?_
  rintro ce a' w' ⟨χ, rfl, q1, q2, q3⟩
  exact ⟨χ, rfl, g1.trans q1 (Nat.le_refl _), q2, q3⟩
theorem AXL.wk {T0 : Tm} {h0 : AH} (k : AXL P m n0 c T0 h0 e T' h') (hl : Wk n0 T0 h0 T h) : AXL P m n0 c T h e T' h' := by
  obtain ⟨n, k⟩ := k
  refine ⟨n, fun base w0 φ a w hn hst => ?_⟩
  obtain ⟨ψ, g1, g2, g3⟩ := hl base w0 φ m a w hn hst
  refine rounds_mono ?_ n a w (k base w0 ψ a w g2 g3)
  rintro ce a' w' ⟨χ, rfl, q1, q2, q3⟩
  exact ⟨χ, rfl, g1.trans q1 (Nat.le_refl _), q2, q3⟩

/-- Blocks told by other numbers. -/
def Phi.via (φ : Phi) (σ : Nat → Nat) : Phi := ⟨fun B => φ (σ B), φ.fz⟩
theorem via_agr {φ : Phi} {σ : Nat → Nat} {n : Nat} (hσ : ∀ B, B < n → σ B = B) : Agr n φ (φ.via σ) := ⟨fun B hB => by simp [Phi.via, hσ B hB], fun _ _ h => h⟩
def RV (σ : Nat → Nat) (n : Nat) (v0 v : Value) : Prop := ∀ φ m c, VR φ m v c → VR (φ.via σ) n v0 c
def RB (R : Value → Value → Prop) : Blk → Blk → Prop
  | .row t e cs0, .row t' e' cs => t = t' ∧ e = e' ∧ ∀ (i : Nat) (v0 : Value), cs0[i]? = some v0 → ∃ v, cs[i]? = some v ∧ R v0 v
  | .map es0, .map es => es0.length = es.length ∧ ∀ (i : Nat) (k0 v0 : Value), es0[i]? = some (k0, v0) → ∃ v, es[i]? = some (k0, v) ∧ R v0 v
  | _, _ => False
/-- A value that names no block from n on. -/
def Low (n : Nat) (v : Value) : Prop := ∃ φ c, VR φ n v c
def LowB (n : Nat) : Blk → Prop
  | .row _ _ cs => ∀ v ∈ cs, Low n v
  | .map es => ∀ p ∈ es, Low n p.2
theorem RV.any {σ : Nat → Nat} {n : Nat} {v : Value} : RV σ n (.tuple #[]) v := fun _ _ c _ => .any c
theorem RV.low {σ : Nat → Nat} {n k : Nat} {v : Value} (hl : Low k v) (hσ : ∀ B, B < k → σ B = B) (hk : k ≤ n) : RV σ n v v := by
  intro φ m c hv
  obtain ⟨ψ, d, hd⟩ := hl
  exact (hd.low hv).mono (via_agr hσ) hk
theorem RV.slice {σ : Nat → Nat} {n B B0 o l k : Nat} (hB : σ B0 = B) (hn : B0 < n) : RV σ n (.slice (some ⟨B0, o, none⟩) l k) (.slice (some ⟨B, o, none⟩) l k) := by
  intro φ m c hv
  cases hv with
  | slice _ _ _ cp a h1 h2 h3 => subst hB; exact .slice B0 o l cp a hn h2 h3
theorem RV.ptr {σ : Nat → Nat} {n B B0 o : Nat} (hB : σ B0 = B) (hn : B0 < n) : RV σ n (.pointer (some ⟨B0, o, none⟩)) (.pointer (some ⟨B, o, none⟩)) := by
  intro φ m c hv
  cases hv with
  | ptr _ _ h1 => subst hB; exact .ptr (φ := φ.via σ) B0 o hn
theorem RV.map {σ : Nat → Nat} {n B B0 : Nat} (hB : σ B0 = B) (hn : B0 < n) : RV σ n (.map (some B0)) (.map (some B)) := by
  intro φ m c hv
  cases hv with
  | map _ h1 => subst hB; exact .map (φ := φ.via σ) B0 hn
theorem RV.agg {σ : Nat → Nat} {n : Nat} {xs ys : Array Value} (hl : xs.size = ys.size) (hp : ∀ i (h1 : i < xs.size) (h2 : i < ys.size), RV σ n xs[i] ys[i]) : RV σ n (.agg xs) (.agg ys) := by
  intro φ m c hv
  cases hv with
  | agg _ zs h1 h2 => exact .agg _ zs (by omega) fun i a b => hp i a (by omega) φ m _ (h2 i (by omega) b)
theorem RV.tup {σ : Nat → Nat} {n : Nat} {xs ys : Array Value} (hl : xs.size = ys.size) (hne : ys ≠ #[]) (hp : ∀ i (h1 : i < xs.size) (h2 : i < ys.size), RV σ n xs[i] ys[i]) : RV σ n (.tuple xs) (.tuple ys) := by
  intro φ m c hv
  cases hv with
  | any => exact absurd rfl hne
  | tuple _ zs h1 h2 => exact .tuple _ zs (by omega) fun i a b => hp i a (by omega) φ m _ (h2 i (by omega) b)
theorem Wk.ren {T0 : Tm} {h0 : AH} (σ : Nat → Nat) (hσ : ∀ B, B < n0 → σ B = B) (hn : n0 ≤ h0.next) (hro : h0.ro = h.ro) (hrn : h.ro ≤ n0) (ht : ∀ i, RV σ h0.next (T0 i) (T i))
    (hg : ∀ B b0, h0.get B = some b0 → B < h0.next ∧ (n0 ≤ B → n0 ≤ σ B) ∧ ∃ b, h.get (σ B) = some b ∧ RB (RV σ h0.next) b0 b)
    (hinj : ∀ B C b c, h0.get B = some b → h0.get C = some c → σ B = σ C → B = C) : Wk n0 T0 h0 T h := by
  intro base w0 φ m a w hn' hst
  have hr := hst.hr
  have hrow : ∀ B t e cs0, h0.get B = some (.row t e cs0) → ∃ cs, h.get (σ B) = some (.row t e cs) ∧ ∀ (i : Nat) (v0 : Value), cs0[i]? = some v0 → ∃ v, cs[i]? = some v ∧ RV σ h0.next v0 v := by
    intro B t e cs0 hB
    obtain ⟨_, _, b, hb, hrb⟩ := hg B _ hB
    cases b with
    | row t' e' cs => obtain ⟨rfl, rfl, hc⟩ := hrb; exact ⟨cs, hb, hc⟩
    | map es => exact hrb.elim
  have hmap : ∀ B es0, h0.get B = some (.map es0) → ∃ es, h.get (σ B) = some (.map es) ∧ es0.length = es.length ∧ ∀ (i : Nat) (k0 v0 : Value), es0[i]? = some (k0, v0) → ∃ v, es[i]? = some (k0, v) ∧ RV σ h0.next v0 v := by
    intro B es0 hB
    obtain ⟨_, _, b, hb, hrb⟩ := hg B _ hB
    cases b with
    | row t' e' cs => exact hrb.elim
    | map es => exact ⟨es, hb, hrb⟩
  have hup : ∀ B b, h0.ro ≤ B → h0.get B = some b → h.ro ≤ σ B := by
    intro B b hroB hB
    rcases Nat.lt_or_ge B n0 with hlt | hge
    · rw [hσ B hlt]; omega
    · have := (hg B b hB).2.1 hge; omega
  have hdn : ∀ B, B < h0.ro → σ B = B := fun B hB => hσ B (by omega)
  refine ⟨φ.via σ, via_agr hσ, hn, ⟨hr.below, hr.bs, fun B b hB => (hg B b hB).1, ?_, ?_, ?_, ?_, ?_, by omega, ?_⟩, fun i => ht i φ _ _ (hst.tr i), hst.df, hst.sz⟩
  · intro B t e cs0 hB
    obtain ⟨cs, hb, hc⟩ := hrow B t e cs0 hB
    obtain ⟨g1, c, t', fr, g2, g3⟩ := hr.rows _ t e cs hb
    refine ⟨g1, c, t', fr, g2, fun i v0 hi => ?_⟩
    obtain ⟨v, hv, hrv⟩ := hc i v0 hi
    obtain ⟨u, q1, q2, q3⟩ := g3 i v hv
    exact ⟨u, q1, hrv φ _ _ q2, q3⟩
  · intro B t e cs0 hroB hB
    obtain ⟨cs, hb, hc⟩ := hrow B t e cs0 hB
    exact hr.wr _ t e cs (hup B _ hroB hB) hb
  · intro B es0 hB
    obtain ⟨es, hb, hl, hc⟩ := hmap B es0 hB
    obtain ⟨g1, g2, E, cl, g3, g4, g5⟩ := hr.maps _ es hb
    refine ⟨fun hroB => g1 (hup B _ hroB hB), fun hroB => g2 (by rw [hdn B hroB]; omega), E, cl, g3, by rw [hl]; exact g4, fun i k0 v0 hi => ?_⟩
    obtain ⟨v, hv, hrv⟩ := hc i k0 v0 hi
    obtain ⟨x, q1, q2, q3⟩ := g5 i k0 v hv
    exact ⟨x, q1, q2, hrv φ _ _ q3⟩
  · intro B t e cs0 hroB hB
    obtain ⟨cs, hb, hc⟩ := hrow B t e cs0 hB
    exact hr.old _ t e cs (by rw [hdn B hroB]; omega) hb
  · intro B C b c h1 h2 hB hC heq
    obtain ⟨_, _, b', hb', _⟩ := hg B b hB
    obtain ⟨_, _, c', hc', _⟩ := hg C c hC
    exact hinj B C b c hB hC (hr.inj _ _ b' c' (hup B b h1 hB) (hup C c h2 hC) hb' hc' heq)
  · intro b C hb
    refine ⟨(hr.frz b C hb).1, fun B bl hroB hB => ?_⟩
    obtain ⟨_, _, b', hb', _⟩ := hg B bl hB
    exact (hr.frz b C hb).2 _ b' (hup B bl hroB hB) hb'

def FV (B e : Nat) (cs : List Value) (v0 v : Value) : Prop :=
  v0 = .tuple #[] ∨ v0 = v ∨ (∃ o, o ≤ cs.length ∧ v = .pointer (some ⟨B, o, none⟩) ∧ v0 = fp (cs.drop o)) ∨ (∃ o l k, l < 4611686018427387904 ∧ o + l * e ≤ cs.length ∧ v = .slice (some ⟨B, o, none⟩) l k ∧ v0 = fz l ((cs.drop o).take (l * e)))
theorem HR.freeze {base : Nat} {w0 w : World} {φ : Phi} (hr : HR base w0 φ h w) {B : Nat} {t : TypeId} {e : Nat} {cs : List Value} (hro : h.ro ≤ B) (hB : h.get B = some (.row t e cs)) :
    ∃ φ', Agr h.next φ φ' ∧ HR base w0 φ' (h.put B none) w ∧ ∀ v0 v c, FV B e cs v0 v → VR φ h.next v c → VR φ' h.next v0 c := by
  obtain ⟨b1, b2, C, hw, hsz⟩ := hr.wr B t e cs hro hB
  obtain ⟨_, C', t', fr, hw', hcell⟩ := hr.rows B t e cs hB
  rw [hw] at hw'
  cases hw'
  have hnf : φ.fz (φ B).blk = none := by
    cases hq : φ.fz (φ B).blk with
    | none => rfl
    | some D => exact absurd rfl ((hr.frz _ D hq).2 B _ hro hB)
  have hag : ∀ n, Agr n φ ⟨φ.loc, fun b => if b = (φ B).blk then some C else φ.fz b⟩ := fun n => ⟨fun _ _ => rfl, fun b D hb => by
    show (if b = (φ B).blk then some C else φ.fz b) = some D
    rw [if_neg (by rintro rfl; rw [hnf] at hb; cases hb)]; exact hb⟩
  have hdr := hr.drop B
  have hcs : ∀ (i : Nat) (v : Value), cs[i]? = some v → ∃ u, C[i]? = some u ∧ VR φ h.next v u ∧ u.oneCell' = true := fun i v hi => by
    obtain ⟨u, h5, h6, h7⟩ := hcell i v hi
    exact ⟨u, by simpa [b2] using h5, h6, h7⟩
  have hlen : cs.length ≤ C.size := by
    rcases Nat.eq_zero_or_pos cs.length with h0 | h0
    · omega
    · obtain ⟨u, hu, _⟩ := hcs (cs.length - 1) _ (List.getElem?_eq_getElem (by omega))
      have := (Array.getElem?_eq_some_iff.1 hu).1
      omega
  have hfp : VR ⟨φ.loc, fun b => if b = (φ B).blk then some C else φ.fz b⟩ h.next (fp cs) (.pointer (some ⟨(φ B).blk, 0, none⟩)) := by
    refine .fp "" _ 0 _ (C.toList.take cs.length).toArray C (by simp) (by simp; omega) (fun i a b => ?_) (fun u hu => ?_) (fun i u hi => ?_)
    · simp at a b
      obtain ⟨u, q1, q2, q3⟩ := hcs i _ (List.getElem?_eq_getElem a)
      have e1 := (Array.getElem?_eq_some_iff.1 q1).2
      simpa [e1] using q2.mono (hag _) (Nat.le_refl _)
    · simp only [List.toList_toArray] at hu
      obtain ⟨i, hi⟩ := List.mem_iff_getElem?.1 hu
      rw [List.getElem?_take] at hi
      split at hi
      · rename_i hlt
        obtain ⟨u', q1, _, q3⟩ := hcs i _ (List.getElem?_eq_getElem hlt)
        rw [show C.toList[i]? = some u' from by simpa using q1] at hi
        cases hi
        exact q3
      · cases hi
    · simp only [List.getElem?_toArray, List.getElem?_take] at hi
      split at hi
      · simpa using hi
      · cases hi
  refine ⟨⟨φ.loc, fun b => if b = (φ B).blk then some C else φ.fz b⟩, hag _, ?_, ?_⟩
  · refine ⟨hdr.below, hdr.bs, hdr.lt, fun D t e cs hD => ?_, hdr.wr, fun D es hD => ?_, hdr.old, hdr.inj, hdr.ron, fun b D hb => ?_⟩
    · obtain ⟨g1, c, t', fr, g2, g3⟩ := hdr.rows D t e cs hD
      refine ⟨g1, c, t', fr, g2, fun i v hi => ?_⟩
      obtain ⟨u, q1, q2, q3⟩ := g3 i v hi
      exact ⟨u, q1, q2.mono (hag _) (Nat.le_refl _), q3⟩
    · obtain ⟨g1, g2, E, cl, g3, g4, g5⟩ := hdr.maps D es hD
      refine ⟨g1, g2, E, cl, g3, g4, fun i k v hi => ?_⟩
      obtain ⟨x, q1, q2, q3⟩ := g5 i k v hi
      exact ⟨x, q1, q2, q3.mono (hag _) (Nat.le_refl _)⟩
    · by_cases hbB : b = (φ B).blk
      · subst hbB
        have : D = C := by simpa using hb.symm
        subst this
        refine ⟨⟨t, (0, 0), hw⟩, fun E bl hroE hE => ?_⟩
        rw [AH.get_put] at hE
        split at hE
        · cases hE
        · rename_i hne
          exact fun heq => hne (hr.inj E B bl _ hroE hro hE hB heq)
      · have hb' : φ.fz b = some D := by simpa [hbB] using hb
        exact ⟨(hr.frz b D hb').1, fun E bl hroE hE => (hdr.frz b D hb').2 E bl hroE hE⟩
  · intro v0 v c hfv hv
    rcases hfv with rfl | rfl | ⟨o, ho, rfl, rfl⟩ | ⟨o, l, k, hq, ho, rfl, rfl⟩
    · exact .any _
    · exact hv.mono (hag _) (Nat.le_refl _)
    · cases hv with
      | ptr _ _ hBn =>
        rw [b2]
        exact vr_fpDrop hfp o
    · cases hv with
      | slice _ _ _ cp a hBn h2 h3 =>
        rcases Nat.eq_zero_or_pos cp with h0 | h0
        · obtain rfl : l = 0 := by omega
          simp only [Nat.zero_mul, List.take_zero]
          exact .fz0 _ (.inr ⟨_, _, rfl⟩)
        · obtain ⟨rfl, _⟩ := h3 h0
          rw [b2]
          have q1 := vr_fpDrop hfp o
          have q2 := vr_fpTake q1 (l * e)
          exact vr_fzOf hq h2 q2
theorem Wk.freeze {T0 : Tm} {h0 : AH} {B : Nat} {t : TypeId} {e : Nat} {cs : List Value} (hro : h.ro ≤ B) (hB : h.get B = some (.row t e cs)) (hn : h0.next = h.next) (hr0 : h0.ro = h.ro) (ht : ∀ i, FV B e cs (T0 i) (T i))
    (hg : ∀ C b0, h0.get C = some b0 → C ≠ B ∧ ∃ b, h.get C = some b ∧ RB (FV B e cs) b0 b) : Wk n0 T0 h0 T h := by
  intro base w0 φ m a w hn' hst
  obtain ⟨φ', hag, hr, hfv⟩ := hst.hr.freeze hro hB
  have hgp : ∀ C b, C ≠ B → h.get C = some b → (h.put B none).get C = some b := fun C b hne hC => by rw [AH.get_put, if_neg hne]; exact hC
  have hrow : ∀ C t e' cs0, h0.get C = some (.row t e' cs0) → ∃ cs', C ≠ B ∧ h.get C = some (.row t e' cs') ∧ ∀ (i : Nat) (v0 : Value), cs0[i]? = some v0 → ∃ v, cs'[i]? = some v ∧ FV B e cs v0 v := by
    intro C t e' cs0 hC
    obtain ⟨hne, b, hb, hrb⟩ := hg C _ hC
    cases b with
    | row t' e' cs => obtain ⟨rfl, rfl, hc⟩ := hrb; exact ⟨cs, hne, hb, hc⟩
    | map es => exact hrb.elim
  have hmap : ∀ C es0, h0.get C = some (.map es0) → ∃ es, C ≠ B ∧ h.get C = some (.map es) ∧ es0.length = es.length ∧ ∀ (i : Nat) (k0 v0 : Value), es0[i]? = some (k0, v0) → ∃ v, es[i]? = some (k0, v) ∧ FV B e cs v0 v := by
    intro C es0 hC
    obtain ⟨hne, b, hb, hrb⟩ := hg C _ hC
    cases b with
    | row t' e' cs => exact hrb.elim
    | map es => exact ⟨es, hne, hb, hrb⟩
  refine ⟨φ', hag.mono (by omega), by omega, ⟨hr.below, hr.bs, fun C b hC => ?_, ?_, ?_, ?_, ?_, ?_, ?_, ?_⟩, fun i => ?_, hst.df, hst.sz⟩
  · obtain ⟨hne, b, hb, _⟩ := hg C _ hC
    rw [hn]; exact hst.hr.lt C b hb
  · intro C t e' cs0 hC
    obtain ⟨cs', hne, hb, hc⟩ := hrow C t e' cs0 hC
    obtain ⟨g1, c, t', fr, g2, g3⟩ := hst.hr.rows C t e' cs' hb
    obtain ⟨k1, c', t'', fr', k2, k3⟩ := hr.rows C t e' cs' (hgp C _ hne hb)
    have hl := hag.loc C (hst.hr.lt C _ hb)
    rw [hl] at k2 k3 ⊢
    rw [g2] at k2
    cases k2
    refine ⟨g1, c, t', fr, g2, fun i v0 hi => ?_⟩
    obtain ⟨v, hv, hf⟩ := hc i v0 hi
    obtain ⟨u, q1, q2, q3⟩ := g3 i v hv
    exact ⟨u, q1, by rw [hn]; exact hfv v0 v u hf q2, q3⟩
  · intro C t e' cs0 hroC hC
    obtain ⟨cs', hne, hb, hc⟩ := hrow C t e' cs0 hC
    exact hr.wr C t e' cs' (by rw [hr0] at hroC; exact hroC) (hgp C _ hne hb)
  · intro C es0 hC
    obtain ⟨es, hne, hb, hl, hc⟩ := hmap C es0 hC
    obtain ⟨g1, g2, E, cl, g3, g4, g5⟩ := hst.hr.maps C es hb
    have hl' := hag.loc C (hst.hr.lt C _ hb)
    rw [hl', hr0]
    refine ⟨g1, g2, E, cl, g3, by rw [hl]; exact g4, fun i k0 v0 hi => ?_⟩
    obtain ⟨v, hv, hf⟩ := hc i k0 v0 hi
    obtain ⟨x, q1, q2, q3⟩ := g5 i k0 v hv
    exact ⟨x, q1, q2, by rw [hn]; exact hfv v0 v _ hf q3⟩
  · intro C t e' cs0 hroC hC
    obtain ⟨cs', hne, hb, hc⟩ := hrow C t e' cs0 hC
    exact hr.old C t e' cs' (by rw [hr0] at hroC; exact hroC) (hgp C _ hne hb)
  · intro C D b c h1 h2 hC hD heq
    obtain ⟨n1, b', hb', _⟩ := hg C b hC
    obtain ⟨n2, c', hc', _⟩ := hg D c hD
    exact hr.inj C D b' c' (by rw [hr0] at h1; exact h1) (by rw [hr0] at h2; exact h2) (hgp C _ n1 hb') (hgp D _ n2 hc') heq
  · rw [hr0, hn]; exact hst.hr.ron
  · intro b D hb
    refine ⟨(hr.frz b D hb).1, fun C bl hroC hC => ?_⟩
    obtain ⟨n1, b', hb', _⟩ := hg C bl hC
    exact (hr.frz b D hb).2 C b' (by rw [hr0] at hroC; exact hroC) (hgp C _ n1 hb')
  · rw [hn]; exact hfv _ _ _ (ht i) (hst.tr i)

theorem AX.region {id : Nat} {ops : Array Oper} {xs : List AOp} (hc : compR P ops = some xs) (hd : dstOk m xs = true) (hrun : RunOps P xs T h T' h') : AX P m n0 (.region id ops false) T h .normal T' h' := by
  intro base w0 φ a w hn0 hst
  refine wp_region ?_
  have := run_ops (Q := fun ce a' w' => ∃ ψ, ce = Exit.normal ∧ Agr n0 φ ψ ∧ n0 ≤ h'.next ∧ St base w0 ψ m T' h' a' w') ops.toList 0 xs (by simp) hc hd hst hrun fun ψ a' w' g1 g2 g3 => ⟨ψ, rfl, g1.mono hn0, by omega, g3⟩
  rw [List.range_eq_range']
  simpa using this
def mkD : List AOp → List (Nat × Nat) → List DOp
  | x :: xs, b :: bs => ⟨x, b.1, b.2⟩ :: mkD xs bs
  | _, _ => []
theorem mkD_get : ∀ (xs : List AOp) (bs : List (Nat × Nat)) (i : Nat) (d : DOp), (mkD xs bs)[i]? = some d → xs[i]? = some d.o
  | [], bs, i, d, h => by simp [mkD] at h
  | x :: xs, [], i, d, h => by simp [mkD] at h
  | x :: xs, b :: bs, 0, d, h => by simp [mkD] at h; simp [← h]
  | x :: xs, b :: bs, i + 1, d, h => by simp [mkD] at h; simpa using mkD_get xs bs i d h
theorem compR_get {ops : Array Oper} : ∀ (os : List Oper) (xs : List AOp), compR.go P ops os = some xs → ∀ (i : Nat) (o : Oper), os[i]? = some o → ∃ x, xs[i]? = some x ∧ compA P ops o = some x
  | [], xs, _, i, o, h => by simp at h
  | o :: os, xs, hc, i, o', h => by
    simp only [compR.go] at hc
    split at hc
    · rename_i x xs' h1 h2
      cases hc
      cases i with
      | zero => simp at h; subst h; exact ⟨x, rfl, h1⟩
      | succ i => simpa using compR_get os xs' h2 i o' (by simpa using h)
    · cases hc
/-- Some calls are told to leave the heap as it is. -/
def qtM : List Bool → List AOp → List AOp
  | b :: bs, x :: xs => (bif b then x.qt else x) :: qtM bs xs
  | _, xs => xs
theorem qtM_get : ∀ (q : List Bool) (xs : List AOp) (i : Nat) (x : AOp), (qtM q xs)[i]? = some x → ∃ y, xs[i]? = some y ∧ x.unq = y.unq
  | [], xs, i, x, h => ⟨x, by simpa [qtM] using h, rfl⟩
  | b :: bs, [], i, x, h => by simp [qtM] at h
  | b :: bs, y :: ys, 0, x, h => by
    simp only [qtM, List.getElem?_cons_zero, Option.some.injEq] at h
    subst h
    exact ⟨y, rfl, by cases b <;> first | rfl | exact unq_qt⟩
  | b :: bs, y :: ys, i + 1, x, h => by
    simp only [qtM, List.getElem?_cons_succ] at h
    obtain ⟨z, h1, h2⟩ := qtM_get bs ys i x h
    exact ⟨z, by simpa using h1, h2⟩
theorem AX.draw {id : Nat} {ops : Array Oper} {xs0 xs : List AOp} {q : List Bool} {bs : List (Nat × Nat)} {cl : List (List Nat)} (hm : P.follows .mixedOrders = true) (hc : compR P ops = some xs0) (hq : xs = qtM q xs0) (hok : okAll P ops (mkD xs bs) cl m = true) (hrun : RunD P (mkD xs bs) [] [] T h T' h') : AX P m n0 (.region id ops true) T h .normal T' h' := by
  intro base w0 φ a w hn0 hst
  refine wp_region_any hm ?_
  obtain ⟨Ts, vs, H, e1, e2, e3, e4, e5, e6, e7, e8⟩ := extract _ _ _ _ _ _ _ hrun
  simp only [List.length_nil, Nat.zero_add] at e3 e4 e6 e8
  have hlen : (mkD xs bs).length = ops.size := by simp only [okAll, Bool.and_eq_true, decide_eq_true_eq] at hok; exact hok.1
  have hmono : ∀ a b, a ≤ b → b ≤ effs (mkD xs bs) (mkD xs bs).length → (H a).next ≤ (H b).next := by
    intro a b hab
    induction b with
    | zero => intro _; obtain rfl : a = 0 := by omega
              exact Nat.le_refl _
    | succ b ih =>
      intro hb
      by_cases hab' : a = b + 1
      · subst hab'; exact Nat.le_refl _
      · exact Nat.le_trans (ih (by omega) (by omega)) (e8 b (Nat.zero_le _) (by omega))
  have hcs : ∀ (i : Nat) (o : Oper) (d : DOp), ops[i]? = some o → (mkD xs bs)[i]? = some d → compA P ops o = some d.o.unq := by
    intro i o d ho hd
    obtain ⟨x, h1, h2⟩ := compR_get ops.toList xs0 hc i o (by simpa using ho)
    have h3 := mkD_get xs bs i d hd
    rw [hq] at h3
    obtain ⟨y, h4, h5⟩ := qtM_get q xs0 i _ h3
    rw [h1] at h4
    cases h4
    rw [h5, compA_unq h2]
    exact h2
  refine draw_any (Q := fun ce a' w' => ∃ ψ, ce = Exit.normal ∧ Agr n0 φ ψ ∧ n0 ≤ h'.next ∧ St base w0 ψ m T' h' a' w') (T := T) (h := h) (φ0 := φ) (base := base) (w0 := w0) hok hcs e1 e2 e3 e4 e6 hmono (fun ψ a' w' g1 g2 => ⟨ψ, rfl, g1.mono hn0, by rw [← e4]; rw [← e3] at hn0; exact Nat.le_trans hn0 (hmono _ _ (Nat.zero_le _) (Nat.le_refl _)), g2⟩) ops.size _ a _ φ (by simp) (cnt_le _ _) ?_ (Agr.refl _ _) ?_
  · intro i hi hL
    simp [hi] at hL
  · have hz : ∀ j, j < ops.size → (Array.replicate ops.size false).getD j false = false := fun j hj => by simp [hj]
    have h1 : TSf T (dstAt (mkD xs bs)) vs (fun j => (Array.replicate ops.size false).getD j false) ops.size = T := by
      have := TSf_lt (T0 := T) (dst := dstAt (mkD xs bs)) (vs := vs) 0 ops.size (Nat.zero_le _)
      funext t
      rw [TSf_congr (L' := fun j => decide (j < 0)) ops.size fun j hj _ => by simp [hz j hj], this]
      rfl
    have h2 : cnt (fun j => isEff (mkD xs bs) j && (Array.replicate ops.size false).getD j false) ops.size = 0 := by
      have h3 : cnt (fun j => isEff (mkD xs bs) j && (Array.replicate ops.size false).getD j false) ops.size = cnt (fun _ => false) ops.size := cnt_congr _ fun j hj => by rw [hz j hj]; simp
      rw [h3]
      have : ∀ n, cnt (fun _ => false) n = 0 := by intro n; induction n with
        | zero => rfl
        | succ n ih => simp [cnt, ih]
      exact this _
    rw [h1, h2, e3]
    exact ⟨hst.hr.drawn, hst.tr, hst.df, hst.sz⟩

def T0 (args : List Value) : Tm := fun i => args.getD i (.tuple #[])
def resOne (P : Program) (T : Tm) (h : AH) : ResultVar → Option Value
  | .tmp t => some (T t)
  | .cell p t => match T p with
    | .pointer (some ⟨B, o, none⟩) => match h.row? B, aggS P t with
      | some (_, _, cs), some none => cs[o]?
      | some (_, _, cs), some (some s) => if o + s ≤ cs.length then some (.agg ((cs.drop o).take s).toArray) else none
      | _, _ => none
    | _ => none
def resAll (P : Program) (T : Tm) (h : AH) : List ResultVar → Option (List Value)
  | [] => some []
  | r :: rs => match resOne P T h r, resAll P T h rs with | some v, some vs => some (v :: vs) | _, _ => none
def packV : List Value → Value
  | [v] => v
  | vs => .tuple vs.toArray
def resSem (tmps : Array Value) : ResultVar → Sem Value
  | .tmp t => pure (tmps.getD t undef)
  | .cell p t => do loadVar t (← asAddr (tmps.getD p undef))
theorem results_eq (fn : Func) (tmps : Array Value) : results fn tmps = (do let vs ← fn.results.mapM (resSem tmps); pure (if h : vs.size = 1 then vs[0] else .tuple vs)) := by
  have : (fun r => (match r with | .tmp t => pure (tmps.getD t undef) | .cell a t => do loadVar t (← asAddr (tmps.getD a undef)) : Sem Value)) = resSem tmps := by
    funext r; cases r <;> rfl
  rw [← this]
  rfl
theorem res_one {base : Nat} {w0 w : World} {φ : Phi} {a : Act} (hst : St base w0 φ m T h a w) {r : ResultVar} {v : Value} (hr : resOne P T h r = some v) :
    ∃ c, (resSem a.tmps r).run P w = .ok c w ∧ VR φ h.next v c := by
  cases r with
  | tmp t =>
    simp [resOne] at hr
    subst hr
    exact ⟨_, rfl, hst.tr t⟩
  | cell p t =>
    simp only [resOne] at hr
    have hv := hst.tr p
    split at hr
    · rename_i B o hp
      rw [hp] at hv
      cases hc : a.tmps.getD p undef with
      | pointer q =>
        rw [hc] at hv
        cases hv with
        | ptr _ _ hB =>
        split at hr
        · rename_i t' e cs hrow hs
          obtain ⟨d, n, hu, hsz, hsn⟩ := aggS_some hs
          have hag : isAggT P t = false := by
            cases hq : isAggT P t with
            | false => rfl
            | true => simp [hq] at hsn
          obtain ⟨_, c', t'', fr, hw, hcell⟩ := hst.hr.rows B _ _ _ (row_some hrow)
          obtain ⟨u, g1, g2, g3⟩ := hcell o v hr
          exact ⟨u, by simp only [resSem]; rw [hc]; simp [asAddr, loadVar, r_isAgg hu, hag, cell_of_row w _ _ _ _ _ hw, g1], g2⟩
        · rename_i t' e cs s hrow hs
          obtain ⟨d, n, hu, hsz, hsn⟩ := aggS_some hs
          have hag : isAggT P t = true := by
            cases hq : isAggT P t with
            | false => simp [hq] at hsn
            | true => rfl
          have hns : n = s := by simp [hag] at hsn; exact hsn.symm
          subst hns
          split at hr
          · rename_i hle
            cases hr
            obtain ⟨us, g1, g2, g3, g4⟩ := hst.hr.stretch (row_some hrow) o n hle
            have hl := r_loadCells (P := P) (w := w) (a := ⟨(φ B).blk, (φ B).base + o, none⟩) (us := us) (fun j u hj => by rw [add_none]; exact g4 j u hj)
            rw [g2] at hl
            exact ⟨.agg us.toArray, by simp only [resSem]; rw [hc]; simp [asAddr, loadVar, r_isAgg hu, hag, r_sizeOf hsz, hl], g1.agg⟩
          · cases hr
        · cases hr
      | _ => rw [hc] at hv; cases hv
    · cases hr
theorem res_all {base : Nat} {w0 w : World} {φ : Phi} {a : Act} (hst : St base w0 φ m T h a w) : ∀ (rs : List ResultVar) (vs : List Value), resAll P T h rs = some vs →
    ∃ cs, (rs.mapM (resSem a.tmps)).run P w = .ok cs w ∧ VRL φ h.next vs cs
  | [], vs, h1 => by simp [resAll] at h1; subst h1; exact ⟨[], by simp [List.mapM_nil], VRL.nil⟩
  | r :: rs, vs, h1 => by
    simp only [resAll] at h1
    split at h1
    · rename_i v vs' g1 g2
      cases h1
      obtain ⟨c, k1, k2⟩ := res_one hst g1
      obtain ⟨cs, k3, k4⟩ := res_all hst rs vs' g2
      refine ⟨c :: cs, ?_, .cons k2 k4⟩
      rw [List.mapM_cons, Sem.run_bind, k1, Result.andThen_ok, Sem.run_bind, k3]
      rfl
    · cases h1
theorem AC.intro {f : FuncId} {fn : Func} {args : List Value} {vs : List Value} (hf : P.funcs[f]? = some fn) (hb : fn.body = some c) (hm : m ≤ fn.ntmps) (k : AX P m h.next c (T0 args) h e T' h') (he : e = .normal ∨ e = .ret) (hr : resAll P T' h' fn.results.toList = some vs) : AC P f args h (packV vs) h' := by
  intro base w0 φ cargs w hh hv
  refine calls_of_wp hf hb ?_
  have hst : St base w0 φ m (T0 args) h { tmps := cargs ++ Array.replicate (fn.ntmps - cargs.size) undef, defers := [] } w := by
    refine ⟨hh, fun t => ?_, rfl, by simp; omega⟩
    by_cases ht : t < args.length
    · have ht2 : t < cargs.size := by have := hv.1; simp at this; omega
      have := hv.2 t args[t] cargs[t] (List.getElem?_eq_getElem ht) (by simp [ht2])
      simpa [T0, ht, Array.getElem?_append, ht2] using this
    · have : T0 args t = .tuple #[] := by simp [T0, List.getElem?_eq_none (Nat.le_of_not_lt ht)]
      rw [this]
      exact .any _
  refine wp_mono (k base w0 φ _ w (Nat.le_refl _) hst) ?_
  rintro ce a' w' ⟨ψ, rfl, g1, g2, g3⟩
  obtain ⟨cs, k1, k2⟩ := res_all g3 _ _ hr
  have hpack : (results fn a'.tmps).run P w' = .ok (if hq : cs.toArray.size = 1 then cs.toArray[0] else .tuple cs.toArray) w' := by
    rw [results_eq, Sem.run_bind, Array.mapM_eq_mapM_toList, Sem.run_map, k1]
    rfl
  have hvr : VR ψ h'.next (packV vs) (if hq : cs.toArray.size = 1 then cs.toArray[0] else .tuple cs.toArray) := by
    cases vs with
    | nil =>
      obtain rfl : cs = [] := List.eq_nil_of_length_eq_zero k2.1.symm
      exact .any _
    | cons v vs =>
      cases cs with
      | nil => have := k2.1; simp at this
      | cons c cs =>
        cases vs with
        | nil =>
          obtain rfl : cs = [] := List.eq_nil_of_length_eq_zero (by have := k2.1; simp at this; simpa using this.symm)
          simpa [packV] using k2.2 0 v c rfl rfl
        | cons v2 vs =>
          cases cs with
          | nil => have := k2.1; simp at this
          | cons c2 cs => simpa [packV] using k2.tuple
  rcases he with rfl | rfl
  · exact ⟨g3.df, _, hpack, _, ψ, rfl, g1, g2, hvr, g3.hr⟩
  · exact ⟨g3.df, _, hpack, _, ψ, rfl, g1, g2, hvr, g3.hr⟩
/-- A call that leaves what there was, and whose result names no block: the heap may be taken as it was. -/
theorem AC.gc {f : FuncId} {args : List Value} {v : Value} (k : AC P f args h v h') (hg : ∀ B b, h.get B = some b → h'.get B = some b) (ho : h'.ro = h.ro) (hv : ∀ (ψ : Phi) (n m : Nat) (c : Value), VR ψ n v c → VR ψ m v c) : AC P f args h v h := by
  intro base w0 φ cargs w hr hvr
  refine (k base w0 φ cargs w hr hvr).mono ?_
  rintro e w' ⟨cv, ψ, rfl, g1, g2, g3, g4⟩
  refine ⟨cv, ψ, rfl, g1, Nat.le_refl _, ?_, ?_⟩
  · exact hv _ _ _ _ g3
  · refine ⟨g4.below, g4.bs, hr.lt, ?_, ?_, ?_, ?_, ?_, hr.ron, ?_⟩
    · intro B t e cs hB
      obtain ⟨_, c0, t0, fr0, hw0, hc0⟩ := hr.rows B t e cs hB
      obtain ⟨h1, c1, t1, fr1, hw1, hc1⟩ := g4.rows B t e cs (hg _ _ hB)
      refine ⟨h1, c1, t1, fr1, hw1, fun i v hi => ?_⟩
      obtain ⟨u0, _, q0, _⟩ := hc0 i v hi
      obtain ⟨u1, p1, q1, r1⟩ := hc1 i v hi
      exact ⟨u1, p1, q0.low q1, r1⟩
    · intro B t e cs hro hB
      exact g4.wr B t e cs (by rw [ho]; exact hro) (hg _ _ hB)
    · intro B es hB
      obtain ⟨_, _, E0, cl0, hw0, hs0, hc0⟩ := hr.maps B es hB
      obtain ⟨h1, h2, E1, cl1, hw1, hs1, hc1⟩ := g4.maps B es (hg _ _ hB)
      refine ⟨by rw [← ho]; exact h1, by rw [← ho]; exact h2, E1, cl1, hw1, hs1, fun i k v hi => ?_⟩
      obtain ⟨u0, _, _, q0⟩ := hc0 i k v hi
      obtain ⟨u1, p1, q1, r1⟩ := hc1 i k v hi
      exact ⟨u1, p1, q1, q0.low r1⟩
    · intro B t e cs hro hB
      exact g4.old B t e cs (by rw [ho]; exact hro) (hg _ _ hB)
    · intro B C b c hro1 hro2 hB hC heq
      exact g4.inj B C b c (by rw [ho]; exact hro1) (by rw [ho]; exact hro2) (hg _ _ hB) (hg _ _ hC) heq
    · intro b C hb
      exact ⟨(g4.frz b C hb).1, fun B bl hroB hB => (g4.frz b C hb).2 B bl (by rw [ho]; exact hroB) (hg _ _ hB)⟩
end
end Go.Proofs.Ythofdojknjhpgaa
