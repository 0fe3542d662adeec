/- Own texts, merged: a part of the proof that is told in the last text of this claim. -/
import Derived.Test.YthofdojknjhpgaaCMXm
set_option linter.unusedVariables false
set_option linter.unusedSectionVars false
set_option linter.unusedSimpArgs false
namespace Go.Proofs.Ythofdojknjhpgaa
open Go
section
variable {h : AH} {T : Tm} {α : Type} [Enc α] {σ : Nat → Nat} {n : Nat} {bs bs0 : List (Option Blk)} {l : List Nat} {j : Nat} {t : TypeId} {xs : List α}
theorem AppOk.nil : AppOk σ n bs [] [] := trivial
theorem AppOk.some {b0 b : Blk} (hj : bs[j]? = some (some b)) (hb : RB (RV σ n) b0 b) (k : AppOk σ n bs l bs0) : AppOk σ n bs (j :: l) (some b0 :: bs0) := ⟨⟨b, hj, hb⟩, k⟩
theorem AppOk.none (k : AppOk σ n bs l bs0) : AppOk σ n bs (j :: l) (none :: bs0) := k
theorem AppOk.owb (hj : bs[j]? = Option.some (owb t xs)) (k : AppOk σ n bs l bs0) : AppOk σ n bs (j :: l) (owb t xs :: bs0) := by
  unfold Go.Proofs.Ythofdojknjhpgaa.owb at *
  split at hj
  · rename_i h0; rw [if_pos h0]; exact k
  · rename_i h0; rw [if_neg h0]; exact ⟨⟨_, hj, RB.F⟩, k⟩
theorem RV.ow {B B0 k k0 : Nat} (hB : σ B0 = B) (hn : B0 < n) (hk : k0 = k) : RV σ n (ow B0 k0) (ow B k) := by
  subst hk
  unfold Go.Proofs.Ythofdojknjhpgaa.ow
  split
  · exact Cl.slice0.rv
  · exact RV.slice hB hn
theorem Wk.retL {i r : Nat} (hw : Wf h) (hi : bs[i]? = Option.some (owb t xs)) (hl : xs.length < 4611686018427387904) (hT : T r = ow (h.next + i) xs.length) : Wk h.next (upd TE r (L xs)) h T (h.app bs) := by
  refine Wk.trans (Wk.fzL (T0 := upd TE r (L xs)) hw hi hl fun j => ?_) (Wk.app0 hw (RVs.updc RVs.nil L_cl (by simp [upd])))
  simp only [upd, TE]
  split
  · rename_i e; subst e; exact .inr (.inr ⟨hT, rfl⟩)
  · exact .inl rfl
theorem Wk.app_in {T0 : Tm} (l : List Nat) (hw : Wf h) (hd : l.Nodup) (hb : AppOk (rnm h.next l) (h.next + bs0.length) [] l bs0) (ht : RVs (rnm h.next l) (h.next + bs0.length) T0 T) : Wk h.next T0 (h.app bs0) T h := by
  have := Wk.app (T0 := T0) (T := T) (bs0 := bs0) (bs := []) l hw hd hb ht
  rwa [app_nil hw] at this
theorem ow_lens {B : Nat} {x : α} : ow B (xs ++ [x]).length = ow B (xs.length + 1) := by simp
theorem put_self {B : Nat} {b : Option Blk} (hB : h.get B = b) : h.put B b = h := by
  refine ah_ext (fun C => ?_) rfl rfl
  rw [AH.get_put]; split
  · rename_i e; subst e; exact hB.symm
  · rfl
end
theorem RV.nilL {α : Type} [Enc α] {σ : Nat → Nat} {n : Nat} : RV σ n (L ([] : List α)) (.slice none 0 0) := by
  intro φ m c hv
  cases hv
  exact .fz0 _ (.inl rfl)
theorem FV.same {B e : Nat} {cs : List Value} {v : Value} : FV B e cs v v := .inr (.inl rfl)
theorem RB.same {R : Value → Value → Prop} (hR : ∀ v, R v v) {b : Blk} : RB R b b := by
  cases b with
  | row t e cs => exact ⟨rfl, rfl, fun i v hi => ⟨v, hi, hR v⟩⟩
  | map es => exact ⟨rfl, fun i k v hi => ⟨v, hi, hR v⟩⟩
theorem Wk.frzApp {h : AH} {T T0 : Tm} {j : Nat} {t : TypeId} {e : Nat} {cs : List Value} {bs bs' : List (Option Blk)} (hw : Wf h) (hj : bs[j]? = some (some (.row t e cs))) (hl : bs'.length = bs.length)
    (hb : ∀ i b0, bs'[i]? = some (some b0) → i ≠ j ∧ ∃ b, bs[i]? = some (some b) ∧ RB (FV (h.next + j) e cs) b0 b) (ht : ∀ i, FV (h.next + j) e cs (T0 i) (T i)) : Wk h.next T0 (h.app bs') T (h.app bs) := by
  refine Wk.freeze (B := h.next + j) (t := t) (e := e) (cs := cs) (by show h.ro ≤ _; have := hw.ro; omega) (by rw [app_get, hj]; rfl) (by rw [app_next, app_next, hl]) rfl ht ?_
  intro C b0 hC
  rcases Nat.lt_or_ge C h.next with h1 | h1
  · rw [app_get_lt h1] at hC
    exact ⟨by omega, b0, by rw [app_get_lt h1]; exact hC, RB.same fun _ => FV.same⟩
  · obtain ⟨i, rfl⟩ : ∃ i, C = h.next + i := ⟨C - h.next, by omega⟩
    rw [app_get] at hC
    obtain ⟨h2, b, h3, h4⟩ := hb i b0 (Option.join_eq_some_iff.1 hC)
    exact ⟨by omega, b, by rw [app_get, h3]; rfl, h4⟩
theorem FVs.nil {B e : Nat} {cs : List Value} {T : Tm} : ∀ i, FV B e cs (TE i) (T i) := fun _ => .inl rfl
theorem FVs.upd {B e d : Nat} {cs : List Value} {T0 T : Tm} {v : Value} (k : ∀ i, FV B e cs (T0 i) (T i)) (hv : T d = v) : ∀ i, FV B e cs (upd T0 d v i) (T i) := fun i => by
  unfold Go.Proofs.Ythofdojknjhpgaa.upd; split
  · rename_i e1; subst e1; rw [hv]; exact FV.same
  · exact k i
/-- Steps of a drawn region whose read may come later. -/
theorem RD_fwq {P : Program} {T : Tm} {h : AH} {K : Tm → AH → Prop} {ds : List DOp} {i : I} {hs : List AH} {pd : List Pend} {n f : Nat} (hq : i.quiet = true) : RD P (⟨⟨some n, none, .ins i⟩, 0, f + 1⟩ :: ds) hs pd T h K = thenI (i.run T h) fun v h1 => RD P ds hs ((f + 1, ⟨some n, none, .ins i⟩, T, v) :: pd) (upd T n v) h1 K := by
  apply propext
  have hq' : (DOp.o ⟨⟨some n, none, .ins i⟩, 0, f + 1⟩).quiet = true := hq
  simp only [RD]
  rw [if_pos hq']
  simp only [Step, ActS]
  cases hi : i.run T h with
  | none => simp [thenI]
  | some r =>
    obtain ⟨v, h1⟩ := r
    obtain rfl := quiet_same hq hi
    simp only [thenI, Option.some.injEq, Prod.mk.injEq, and_true, List.take_zero, List.not_mem_nil, false_implies, implies_true, true_and]
    constructor
    · rintro ⟨v', rfl, k⟩; simpa [updO] using k
    · intro k; exact ⟨v, rfl, by simpa [updO] using k⟩
theorem RD_ldfw {P : Program} {T : Tm} {h : AH} {K : Tm → AH → Prop} {ds : List DOp} {x : Opd} {hs : List AH} {pd : List Pend} {n f : Nat} : RD P (⟨⟨some n, none, .ins (.ld none x)⟩, 0, f + 1⟩ :: ds) hs pd T h K = thenI ((I.ld none x).run T h) fun v h1 => RD P ds hs ((f + 1, ⟨some n, none, .ins (.ld none x)⟩, T, v) :: pd) (upd T n v) h1 K := RD_fwq rfl
theorem step_ins {P : Program} {d : Option Nat} {i : I} {T : Tm} {h h' : AH} {v : Value} : Step P ⟨d, none, .ins i⟩ T h v h' = (i.run T h = some (v, h')) := rfl
theorem decP_2 {o : AOp} {T : Tm} {v : Value} {k : Nat} {pd : List Pend} : decP ((k + 2, o, T, v) :: pd) = (k + 1, o, T, v) :: decP pd := by
  simp [decP]
theorem decP_1 {o : AOp} {T : Tm} {v : Value} {pd : List Pend} : decP ((1, o, T, v) :: pd) = decP pd := by simp [decP]
theorem AX.wkR {P : Program} {m n0 : Nat} {c : Code} {T T' T0 : Tm} {h h' h0 : AH} {e : Exit} (k : AX P m n0 c T h e T' h') (hl : Wk n0 T0 h0 T' h') : AX P m n0 c T h e T0 h0 := by
  intro base w0 φ a w hn hst
  refine wp_mono (k base w0 φ a w hn hst) ?_
  rintro ce a' w' ⟨ψ, rfl, g1, g2, g3⟩
  obtain ⟨χ, q1, q2, q3⟩ := hl base w0 ψ m a' w' g2 g3
  exact ⟨χ, rfl, g1.trans q1 (Nat.le_refl _), q2, q3⟩
/-- Behind a part, the state told otherwise. -/
theorem EX.wkR {P : Program} {m n0 : Nat} {a : IC} {T : Tm} {h : AH} {Q : Exit → Tm → AH → Prop} (k : EX P m n0 a T h fun e T' h' => ∃ T0 h0, Wk n0 T0 h0 T' h' ∧ Q e T0 h0) : EX P m n0 a T h Q := by
  obtain ⟨e, T', h', k1, T0, h0, k2, k3⟩ := k
  exact ⟨e, T0, h0, fun c hc => (k1 c hc).wkR k2, k3⟩
/-- A source of choices: its list, what is left. -/
def src (l rem : List Int) : Option Blk := some (.row 130 0 [L l, .int .i64 ((l.length - rem.length : Nat) : Int)])
def nx (rem : List Int) (n : Int) : Int × List Int := match rem with | [] => (0, []) | x :: r => ((IntKind.wrap .u64 x) % n, r)
theorem nx_ge (rem : List Int) {n : Int} (hn : 0 < n) : 0 ≤ (nx rem n).1 := by
  cases rem with
  | nil => exact Int.le_refl _
  | cons x r => exact Int.emod_nonneg _ (by omega)
theorem nx_lt (rem : List Int) {n : Int} (hn : 0 < n) : (nx rem n).1 < n := by
  cases rem with
  | nil => exact hn
  | cons x r => exact Int.emod_lt_of_pos _ hn
theorem nx_suf {l rem : List Int} {n : Int} (h : rem <:+ l) : (nx rem n).2 <:+ l := by
  cases rem with
  | nil => exact h
  | cons x r => exact (List.suffix_cons x r).trans h
theorem RB.src {σ : Nat → Nat} {n : Nat} {l : List Int} {i : Int} : RB (RV σ n) (.row 130 0 [L l, .int .i64 i]) (.row 130 0 [L l, .int .i64 i]) := RB.cl (by
  intro v hv; simp only [List.mem_cons, List.not_mem_nil, or_false] at hv
  rcases hv with rfl | rfl
  · exact L_cl
  · exact Cl.int)
end Go.Proofs.Ythofdojknjhpgaa
