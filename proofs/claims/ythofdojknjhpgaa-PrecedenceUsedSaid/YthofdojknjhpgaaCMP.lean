/- Own texts, merged: a part of the proof that is told in the last text of this claim. -/
import Derived.Test.YthofdojknjhpgaaCMO
set_option linter.unusedVariables false
set_option linter.unusedSimpArgs false
namespace Go.Proofs.Ythofdojknjhpgaa
open Go

def cnt (p : Nat → Bool) : Nat → Nat
  | 0 => 0
  | k + 1 => cnt p k + (if p k = true then 1 else 0)
theorem cnt_mono {p q : Nat → Bool} : ∀ n, (∀ j, j < n → p j = true → q j = true) → cnt p n ≤ cnt q n
  | 0, _ => Nat.le_refl _
  | n + 1, h => by
    have ih := cnt_mono n fun j hj => h j (by omega)
    have := h n (by omega)
    simp only [cnt]
    by_cases hp : p n = true
    · rw [if_pos hp, if_pos (this hp)]; omega
    · rw [if_neg hp]; omega
theorem cnt_congr {p q : Nat → Bool} (n : Nat) (h : ∀ j, j < n → p j = q j) : cnt p n = cnt q n :=
  Nat.le_antisymm (cnt_mono n fun j hj hp => by rw [← h j hj]; exact hp) (cnt_mono n fun j hj hq => by rw [h j hj]; exact hq)
theorem cnt_add {p q : Nat → Bool} {i : Nat} : ∀ n, i < n → p i = false → q i = true → (∀ j, j < n → j ≠ i → q j = p j) → cnt q n = cnt p n + 1
  | 0, h, _, _, _ => by omega
  | n + 1, h, h1, h2, h3 => by
    simp only [cnt]
    by_cases e : i = n
    · subst e
      rw [cnt_congr i fun j hj => h3 j (by omega) (by omega)]
      simp [h1, h2]
    · rw [cnt_add n (by omega) h1 h2 fun j hj hne => h3 j (by omega) hne, h3 n (by omega) (by omega)]
      omega
theorem cnt_le (p : Nat → Bool) : ∀ n, cnt p n ≤ n
  | 0 => Nat.le_refl _
  | n + 1 => by have := cnt_le p n; simp only [cnt]; split <;> omega
theorem cnt_all {p : Nat → Bool} : ∀ n, cnt p n = 0 → ∀ j, j < n → p j = false
  | 0, _, j, hj => by omega
  | n + 1, h, j, hj => by
    simp only [cnt] at h
    by_cases e : j = n
    · subst e
      cases hp : p j with
      | false => rfl
      | true => simp [hp] at h
    · exact cnt_all n (by omega) j (by omega)
theorem cnt_lt {p : Nat → Bool} (i : Nat) : ∀ n, i ≤ n → cnt (fun j => p j && decide (j < i)) n = cnt p i
  | 0, h => by obtain rfl : i = 0 := by omega
               rfl
  | n + 1, h => by
    by_cases e : i = n + 1
    · subst e
      exact cnt_congr _ fun j hj => by simp [hj]
    · simp only [cnt]
      rw [cnt_lt i n (by omega)]
      simp; omega
theorem effs_cnt : ∀ (os : List DOp) (i : Nat), effs os i = cnt (fun j => match os[j]? with | some d => !d.o.quiet | none => false) i
  | os, 0 => by simp [effs, cnt]
  | [], i + 1 => by
    have : ∀ k, cnt (fun j => match ([] : List DOp)[j]? with | some d => !d.o.quiet | none => false) k = 0 := by
      intro k; induction k with
      | zero => rfl
      | succ k ih => simp [cnt] at ih ⊢; exact ih
    rw [this]; rfl
  | d :: os, i + 1 => by
    have shift : ∀ k, cnt (fun j => match (d :: os)[j]? with | some d => !d.o.quiet | none => false) (k + 1) = (if d.o.quiet = true then 0 else 1) + cnt (fun j => match os[j]? with | some d => !d.o.quiet | none => false) k := by
      intro k
      induction k with
      | zero => by_cases hb : d.o.quiet = true <;> simp [cnt, hb]
      | succ k ih =>
        rw [cnt, ih]
        simp only [cnt, List.getElem?_cons_succ]
        omega
    rw [shift, effs, effs_cnt os i]

theorem cnt_range {p : Nat → Bool} {i : Nat} : ∀ n, i ≤ n → cnt p i ≤ cnt p n
  | 0, h => by obtain rfl : i = 0 := by omega
               exact Nat.le_refl _
  | n + 1, h => by
    by_cases e : i = n + 1
    · subst e; exact Nat.le_refl _
    · have := cnt_range (p := p) (i := i) n (by omega)
      simp only [cnt]; omega
def TSf (T0 : Tm) (dst : Nat → Option Nat) (vs : Nat → Value) (L : Nat → Bool) : Nat → Tm
  | 0 => T0
  | k + 1 => if L k = true then updO (TSf T0 dst vs L k) (dst k) (vs k) else TSf T0 dst vs L k
section
variable {T0 : Tm} {dst : Nat → Option Nat} {vs : Nat → Value} {L L' : Nat → Bool}
theorem updO_ne {T : Tm} {d : Option Nat} {v : Value} {t : Nat} (h : d ≠ some t) : updO T d v t = T t := by
  cases d with
  | none => rfl
  | some d => simp only [updO, upd]; rw [if_neg (by intro e; subst e; exact h rfl)]
theorem updO_eq {T : Tm} {t : Nat} {v : Value} : updO T (some t) v t = v := by simp [updO, upd]
theorem TSf_congr {t : Nat} : ∀ n, (∀ j, j < n → dst j = some t → L j = L' j) → TSf T0 dst vs L n t = TSf T0 dst vs L' n t
  | 0, _ => rfl
  | n + 1, h => by
    have ih := TSf_congr n fun j hj => h j (by omega)
    simp only [TSf]
    by_cases hd : dst n = some t
    · rw [h n (by omega) hd]
      split
      · rw [hd, updO_eq, updO_eq]
      · exact ih
    · have e1 : (if L n = true then updO (TSf T0 dst vs L n) (dst n) (vs n) else TSf T0 dst vs L n) t = TSf T0 dst vs L n t := by split <;> simp [updO_ne hd]
      have e2 : (if L' n = true then updO (TSf T0 dst vs L' n) (dst n) (vs n) else TSf T0 dst vs L' n) t = TSf T0 dst vs L' n t := by split <;> simp [updO_ne hd]
      rw [e1, e2]; exact ih
theorem TSf_all {Ts : Nat → Tm} (h0 : Ts 0 = T0) : ∀ n, (∀ i, i < n → Ts (i + 1) = updO (Ts i) (dst i) (vs i)) → Ts n = TSf T0 dst vs (fun _ => true) n
  | 0, _ => h0
  | n + 1, h => by rw [h n (by omega), TSf_all h0 n fun i hi => h i (by omega)]; simp [TSf]
theorem TSf_lt (i : Nat) : ∀ n, i ≤ n → TSf T0 dst vs (fun j => decide (j < i)) n = TSf T0 dst vs (fun _ => true) i
  | 0, h => by obtain rfl : i = 0 := by omega
               rfl
  | n + 1, h => by
    by_cases e : i = n + 1
    · subst e
      funext t
      exact TSf_congr _ fun j hj _ => by simp [hj]
    · have ih := TSf_lt i n (by omega)
      simp only [TSf]
      rw [if_neg (by simp; omega)]
      exact ih
theorem TSf_last {i t : Nat} (hi : L i = true) (hd : dst i = some t) : ∀ n, i < n → (∀ j, j < n → i < j → dst j = some t → L j = false) → TSf T0 dst vs L n t = vs i
  | 0, h, _ => by omega
  | n + 1, h, hl => by
    simp only [TSf]
    by_cases e : i = n
    · subst e
      rw [if_pos hi, hd, updO_eq]
    · have ih := TSf_last hi hd n (by omega) fun j hj => hl j (by omega)
      by_cases hdn : dst n = some t
      · rw [if_neg (by rw [hl n (by omega) (by omega) hdn]; simp)]; exact ih
      · split
        · rw [updO_ne hdn]; exact ih
        · exact ih
theorem TSf_add {i : Nat} {n : Nat} (hin : i < n) (h0 : L i = false) (hL : ∀ j, L' j = (if j = i then true else L j)) (hl : ∀ t, dst i = some t → ∀ j, j < n → i < j → dst j = some t → L j = false) :
    ∀ t, TSf T0 dst vs L' n t = updO (TSf T0 dst vs L n) (dst i) (vs i) t := by
  intro t
  by_cases hd : dst i = some t
  · rw [hd, updO_eq]
    refine TSf_last (by rw [hL, if_pos rfl]) hd n hin fun j hj hij hdj => ?_
    rw [hL, if_neg (by omega)]
    exact hl t hd j hj hij hdj
  · rw [updO_ne hd]
    refine TSf_congr n fun j hj hdj => ?_
    rw [hL, if_neg (by intro e; subst e; exact hd hdj)]
end

def getCl (cl : List (List Nat)) (i : Nat) : List Nat := cl.getD i []
def isEff (cs : List DOp) (j : Nat) : Bool := match cs[j]? with | some d => !d.o.quiet | none => false
def dstAt (cs : List DOp) (j : Nat) : Option Nat := match cs[j]? with | some d => d.o.dst | none => none
def okOne (P : Program) (ops : Array Oper) (cs : List DOp) (cl : List (List Nat)) (m i : Nat) : Bool :=
  match ops[i]?, cs[i]? with
  | some o, some d =>
    o.after.toList.all (fun e => !Region.binds .any e || decide (e.on < i)) &&
    (getCl cl i).all (fun j => decide (j < i) && o.after.toList.any (fun e => Region.binds .any e && (j == e.on || (getCl cl e.on).contains j))) &&
    (match d.o.dst with | some t => decide (t < m) | none => true) &&
    (List.range ops.size).all (fun j =>
      (!(isEff cs j && isEff cs i && decide (j < i)) || (getCl cl i).contains j) &&
      (j == i || (match dstAt cs j with | none => true | some t => !(d.o.tmps.contains t || d.o.dst == some t) || (getCl cl i).contains j || (getCl cl j).contains i))) &&
    (!d.o.quiet || d.o.pure ||
      (decide (cnt (isEff cs) i ≤ d.bk + cnt (fun j => isEff cs j && (getCl cl i).contains j) ops.size) && decide (cnt (fun j => isEff cs j && !(getCl cl j).contains i) ops.size ≤ cnt (isEff cs) i + d.fw)))
  | _, _ => false
def okAll (P : Program) (ops : Array Oper) (cs : List DOp) (cl : List (List Nat)) (m : Nat) : Bool :=
  decide (cs.length = ops.size) && (List.range ops.size).all (okOne P ops cs cl m)
structure OkI (P : Program) (ops : Array Oper) (cs : List DOp) (cl : List (List Nat)) (m i : Nat) (o : Oper) (d : DOp) : Prop where
  edge : ∀ e ∈ o.after, Region.binds .any e = true → e.on < i
  cl1 : ∀ j ∈ getCl cl i, j < i ∧ ∃ e ∈ o.after, Region.binds .any e = true ∧ (j = e.on ∨ j ∈ getCl cl e.on)
  dm : ∀ t, d.o.dst = some t → t < m
  eff : ∀ j, j < i → isEff cs j = true → isEff cs i = true → j ∈ getCl cl i
  nam : ∀ j t, j < ops.size → j ≠ i → dstAt cs j = some t → (t ∈ d.o.tmps ∨ d.o.dst = some t) → j ∈ getCl cl i ∨ i ∈ getCl cl j
  rng : d.o.quiet = true → d.o.pure = true ∨ (cnt (isEff cs) i ≤ d.bk + cnt (fun j => isEff cs j && (getCl cl i).contains j) ops.size ∧ cnt (fun j => isEff cs j && !(getCl cl j).contains i) ops.size ≤ cnt (isEff cs) i + d.fw)
theorem okAll_at {P : Program} {ops : Array Oper} {cs : List DOp} {cl : List (List Nat)} {m : Nat} (h : okAll P ops cs cl m = true) {i : Nat} (hi : i < ops.size) : ∃ o d, ops[i]? = some o ∧ cs[i]? = some d ∧ OkI P ops cs cl m i o d := by
  simp only [okAll, Bool.and_eq_true, List.all_eq_true] at h
  have h1 := h.2 i (by simpa using hi)
  unfold okOne at h1
  split at h1
  · rename_i o d ho hd
    simp only [Bool.and_eq_true, List.all_eq_true] at h1
    obtain ⟨⟨⟨⟨a1, a2⟩, a3⟩, a4⟩, a5⟩ := h1
    refine ⟨o, d, ho, hd, ?_, ?_, ?_, ?_, ?_, ?_⟩
    · intro e he hb
      have := a1 e (by simpa using he)
      simpa [hb] using this
    · intro j hj
      have h2 := a2 j hj
      simp only [Bool.and_eq_true, List.any_eq_true, decide_eq_true_eq, Bool.or_eq_true, beq_iff_eq, List.contains_iff_mem] at h2
      obtain ⟨e, he, hb, hx⟩ := h2.2
      exact ⟨h2.1, e, by simpa using he, hb, hx⟩
    · intro t ht
      rw [ht] at a3
      simpa using a3
    · intro j hj he1 he2
      have h2 := (a4 j (by simp; omega)).1
      simp [he1, he2, hj] at h2
      exact h2
    · intro j t hj hne hdj ht
      have h2 := (a4 j (by simpa using hj)).2
      rw [hdj] at h2
      simp only [Bool.or_eq_true, beq_iff_eq, Bool.not_eq_true', Bool.or_eq_false_iff, List.contains_iff_mem] at h2
      rcases h2 with h2 | (h2 | h2) | h2
      · exact absurd h2 hne
      · obtain ⟨g1, g2⟩ := h2
        rcases ht with ht | ht
        · have : d.o.tmps.contains t = true := by simpa using ht
          rw [this] at g1; cases g1
        · simp [ht] at g2
      · exact .inl h2
      · exact .inr h2
    · intro hq
      simp only [hq, Bool.not_true, Bool.false_or, Bool.or_eq_true, Bool.and_eq_true, decide_eq_true_eq] at a5
      exact a5
  · cases h1

section
variable {P : Program} {base : Nat} {w0 : World} {m : Nat} {ops : Array Oper} {cs : List DOp} {cl : List (List Nat)} {Q : Exit → Act → World → Prop}
theorem draw_any {φ0 : Phi} {T T' : Tm} {h h' : AH} (hm : okAll P ops cs cl m = true) (hcs : ∀ (i : Nat) (o : Oper) (d : DOp), ops[i]? = some o → cs[i]? = some d → compA P ops o = some d.o.unq)
    {Ts : Nat → Tm} {vs : Nat → Value} {H : Nat → AH} (e0 : Ts 0 = T) (en : Ts cs.length = T') (h0 : H 0 = h) (hn : H (effs cs cs.length) = h') (hd : Dat P cs 0 Ts vs H) (hmono : ∀ a b, a ≤ b → b ≤ effs cs cs.length → (H a).next ≤ (H b).next)
    (hQ : ∀ ψ a' w', Agr h.next φ0 ψ → St base w0 ψ m T' h' a' w' → Q .normal a' w') :
    ∀ (fuel : Nat) (listed : Array Bool) (a : Act) (w : World) (φ : Phi), listed.size = ops.size → cnt (fun j => !listed.getD j false) ops.size ≤ fuel →
      (∀ i, i < ops.size → listed.getD i false = true → ∀ j ∈ getCl cl i, listed.getD j false = true) → Agr h.next φ0 φ →
      St base w0 φ m (TSf T (dstAt cs) vs (fun j => listed.getD j false) ops.size) (H (cnt (fun j => isEff cs j && listed.getD j false) ops.size)) a w →
      wpAny P .any ops Q fuel listed a w := by
  have hlen : cs.length = ops.size := by simp only [okAll, Bool.and_eq_true, decide_eq_true_eq] at hm; exact hm.1
  have heff : ∀ j, (match cs[j]? with | some d => !d.o.quiet | none => false) = isEff cs j := fun j => rfl
  have heffs : ∀ i, effs cs i = cnt (isEff cs) i := fun i => effs_cnt cs i
  have hTs : ∀ i, i < ops.size → Ts (i + 1) = updO (Ts i) (dstAt cs i) (vs i) := by
    intro i hi
    obtain ⟨o, d, ho, hdi, _⟩ := okAll_at hm hi
    have := (hd i d hdi).1
    simpa [dstAt, hdi] using this
  have hTi : ∀ i, i ≤ ops.size → Ts i = TSf T (dstAt cs) vs (fun j => decide (j < i)) ops.size := by
    intro i hi
    rw [TSf_lt i _ hi]
    exact TSf_all e0 i fun j hj => hTs j (by omega)
  -- all is done
  have done : ∀ (listed : Array Bool) (a : Act) (w : World) (φ : Phi), cnt (fun j => !listed.getD j false) ops.size = 0 → Agr h.next φ0 φ →
      St base w0 φ m (TSf T (dstAt cs) vs (fun j => listed.getD j false) ops.size) (H (cnt (fun j => isEff cs j && listed.getD j false) ops.size)) a w → Q .normal a w := by
    intro listed a w φ h1 h2 h3
    have hall : ∀ j, j < ops.size → listed.getD j false = true := fun j hj => by have := cnt_all _ h1 j hj; simpa using this
    have g1 : TSf T (dstAt cs) vs (fun j => listed.getD j false) ops.size = T' := by
      rw [← en, hlen, hTi _ (Nat.le_refl _)]
      funext t
      exact TSf_congr _ fun j hj _ => by simp only [hall j hj, hj, decide_true]
    have g2 : H (cnt (fun j => isEff cs j && listed.getD j false) ops.size) = h' := by
      rw [← hn, heffs, hlen]
      congr 1
      exact cnt_congr _ fun j hj => by simp [hall j hj]
    rw [g1, g2] at h3
    exact hQ φ a w h2 h3
  have least : ∀ (listed : Array Bool), listed.size = ops.size → cnt (fun j => !listed.getD j false) ops.size ≠ 0 → Region.ready .any ops listed ≠ [] := by
    intro listed hsz hne hr
    have key : ∀ i, i < ops.size → listed.getD i false = true := by
      intro i
      induction i using Nat.strongRecOn with
      | _ i ih =>
        intro hi
        obtain ⟨o, d, ho, hdi, hok⟩ := okAll_at hm hi
        cases hq : listed.getD i false with
        | true => rfl
        | false =>
          have : i ∈ Region.ready .any ops listed := by
            rw [mem_ready]
            refine ⟨by rw [← hq]; simp [hsz, hi], o, ho, fun e he hb => ih e.on (hok.edge e he hb) (by have := hok.edge e he hb; omega)⟩
          rw [hr] at this
          cases this
    apply hne
    have h1 : cnt (fun j => !listed.getD j false) ops.size = cnt (fun _ => false) ops.size := cnt_congr _ fun j hj => by rw [key j hj]; rfl
    rw [h1]
    have : ∀ n, cnt (fun _ => false) n = 0 := by intro n; induction n with
      | zero => rfl
      | succ n ih => simp [cnt, ih]
    exact this _
  intro fuel
  induction fuel with
  | zero =>
    intro listed a w φ hsz hf hcl hag hst
    have hz : cnt (fun j => !listed.getD j false) ops.size = 0 := by omega
    refine ⟨?_, done listed a w φ hz hag hst⟩
    rw [List.eq_nil_iff_forall_not_mem]
    intro i hi
    rw [mem_ready] at hi
    obtain ⟨h1, o, ho, _⟩ := hi
    have hi := (Array.getElem?_eq_some_iff.1 ho).1
    have := cnt_all _ hz i hi
    have h2 : listed.getD i true = listed.getD i false := by simp [hsz, hi]
    rw [h2] at h1
    simp [h1] at this
  | succ fuel ih =>
    intro listed a w φ hsz hf hcl hag hst
    refine ⟨fun hr => ?_, fun i hi => ?_⟩
    · by_cases hz : cnt (fun j => !listed.getD j false) ops.size = 0
      · exact done listed a w φ hz hag hst
      · exact absurd hr (least listed hsz hz)
    · rw [mem_ready] at hi
      obtain ⟨h1, o, ho, hpre⟩ := hi
      have hi := (Array.getElem?_eq_some_iff.1 ho).1
      have hLi : listed.getD i false = false := by
        have h2 : listed.getD i true = listed.getD i false := by simp [hsz, hi]
        rw [← h2]; exact h1
      obtain ⟨o', d, ho', hdi, hok⟩ := okAll_at hm hi
      rw [ho] at ho'
      cases ho'
      have hcomp := hcs i o d ho hdi
      -- what comes before i is done; what i comes before is not
      have hbef : ∀ j ∈ getCl cl i, listed.getD j false = true := by
        intro j hj
        obtain ⟨hji, e, he, hb, hx⟩ := hok.cl1 j hj
        have he2 := hpre e he hb
        rcases hx with rfl | hx
        · exact he2
        · exact hcl e.on (by have := hok.edge e he hb; omega) he2 j hx
      have haft : ∀ j, j < ops.size → listed.getD j false = true → i ∉ getCl cl j := by
        intro j hj hL hij
        rw [hcl j hj hL i hij] at hLi
        cases hLi
      have hdat := hd i d hdi
      simp only [Nat.zero_add, heffs, hlen] at hdat
      -- the operands
      have hT : ∀ t ∈ d.o.tmps, Ts i t = TSf T (dstAt cs) vs (fun j => listed.getD j false) ops.size t := by
        intro t ht
        rw [hTi i (by omega)]
        refine TSf_congr _ fun j hj hdj => ?_
        by_cases hji : j = i
        · subst hji; rw [hLi]; simp
        · rcases hok.nam j t hj hji hdj (.inl ht) with hx | hx
          · rw [hbef j hx]; simp [(hok.cl1 j hx).1]
          · have hlt : i < j := by
              obtain ⟨_, dj, _, _, hokj⟩ := okAll_at hm hj
              exact (hokj.cl1 i hx).1
            have : listed.getD j false = false := by
              cases hq : listed.getD j false with
              | false => rfl
              | true => exact absurd hx (haft j hj hq)
            rw [this]; simp; omega
      -- the heap
      have hcnt0 : cnt (fun j => isEff cs j && (getCl cl i).contains j) ops.size ≤ cnt (fun j => isEff cs j && listed.getD j false) ops.size := by
        refine cnt_mono _ fun j hj hp => ?_
        simp only [Bool.and_eq_true, List.contains_iff_mem] at hp ⊢
        exact ⟨hp.1, hbef j hp.2⟩
      have hcnt1 : cnt (fun j => isEff cs j && listed.getD j false) ops.size ≤ cnt (fun j => isEff cs j && !(getCl cl j).contains i) ops.size := by
        refine cnt_mono _ fun j hj hp => ?_
        simp only [Bool.and_eq_true] at hp ⊢
        refine ⟨hp.1, ?_⟩
        have := haft j hj hp.2
        simpa using this
      have hcnt2 : cnt (fun j => isEff cs j && listed.getD j false) ops.size ≤ cnt (isEff cs) ops.size := cnt_mono _ fun j hj hp => by
        simp only [Bool.and_eq_true] at hp; exact hp.1
      have hstep : ∃ k2, Step P d.o (TSf T (dstAt cs) vs (fun j => listed.getD j false) ops.size) (H (cnt (fun j => isEff cs j && listed.getD j false) ops.size)) (vs i) (H k2) ∧ k2 = cnt (fun j => isEff cs j && (listed.setIfInBounds i true).getD j false) ops.size := by
        cases hq : d.o.quiet with
        | true =>
          refine ⟨_, ?_, rfl⟩
          have hsame : cnt (fun j => isEff cs j && (listed.setIfInBounds i true).getD j false) ops.size = cnt (fun j => isEff cs j && listed.getD j false) ops.size := by
            refine cnt_congr _ fun j hj => ?_
            by_cases hji : j = i
            · subst hji
              have : isEff cs j = false := by simp [isEff, hdi, hq]
              simp [this]
            · rw [getD_set_ne false (Ne.symm hji)]
          rw [hsame]
          have hs0 : Step P d.o (Ts i) (H (cnt (fun j => isEff cs j && listed.getD j false) ops.size)) (vs i) (H (cnt (fun j => isEff cs j && listed.getD j false) ops.size)) := by
            rcases hok.rng hq with hp | hp
            · have hx := hdat.2.1 hq (cnt (isEff cs) i) (by omega) (by omega) (cnt_range _ (by omega))
              exact step_pure hp hx _
            · exact hdat.2.1 hq _ (by omega) (by omega) hcnt2
          exact step_congr hT hs0
        | false =>
          have hei : isEff cs i = true := by simp [isEff, hdi, hq]
          have hiff : ∀ j, j < ops.size → isEff cs j = true → listed.getD j false = decide (j < i) := by
            intro j hj hej
            rcases Nat.lt_trichotomy j i with hlt | rfl | hgt
            · rw [hbef j (hok.eff j hlt hej hei)]; simp [hlt]
            · rw [hLi]; simp
            · have : listed.getD j false = false := by
                cases hL : listed.getD j false with
                | false => rfl
                | true =>
                  obtain ⟨_, dj, _, _, hokj⟩ := okAll_at hm hj
                  exact absurd (hokj.eff i hgt hei hej) (haft j hj hL)
              rw [this]; simp; omega
          have hc0 : cnt (fun j => isEff cs j && listed.getD j false) ops.size = cnt (isEff cs) i := by
            rw [← cnt_lt i ops.size (by omega)]
            refine cnt_congr _ fun j hj => ?_
            cases hej : isEff cs j with
            | false => rfl
            | true => simp only [Bool.true_and]; exact hiff j hj hej
          refine ⟨cnt (fun j => isEff cs j && listed.getD j false) ops.size + 1, ?_, ?_⟩
          · rw [hc0]
            exact step_congr hT (hdat.2.2 hq)
          · symm
            refine cnt_add ops.size hi (by simp [hLi]) (by simp [hei, hsz, hi]) fun j hj hne => ?_
            rw [getD_set_ne false (Ne.symm hne)]
      obtain ⟨k2, hstep, hk2⟩ := hstep
      have hL' : ∀ j, (listed.setIfInBounds i true).getD j false = (if j = i then true else listed.getD j false) := by
        intro j
        by_cases hji : j = i
        · subst hji; simp [hsz, hi]
        · rw [if_neg hji, getD_set_ne false (Ne.symm hji)]
      have hdsti : dstAt cs i = d.o.dst := by simp [dstAt, hdi]
      have hTS : TSf T (dstAt cs) vs (fun j => (listed.setIfInBounds i true).getD j false) ops.size = updO (TSf T (dstAt cs) vs (fun j => listed.getD j false) ops.size) d.o.dst (vs i) := by
        funext t
        rw [TSf_add (L := fun j => listed.getD j false) hi hLi hL' (fun t ht j hj hij hdj => ?_) t, hdsti]
        rcases hok.nam j t hj (by omega) hdj (.inr (by rw [← hdsti]; exact ht)) with hx | hx
        · have := (hok.cl1 j hx).1; omega
        · cases hL : listed.getD j false with
          | false => rfl
          | true => exact absurd hx (haft j hj hL)
      have hgo : ∀ ψ c w', Agr (H (cnt (fun j => isEff cs j && listed.getD j false) ops.size)).next φ ψ → (H (cnt (fun j => isEff cs j && listed.getD j false) ops.size)).next ≤ (H k2).next → VR ψ (H k2).next (vs i) c → HR base w0 ψ (H k2) w' →
          wpAny P .any ops Q fuel (listed.setIfInBounds i true) (a.put o.dst c) w' := by
        intro ψ c w' g1 g2 g3 g4
        have hdst : d.o.dst = o.dst := unq_dst.symm.trans (compA_dst hcomp)
        have hszp : (a.put o.dst c).tmps.size = a.tmps.size := by cases hod : o.dst <;> simp [Act.put]
        refine ih (listed.setIfInBounds i true) _ w' ψ (by simp [hsz]) ?_ ?_ (hag.trans g1 (by rw [← h0]; exact hmono _ _ (Nat.zero_le _) (by rw [heffs, hlen]; exact hcnt2))) ?_
        · have := cnt_add (p := fun j => !(listed.setIfInBounds i true).getD j false) (q := fun j => !listed.getD j false) ops.size hi (by simp [hL' i]) (by simp [hLi]) (fun j hj hne => by rw [hL' j, if_neg hne])
          omega
        · intro k hk hLk j hj
          rw [hL' k] at hLk
          rw [hL' j]
          split
          · rfl
          · split at hLk
            · rename_i hki; subst hki; exact hbef j hj
            · exact hcl k hk hLk j hj
        · rw [hTS, ← hk2]
          refine ⟨g4, ?_, ?_, by rw [hszp]; exact hst.sz⟩
          · rw [hdst]
            refine (hst.tr.mono g1 g2).put g3 fun t ht => ?_
            have := hok.dm t (by rw [hdst]; exact ht)
            have := hst.sz
            omega
          · cases hod : o.dst <;> simp [Act.put, hst.df]
      have := step_ok (Q := Q) hst.hr hst.tr hcomp (step_unq hstep) hgo
      unfold wpOp
      simp only [ho]
      split at this
      · rename_i hw; rw [if_pos hw]; exact .inl this
      · rename_i hw; rw [if_neg hw]; exact this
end
end Go.Proofs.Ythofdojknjhpgaa
