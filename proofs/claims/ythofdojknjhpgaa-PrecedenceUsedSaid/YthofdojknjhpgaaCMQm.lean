/- Own texts, merged: a part of the proof that is told in the last text of this claim. -/
import Derived.Test.YthofdojknjhpgaaCMQ
import Derived.Maps.RangeRun
set_option linter.unusedVariables false
set_option linter.unusedSimpArgs false
namespace Go.Proofs.Ythofdojknjhpgaa
open Go
open Go.ChangeMaps (setBlock)
section
variable {P : Program} {m n0 : Nat} {T T' : Tm} {h h' : AH} {base : Nat} {w0 w : World} {φ : Phi} {a : Act}

/-- The heap that the body of such a loop sees: all blocks read-only, one number for the iterator. -/
def hRng (h : AH) : AH := { blk := h.blk, next := h.next + 1, ro := h.next + 1 }
theorem HR.hRng (hr : HR base w0 φ h w) (l : Loc) : HR w.heap.size w (ext φ h.next l) (hRng h) w := by
  have hag := ext_agr φ h.next l
  have hoth : ∀ B b, h.get B = some b → ext φ h.next l B = φ B := fun B b hB => hag B (hr.lt B b hB)
  refine ⟨RowKit.Below.refl _ _, Nat.le_refl _, fun B b hB => Nat.lt_succ_of_lt (hr.lt B b hB), ?_, ?_, ?_, ?_, ?_, Nat.le_refl _, ?_⟩
  · intro B t e cs hB
    rw [hoth B _ hB]
    obtain ⟨he, c', t'', fr, hw, hcell⟩ := hr.rows B t e cs hB
    refine ⟨he, c', t'', fr, hw, fun i v hi => ?_⟩
    obtain ⟨u, h2, h3, h4⟩ := hcell i v hi
    exact ⟨u, h2, h3.mono hag (Nat.le_succ _), h4⟩
  · intro B t e cs hro hB
    have := hr.lt B _ hB; have : h.next + 1 ≤ B := hro; omega
  · intro B es hB
    rw [hoth B _ hB]
    obtain ⟨a1, a2, E, cl, hw, hs, hcell⟩ := hr.maps B es hB
    have h1 := hr.lt B _ hB
    refine ⟨fun hro => by have : h.next + 1 ≤ B := hro; omega, fun _ => hr.blk_lt hB, E, cl, hw, hs, fun i k v hi => ?_⟩
    obtain ⟨x, h2, h3, h4⟩ := hcell i k v hi
    exact ⟨x, h2, h3, h4.mono hag (Nat.le_succ _)⟩
  · intro B t e cs hro hB
    rw [hoth B _ hB]; exact hr.blk_lt hB
  · intro B C b c h1 h2 hB hC heq
    have := hr.lt B _ hB; have : h.next + 1 ≤ B := h1; omega
  · intro b C hb
    refine ⟨(hr.frz b C hb).1, fun B bl hro hB => ?_⟩
    have := hr.lt B _ hB; have : h.next + 1 ≤ B := hro; omega
/-- A value whose place is told by its block's number alone. -/
def lcV : Value → Bool
  | .bool _ | .int _ _ | .string _ | .pointer none | .pointer (some ⟨_, _, none⟩) | .map _ | .nilFunc | .nilIface | .slice _ _ _ => true
  | .tuple xs => xs.size == 0
  | _ => false
theorem VR.lc {ψ : Phi} {n : Nat} {v c : Value} (hv : lcV v = true) (hag : ∀ B, B < n → ψ B = φ B) (k : VR φ n v c) : VR ψ n v c := by
  cases k with
  | bool => exact .bool _
  | int => exact .int _ _
  | string => exact .string _
  | ptr0 => exact .ptr0
  | ptr B o hB => have := VR.ptr (φ := ψ) (n := n) B o hB; rwa [hag B hB] at this
  | slice0 => exact .slice0
  | slice B o l c a hB hl hc => exact .slice B o l c a hB hl (by rw [hag B hB]; exact hc)
  | map0 => exact .map0
  | map B hB => have := VR.map (φ := ψ) (n := n) B hB; rwa [hag B hB] at this
  | nilFunc => exact .nilFunc
  | nilIface => exact .nilIface
  | any => exact .any _
  | tuple xs ys h1 h2 =>
    obtain rfl : xs = #[] := Array.eq_empty_of_size_eq_zero (by simpa [lcV] using hv)
    exact .any _
  | _ => simp [lcV] at hv
theorem ops_one {ops : Array Oper} {o : Oper} {k : Nat} {ks : List Nat} {c : Value} {w' : World} {Q : Exit → Act → World → Prop} (hok : ops[k]? = some o) (hg : o.guard = none) (hex : (execOp a.eval o).run P w = .ok (.value c) w') (hK : wpOps P ops Q ks (a.put o.dst c) w') : wpOps P ops Q (k :: ks) a w := by
  simp only [wpOps, hok]
  rw [if_pos (by simp [Region.wanted, hg])]
  refine .inl ?_
  unfold Oper.wp
  rw [hex]
  exact hK
theorem put_size {d : Option Nat} {c : Value} : (a.put d c).tmps.size = a.tmps.size := by cases d <;> simp [Act.put]
theorem put_defers {d : Option Nat} {c : Value} : (a.put d c).defers = a.defers := by cases d <;> simp [Act.put]
theorem put_at {d : Nat} {c : Value} (hd : d < a.tmps.size) : (a.put (some d) c).tmps.getD d undef = c := by simp [Act.put, hd]
theorem put_ne {d t : Nat} {c : Value} (hd : t ≠ d) : (a.put (some d) c).tmps.getD t undef = a.tmps.getD t undef := by simp [Act.put, Array.getElem?_setIfInBounds_ne (Ne.symm hd)]
theorem put_eval {d : Nat} {c : Value} (hd : d < a.tmps.size) : (a.put (some d) c).eval (.tmp d) = c := put_at hd

theorem plain1_any {φ ψ : Phi} {n k : Nat} {v c : Value} (hv : plain1 v = true) (h : VR φ n v c) : VR ψ k v c := by
  have h2 : c = v := by
    cases h with
    | func f xs ys cs ds h1 h2 h3 h4 =>
      simp [plain1] at hv
      obtain ⟨rfl, rfl⟩ := hv
      obtain rfl : ys = #[] := Array.eq_empty_of_size_eq_zero (by simpa using h1.symm)
      obtain rfl : ds = #[] := Array.eq_empty_of_size_eq_zero (by simpa using h3.symm)
      rfl
    | slice B o l c a _ _ _ => simp [plain1] at hv
    | _ => first | rfl | (simp [plain1] at hv)
  rw [h2]; exact VR.plain1 hv

structure RngD where
  mo : Opd
  d1 : Nat
  it : Nat
  tn : Nat
  tb : Nat
  te : Nat
  tk : Nat
  dk : Nat
def rngShape (P : Program) (m : Nat) (x y : Code) : Option (RngD × Code) := match x, y with
  | .region _ ops1 false, .block id (.loop (.seq (.region _ ops2 false) (.seq (.cond (.tmp c) .skip (.exit id')) (.block id2 (.seq (.region _ ops3 false) kb))))) =>
    match ops1, ops2, ops3 with
    | ⟨[⟨some d1, .move mo, _, _, _, none⟩, ⟨some it, .range mt (.tmp d1'), _, _, _, none⟩]⟩, ⟨[⟨some tn, .next (.tmp it') false, _, _, _, none⟩, ⟨some tb, .extract (.tmp tn') 0, _, _, _, none⟩]⟩, ⟨[⟨some te, .entry (.tmp it''), _, _, _, none⟩, ⟨some tk, .extract (.tmp te') 0, _, _, _, none⟩, ⟨some dk, .assign (.tmp tk'), _, _, _, none⟩]⟩ =>
      match opd mo, P.underlying mt with
      | some y, some (.map _ _) =>
        if d1 = d1' ∧ it = it' ∧ it = it'' ∧ tn = tn' ∧ te = te' ∧ tk = tk' ∧ tb = c ∧ id = id' ∧ id2 ≠ id ∧ d1 < m ∧ it < m ∧ tn < m ∧ tb < m ∧ te < m ∧ tk < m ∧ dk < m ∧ it ≠ tn ∧ it ≠ tb ∧ it ≠ te ∧ it ≠ tk ∧ it ≠ dk
        then some (⟨y, d1, it, tn, tb, te, tk, dk⟩, kb) else none
      | _, _ => none
    | _, _, _ => none
  | _, _ => none
/-- What the slots tell at the head of a round. -/
structure RngT (d : RngD) (T0 T : Tm) (n : Nat) : Prop where
  t : ∀ i, T0 i = .tuple #[] ∨ (i = d.it ∧ T0 i = .pointer (some ⟨n, 0, none⟩)) ∨ (T0 i = T i ∧ i ≠ d.d1 ∧ i ≠ d.it)
  lc : ∀ i, lcV (T0 i) = true
  f : ∀ i, i = d.tn ∨ i = d.tb ∨ i = d.te ∨ i = d.tk ∨ i = d.dk → T0 i = .tuple #[]
  it : T0 d.it = .pointer (some ⟨n, 0, none⟩)
theorem rng_ok {x y kb : Code} {d : RngD} (hs : rngShape P m x y = some (d, kb)) {B : Nat} {es : List (Value × Value)} (hB : d.mo.ev T = .map (some B)) (hes : h.get B = some (.map es)) {T0 Te : Tm} (hT : RngT d T0 T h.next) (hTe : ∀ i, Te i = .tuple #[] ∨ plain1 (Te i) = true) (p : Value → Bool)
    (body : ∀ k v, (k, v) ∈ es → VR φ h.next k k → (p k = true → AX P m (h.next + 1) kb (upd T0 d.dk k) (hRng h) .ret Te (hRng h)) ∧ (p k = false → AX P m (h.next + 1) kb (upd T0 d.dk k) (hRng h) .normal T0 (hRng h)))
    (hk : ∀ k v, (k, v) ∈ es → ∀ ψ n, VR ψ n k k) (hst : St base w0 φ m T h a w) :
    (Code.seq x y).wp P (fun ce a' w' => (ce = .ret ∧ (∃ z ∈ es, p z.1 = true) ∧ St base w0 φ m Te h a' w') ∨ (ce = .normal ∧ (∀ z ∈ es, p z.1 = false) ∧ St base w0 φ m (fun i => if i = d.it then .tuple #[] else T0 i) h a' w')) a w := by
  unfold rngShape at hs
  split at hs
  case h_2 => cases hs
  rename_i q1 ops1 id q2 ops2 c id' id2 q3 ops3 kb'
  split at hs
  case h_2 => cases hs
  rename_i d1 mo z1 z2 z3 it mt d1' z4 z5 z6 tn it' z7 z8 z9 tb tn' z10 z11 z12 te it'' z13 z14 z15 tk te' z16 z17 z18 dk tk' z19 z20 z21
  split at hs
  case h_2 => cases hs
  rename_i yo kt et hmo hmt
  split at hs
  case isFalse => cases hs
  rename_i hc
  obtain ⟨rfl, rfl, rfl, rfl, rfl, rfl, rfl, rfl, hid, l1, l2, l3, l4, l5, l6, l7, n1, n2, n3, n4, n5⟩ := hc
  cases hs
  simp only at hB hT body
  have hr := hst.hr
  have hsz := hst.sz
  obtain ⟨E, cl, hw, hml⟩ : ∃ E cl, w.heap[(φ B).blk]? = some (.map E cl) ∧ (E.size = es.length ∧ ∀ (i : Nat) (k v : Value), es[i]? = some (k, v) → ∃ e : MapEntry, E[i]? = some e ∧ e.key = k) ∧ (∀ x ∈ E.toList, x.born < cl) ∧ (E.toList.map (·.born)).Nodup := by
    obtain ⟨_, _, E, cl, hw, hs, hc⟩ := hr.maps B es hes
    exact ⟨E, cl, hw, ⟨hs.1, fun i k v hi => by obtain ⟨e, e1, e2, _⟩ := hc i k v hi; exact ⟨e, e1, e2⟩⟩, hs.2.1, hs.2.2⟩
  obtain ⟨⟨hEs, hEk⟩, hborn, hnd⟩ := hml
  have hkey : ∀ e ∈ E.toList, ∃ v, (e.key, v) ∈ es := by
    intro e he
    obtain ⟨i, hi⟩ := List.mem_iff_getElem?.1 he
    have hlt : i < es.length := by have := (List.getElem?_eq_some_iff.1 hi).1; simp at this; omega
    obtain ⟨e', e1, e2⟩ := hEk i es[i].1 es[i].2 (List.getElem?_eq_getElem hlt)
    have : e' = e := by have : E.toList[i]? = some e' := by simpa using e1
                        rw [hi] at this; cases this; rfl
    subst this
    exact ⟨es[i].2, by rw [e2]; exact List.getElem_mem hlt⟩
  have hvm := hst.tr.opd hmo
  rw [hB] at hvm
  have hmap : a.eval mo = .map (some (φ B).blk) := by
    generalize a.eval mo = c at hvm
    cases hvm; rfl
  have hblt : (φ B).blk < w.heap.size := hr.blk_lt hes
  -- the first region
  refine wp_seq (wp_region ?_)
  show wpOps P _ _ [0, 1] a w
  refine ops_one (o := ⟨some d1, .move mo, z1, z2, z3, none⟩) (w' := w) (c := .map (some (φ B).blk)) rfl rfl (by simp [execOp, hmap]) ?_
  have hd1 : d1 < a.tmps.size := Nat.lt_of_lt_of_le l1 hsz
  refine ops_one (o := ⟨some it, .range mt (.tmp d1), z4, z5, z6, none⟩) (a := a.put (some d1) _) (c := .pointer (some ⟨w.heap.size, 0, none⟩)) (w' := w.alloc (.mapIter (some (φ B).blk) cl #[] cl)) rfl rfl ?_ ?_
  · have hrun := run_range_map (P := P) w mt kt et (φ B).blk E cl hmt hw
    simp only [execOp, put_eval hd1, Sem.run_bind, hrun, Result.andThen_ok, Sem.run_pure]
  show (Code.block id _).wp P _ _ _
  generalize ha1 : (a.put (some d1) (.map (some (φ B).blk))).put (some it) (.pointer (some ⟨w.heap.size, 0, none⟩)) = a1
  have hsz1 : m ≤ a1.tmps.size := by rw [← ha1, put_size, put_size]; exact hsz
  have hdf1 : a1.defers = [] := by rw [← ha1, put_defers, put_defers]; exact hst.df
  -- what holds at the head of a round
  generalize hl : (⟨w.heap.size, 0, 0, 0⟩ : Loc) = l
  have htr1 : TR (ext φ h.next l) (h.next + 1) T0 a1 := by
    intro i
    rcases hT.t i with h1 | ⟨rfl, h1⟩ | ⟨h1, h2, h3⟩
    · rw [h1]; exact .any _
    · rw [h1, ← ha1, put_at (by rw [put_size]; exact Nat.lt_of_lt_of_le l2 hsz)]
      have := VR.ptr (φ := ext φ h.next l) (n := h.next + 1) h.next 0 (Nat.lt_succ_self _)
      rw [ext_same] at this
      subst hl
      exact this
    · rw [h1, ← ha1, put_ne h3, put_ne h2]
      exact (hst.tr i).mono (ext_agr _ _ _) (Nat.le_succ _)
  have hmem : ∀ z ∈ es, ∃ e ∈ E.toList, e.key = z.1 := by
    intro z hz
    obtain ⟨i, hi⟩ := List.mem_iff_getElem?.1 hz
    obtain ⟨e, e1, e2⟩ := hEk i z.1 z.2 hi
    exact ⟨e, List.mem_of_getElem? (i := i) (by simpa using e1), e2⟩
  have hback : ∀ i c, VR (ext φ h.next l) (h.next + 1) (T0 i) c → i ≠ it → VR φ h.next (T0 i) c := by
    intro i c hv hi
    rcases hT.t i with h1 | ⟨h1, _⟩ | ⟨h1, _, _⟩
    · rw [h1]; exact .any _
    · exact absurd h1 hi
    · have hlow : VR (ext φ h.next l) h.next (T0 i) c := by rw [h1] at hv ⊢; exact (hst.tr i).low hv
      exact hlow.lc (hT.lc i) fun B hB => (ext_other φ h.next l hB).symm
  have key : ∀ (n : Nat) (seen : Array Nat) (c0 : Nat) (a' : Act) (w' : World), (leftOf E seen).size ≤ n → cl ≤ c0 → HR base w0 φ h w' → w'.heap[(φ B).blk]? = some (.map E cl) → w'.heap[w.heap.size]? = some (.mapIter (some (φ B).blk) cl seen c0) → TR (ext φ h.next l) (h.next + 1) T0 a' → a'.defers = [] → m ≤ a'.tmps.size →
      (∀ e ∈ E.toList, seen.contains e.born = true → p e.key = false) →
      Code.rounds P (.seq (.region q2 #[⟨some tn, .next (.tmp it) false, z7, z8, z9, none⟩, ⟨some tb, .extract (.tmp tn) 0, z10, z11, z12, none⟩] false) (.seq (.cond (.tmp tb) .skip (.exit id)) (.block id2 (.seq (.region q3 #[⟨some te, .entry (.tmp it), z13, z14, z15, none⟩, ⟨some tk, .extract (.tmp te) 0, z16, z17, z18, none⟩, ⟨some dk, .assign (.tmp tk), z19, z20, z21, none⟩] false) kb))))
        (fun ce a' w' => (ce = .ret ∧ (∃ z ∈ es, p z.1 = true) ∧ St base w0 φ m Te h a' w') ∨ (ce = .exit id ∧ (∀ z ∈ es, p z.1 = false) ∧ St base w0 φ m (fun i => if i = it then .tuple #[] else T0 i) h a' w')) (n + 1) a' w' := by
    intro n
    induction n using Nat.strongRecOn with
    | _ n ih =>
    intro seen c0 a' w' hn hc0 hr' hm' hi' ht' hd' hs' hseen
    rw [rounds_succ]
    refine wp_seq (wp_region ?_)
    show wpOps P _ _ [0, 1] a' w'
    have hit : a'.eval (.tmp it) = .pointer (some ⟨w.heap.size, 0, none⟩) := by
      have hv := ht' it
      rw [hT.it] at hv
      show a'.tmps.getD it undef = _
      generalize a'.tmps.getD it undef = c at hv
      cases hv with
      | ptr _ _ _ => rw [ext_same, ← hl]
    have hfree : ∀ i x, i = tn ∨ i = tb ∨ i = te ∨ i = tk ∨ i = dk → VR (ext φ h.next l) (h.next + 1) (T0 i) x := by
      intro i x hi; rw [hT.f i hi]; exact .any _
    have trput : ∀ (a'' : Act) (d : Nat) (x : Value), d = tn ∨ d = tb ∨ d = te ∨ d = tk ∨ d = dk → TR (ext φ h.next l) (h.next + 1) T0 a'' → TR (ext φ h.next l) (h.next + 1) T0 (a''.put (some d) x) := by
      intro a'' d x hd htr i
      by_cases hid : i = d
      · subst hid; exact hfree i _ hd
      · rw [put_ne hid]; exact htr i
    rcases run_next_at (P := P) w' z7 w.heap.size (φ B).blk cl c0 seen E cl hi' hm' hborn hc0 with ⟨g1, g2⟩ | ⟨e, he, w1, hw1, g2⟩
    · -- nothing is left
      refine ops_one (o := ⟨some tn, .next (.tmp it) false, z7, z8, z9, none⟩) (c := .tuple #[.bool false]) (w' := w') rfl rfl (by simp only [execOp, hit, Sem.run_bind, g2, Result.andThen_ok, Sem.run_pure]) ?_
      have htn : tn < a'.tmps.size := Nat.lt_of_lt_of_le l3 hs'
      refine ops_one (o := ⟨some tb, .extract (.tmp tn) 0, z10, z11, z12, none⟩) (c := .bool false) (w' := w') rfl rfl (by simp only [execOp, put_eval htn]; simp [Instr.extract]) ?_
      refine wp_seq (wp_cond (put_eval (by rw [put_size]; exact Nat.lt_of_lt_of_le l4 hs')) ?_)
      show (Code.exit id).wp P _ _ _
      refine wp_exit ?_
      refine .inr ⟨rfl, fun z hz => ?_, ?_⟩
      · obtain ⟨e, e1, e2⟩ := hmem z hz
        rw [← e2]; exact hseen e e1 (all_seen E seen g1 e e1)
      · refine ⟨hr', fun i => ?_, by rw [put_defers, put_defers]; exact hd', by rw [put_size, put_size]; exact hs'⟩
        by_cases hi : i = it
        · simp only [if_pos hi]; exact .any _
        · simp only [if_neg hi]
          exact hback i _ (trput _ _ _ (by simp) (trput _ _ _ (by simp) ht') i) hi
    · obtain ⟨heE, hns⟩ := mem_left he
      obtain ⟨v, hv⟩ := hkey e heE
      generalize hW2 : setBlock w1 w.heap.size (.mapIter (some (φ B).blk) cl (seen.push e.born) cl) = W2 at g2
      have hlt' : w.heap.size < w'.heap.size := (Array.getElem?_eq_some_iff.1 hi').1
      have hw1h : w1.heap = w'.heap := by rcases hw1 with rfl | rfl <;> rfl
      have hoth : ∀ k, k ≠ w.heap.size → W2.heap[k]? = w'.heap[k]? := by
        intro k hk
        rw [← hW2]
        show (w1.heap.setIfInBounds _ _)[k]? = _
        rw [Array.getElem?_setIfInBounds_ne (Ne.symm hk), hw1h]
      have hsame : W2.heap[w.heap.size]? = some (.mapIter (some (φ B).blk) cl (seen.push e.born) cl) := by
        rw [← hW2]
        show (w1.heap.setIfInBounds _ _)[_]? = _
        rw [hw1h, Array.getElem?_setIfInBounds_self, if_pos hlt']
      have hsize : W2.heap.size = w'.heap.size := by
        rw [← hW2]
        show (w1.heap.setIfInBounds _ _).size = _
        rw [hw1h, Array.size_setIfInBounds]
      have hbel : RowKit.Below base w' W2 := by
        refine ⟨?_, ?_, ?_, by omega, fun k hk => hoth k (by have := hr.bs; omega)⟩
        · rw [← hW2]; rcases hw1 with rfl | rfl <;> rfl
        · rw [← hW2]; rcases hw1 with rfl | rfl <;> rfl
        · rw [← hW2]; rcases hw1 with rfl | rfl <;> rfl
      have hr2 : HR base w0 φ h W2 := hr'.world hbel (by have := hr'.bs; omega) (fun C b hC => hoth _ (by have := hr.blk_lt hC; omega)) fun b C hb => hoth _ (by have := hr.fzb hb; omega)
      have hm2 : W2.heap[(φ B).blk]? = some (.map E cl) := by rw [hoth _ (by omega)]; exact hm'
      refine ops_one (o := ⟨some tn, .next (.tmp it) false, z7, z8, z9, none⟩) (c := .tuple #[.bool true, e.key, e.val]) (w' := W2) rfl rfl (by simp only [execOp, hit, Sem.run_bind, g2, Result.andThen_ok, Sem.run_pure]) ?_
      have htn : tn < a'.tmps.size := Nat.lt_of_lt_of_le l3 hs'
      refine ops_one (o := ⟨some tb, .extract (.tmp tn) 0, z10, z11, z12, none⟩) (c := .bool true) (w' := W2) rfl rfl (by simp only [execOp, put_eval htn]; simp [Instr.extract]) ?_
      refine wp_seq (wp_cond (put_eval (by rw [put_size]; exact Nat.lt_of_lt_of_le l4 hs')) ?_)
      show (Code.skip).wp P _ _ _
      refine wp_skip ?_
      generalize ha2 : (a'.put (some tn) (.tuple #[.bool true, e.key, e.val])).put (some tb) (.bool true) = a2
      have ht2 : TR (ext φ h.next l) (h.next + 1) T0 a2 := by rw [← ha2]; exact trput _ _ _ (by simp) (trput _ _ _ (by simp) ht')
      have hs2 : m ≤ a2.tmps.size := by rw [← ha2, put_size, put_size]; exact hs'
      have hd2 : a2.defers = [] := by rw [← ha2, put_defers, put_defers]; exact hd'
      have hit2 : a2.eval (.tmp it) = .pointer (some ⟨w.heap.size, 0, none⟩) := by
        rw [← ha2]
        show Array.getD _ _ _ = _
        rw [put_ne n2, put_ne n1]; exact hit
      refine wp_block (wp_seq (wp_region ?_))
      show wpOps P _ _ [0, 1, 2] a2 W2
      refine ops_one (o := ⟨some te, .entry (.tmp it), z13, z14, z15, none⟩) (c := .tuple #[e.key, e.val]) (w' := W2) rfl rfl (by
        have := run_entry_at (P := P) W2 w.heap.size (φ B).blk cl seen E cl e hsame hm2 heE hnd
        simp only [execOp, hit2, Sem.run_bind, this, Result.andThen_ok, Sem.run_pure]) ?_
      refine ops_one (o := ⟨some tk, .extract (.tmp te) 0, z16, z17, z18, none⟩) (c := e.key) (w' := W2) rfl rfl (by simp only [execOp, put_eval (show te < a2.tmps.size from Nat.lt_of_lt_of_le l5 hs2)]; simp [Instr.extract]) ?_
      refine ops_one (o := ⟨some dk, .assign (.tmp tk), z19, z20, z21, none⟩) (c := e.key) (w' := W2) rfl rfl (by simp only [execOp, put_eval (show tk < (a2.put (some te) (.tuple #[e.key, e.val])).tmps.size by rw [put_size]; exact Nat.lt_of_lt_of_le l6 hs2)]; rfl) ?_
      generalize ha3 : ((a2.put (some te) (.tuple #[e.key, e.val])).put (some tk) e.key).put (some dk) e.key = a3
      have ht3 : TR (ext φ h.next l) (h.next + 1) (upd T0 dk e.key) a3 := by
        intro i
        simp only [upd]
        by_cases hi : i = dk
        · subst hi
          rw [if_pos rfl, ← ha3, put_at (by rw [put_size, put_size]; exact Nat.lt_of_lt_of_le l7 hs2)]
          exact hk _ _ hv _ _
        · rw [if_neg hi, ← ha3, put_ne hi]
          exact trput _ _ _ (by simp) (trput _ _ _ (by simp) ht2) i
      have hs3 : m ≤ a3.tmps.size := by rw [← ha3, put_size, put_size, put_size]; exact hs2
      have hd3 : a3.defers = [] := by rw [← ha3, put_defers, put_defers, put_defers]; exact hd2
      have hst3 : St W2.heap.size W2 (ext φ h.next l) m (upd T0 dk e.key) (hRng h) a3 W2 := ⟨hr2.hRng l, ht3, hd3, hs3⟩
      obtain ⟨b1, b2⟩ := body e.key v hv (hk _ _ hv _ _)
      have thaw : ∀ ψ T' a4 w4, St W2.heap.size W2 ψ m T' (hRng h) a4 w4 → HR base w0 φ h w4 ∧ ∀ k, k < W2.heap.size → w4.heap[k]? = W2.heap[k]? := by
        intro ψ T' a4 w4 hs4
        have hb := hs4.hr.below
        have hall : ∀ k, k < W2.heap.size → w4.heap[k]? = W2.heap[k]? := fun k hk => hb.block k hk
        refine ⟨hr2.world (hb.mono (by have := hr2.bs; exact this)) (Nat.le_trans hr2.bs hs4.hr.bs) (fun C b hC => hall _ (by have := hr.blk_lt hC; omega)) fun b C hb => hall _ (by have := hr.fzb hb; omega), hall⟩
      cases hp : p e.key with
      | true =>
        refine wp_mono (b1 hp _ _ _ a3 W2 (Nat.le_refl _) hst3) ?_
        rintro ce a4 w4 ⟨ψ, rfl, q1, q2, q3⟩
        refine .inl ⟨rfl, ⟨_, hv, hp⟩, (thaw ψ _ a4 w4 q3).1, fun i => ?_, q3.df, q3.sz⟩
        rcases hTe i with h1 | h1
        · rw [h1]; exact .any _
        · exact plain1_any h1 (q3.tr i)
      | false =>
        refine wp_mono (b2 hp _ _ _ a3 W2 (Nat.le_refl _) hst3) ?_
        rintro ce a4 w4 ⟨ψ, rfl, q1, q2, q3⟩
        obtain ⟨hr4, hall⟩ := thaw ψ _ a4 w4 q3
        have hsh := left_shrinks E seen e he
        obtain ⟨n', rfl⟩ : ∃ n', n = n' + 1 := ⟨n - 1, by omega⟩
        refine ih n' (by omega) (seen.push e.born) cl a4 w4 (by omega) (Nat.le_refl _) hr4 (by rw [hall _ (by omega)]; exact hm2) (by rw [hall _ (by omega)]; exact hsame) (fun i => (q3.tr i).lc (hT.lc i) fun B hB => (q1.loc B hB).symm) q3.df q3.sz ?_
        intro x hx hcx
        rw [Array.contains_push] at hcx
        simp only [Bool.or_eq_true, beq_iff_eq] at hcx
        rcases hcx with hcx | hcx
        · exact hseen x hx hcx
        · have : x = e := by
            have h1 := List.mem_iff_getElem?.1 hx
            have h2 := List.mem_iff_getElem?.1 heE
            obtain ⟨i, hi⟩ := h1
            obtain ⟨j, hj⟩ := h2
            have : i = j := (List.getElem?_inj (l := E.toList.map (·.born)) (by simpa using (List.getElem?_eq_some_iff.1 hi).1) hnd).1 (by rw [List.getElem?_map, List.getElem?_map, hi, hj]; simp [hcx])
            subst this
            rw [hi] at hj; cases hj; rfl
          rw [this]; exact hp
  refine wp_block (wp_mono (wp_loop_rounds _ (key _ #[] cl a1 _ (Nat.le_refl _) (Nat.le_refl _) ?_ ?_ ?_ htr1 hdf1 hsz1 ?_)) ?_)
  · exact hr.world (((RowKit.Below.refl _ _).alloc hr.bs _ : RowKit.Below _ _ _)) (by simp; have := hr.bs; omega) (fun B b hB => heap_alloc_old w _ (hr.blk_lt hB)) fun b C hb => heap_alloc_old w _ (hr.fzb hb)
  · rw [heap_alloc_old w _ hblt]; exact hw
  · exact heap_alloc_new w _
  · intro e _ hf; simp at hf
  · rintro ce a' w' (⟨rfl, g1, g2⟩ | ⟨rfl, g1, g2⟩)
    · exact .inl ⟨rfl, g1, g2⟩
    · simp only [Exit.inBlock, if_true]
      exact .inr ⟨trivial, g1, g2⟩
end
end Go.Proofs.Ythofdojknjhpgaa
