/- Own texts, merged: a part of the proof that is told in the last text of this claim. -/
import Derived.Test.YthofdojknjhpgaaCMB
set_option linter.unusedVariables false
set_option linter.unusedSimpArgs false
namespace Go.Proofs.Ythofdojknjhpgaa
open Go

def VRL (φ : Phi) (n : Nat) (vs cs : List Value) : Prop := vs.length = cs.length ∧ ∀ (i : Nat) (v c : Value), vs[i]? = some v → cs[i]? = some c → VR φ n v c
theorem VRL.nil {φ : Phi} {n : Nat} : VRL φ n [] [] := ⟨rfl, fun i v c h => by simp at h⟩
theorem VRL.mono {φ ψ : Phi} {n m : Nat} {vs cs : List Value} (h : VRL φ n vs cs) (ha : Agr n φ ψ) (hm : n ≤ m) : VRL ψ m vs cs :=
  ⟨h.1, fun i v c hv hc => (h.2 i v c hv hc).mono ha hm⟩
theorem VRL.cons {φ : Phi} {n : Nat} {v c : Value} {vs cs : List Value} (h : VR φ n v c) (k : VRL φ n vs cs) : VRL φ n (v :: vs) (c :: cs) := by
  refine ⟨by simp [k.1], fun i x y hx hy => ?_⟩
  cases i with
  | zero => simp at hx hy; subst hx; subst hy; exact h
  | succ i => simp at hx hy; exact k.2 i x y hx hy
theorem VRL.append {φ : Phi} {n : Nat} {vs cs us ds : List Value} (h : VRL φ n vs cs) (k : VRL φ n us ds) : VRL φ n (vs ++ us) (cs ++ ds) := by
  refine ⟨by simp [h.1, k.1], fun i v c hv hc => ?_⟩
  rw [List.getElem?_append] at hv hc
  by_cases hi : i < vs.length
  · rw [if_pos hi] at hv; rw [if_pos (by rw [← h.1]; exact hi)] at hc; exact h.2 i v c hv hc
  · rw [if_neg hi] at hv; rw [if_neg (by rw [← h.1]; exact hi)] at hc; rw [← h.1] at hc; exact k.2 _ v c hv hc
theorem VRL.take {φ : Phi} {n : Nat} {vs cs : List Value} (h : VRL φ n vs cs) (k : Nat) : VRL φ n (vs.take k) (cs.take k) := by
  refine ⟨by simp [h.1], fun i v c hv hc => ?_⟩
  rw [List.getElem?_take] at hv hc
  split at hv
  · rename_i hi; rw [if_pos hi] at hc; exact h.2 i v c hv hc
  · cases hv
theorem VRL.drop {φ : Phi} {n : Nat} {vs cs : List Value} (h : VRL φ n vs cs) (k : Nat) : VRL φ n (vs.drop k) (cs.drop k) := by
  refine ⟨by simp [h.1], fun i v c hv hc => ?_⟩
  rw [List.getElem?_drop] at hv hc
  exact h.2 _ v c hv hc
theorem VRL.splice {φ : Phi} {n : Nat} {vs cs us ds : List Value} (h : VRL φ n vs cs) (k : VRL φ n us ds) (o : Nat) : VRL φ n (splice vs o us) (splice cs o ds) := by
  unfold Ythofdojknjhpgaa.splice
  rw [← k.1]
  exact ((h.take o).append k).append (h.drop _)
theorem VRL.get {φ : Phi} {n : Nat} {vs cs : List Value} (h : VRL φ n vs cs) {i : Nat} {v : Value} (hv : vs[i]? = some v) : ∃ c, cs[i]? = some c ∧ VR φ n v c := by
  have hi : i < vs.length := (List.getElem?_eq_some_iff.1 hv).1
  have hc : i < cs.length := by rw [← h.1]; exact hi
  exact ⟨cs[i], List.getElem?_eq_getElem hc, h.2 i v _ hv (List.getElem?_eq_getElem hc)⟩
theorem VRL.of_arrays {φ : Phi} {n : Nat} {xs ys : Array Value} (h1 : xs.size = ys.size) (h2 : ∀ i (a : i < xs.size) (b : i < ys.size), VR φ n xs[i] ys[i]) : VRL φ n xs.toList ys.toList := by
  refine ⟨by simpa using h1, fun i v c hv hc => ?_⟩
  obtain ⟨a, rfl⟩ := List.getElem?_eq_some_iff.1 hv
  obtain ⟨b, rfl⟩ := List.getElem?_eq_some_iff.1 hc
  simpa using h2 i (by simpa using a) (by simpa using b)
theorem VRL.agg {φ : Phi} {n : Nat} {vs cs : List Value} (h : VRL φ n vs cs) : VR φ n (.agg vs.toArray) (.agg cs.toArray) :=
  .agg _ _ (by simpa using h.1) fun i a b => h.2 i _ _ (by simp at a; simp [a]) (by simp at b; simp [b])
theorem VRL.tuple {φ : Phi} {n : Nat} {vs cs : List Value} (h : VRL φ n vs cs) : VR φ n (.tuple vs.toArray) (.tuple cs.toArray) :=
  .tuple _ _ (by simpa using h.1) fun i a b => h.2 i _ _ (by simp at a; simp [a]) (by simp at b; simp [b])
theorem VR.cells {φ : Phi} {n : Nat} {v c : Value} (h : VR φ n v c) (hv : v ≠ .tuple #[]) : VRL φ n (cellsOf v) (Value.cells c).toList := by
  cases h with
  | agg xs ys h1 h2 => exact VRL.of_arrays h1 h2
  | any => exact absurd rfl hv
  | fz0 _ hc => rcases hc with rfl | ⟨a, k, rfl⟩ <;> exact .cons (.fz0 _ (by simp)) .nil
  | _ => exact .cons (by constructor <;> assumption) .nil
theorem VRL.all_one {φ : Phi} {n : Nat} {vs cs : List Value} (h : VRL φ n vs cs) (h1 : vs.all one = true) : ∀ c ∈ cs, c.oneCell' = true := by
  intro c hc
  obtain ⟨i, hi⟩ := List.mem_iff_getElem?.1 hc
  have hlt : i < cs.length := (List.getElem?_eq_some_iff.1 hi).1
  have hlt' : i < vs.length := by rw [h.1]; exact hlt
  have hv := List.getElem?_eq_getElem hlt'
  exact (h.2 i _ c hv hi).one_ (List.all_eq_true.1 h1 _ (List.getElem_mem hlt'))

theorem VR.plain1 {φ : Phi} {n : Nat} {v : Value} (h : plain1 v = true) : VR φ n v v := by
  cases v with
  | bool => exact .bool _
  | int => exact .int _ _
  | float => exact .float _ _
  | string => exact .string _
  | pointer a => cases a with | none => exact .ptr0 | some => simp [Ythofdojknjhpgaa.plain1] at h
  | slice a l c => cases a <;> cases l <;> cases c <;> simp [Ythofdojknjhpgaa.plain1] at h; exact .slice0
  | map r => cases r with | none => exact .map0 | some => simp [Ythofdojknjhpgaa.plain1] at h
  | nilFunc => exact .nilFunc
  | nilIface => exact .nilIface
  | func fn xs cs =>
    cases fn with
    | func f =>
      simp [Ythofdojknjhpgaa.plain1] at h
      obtain ⟨rfl, rfl⟩ := h
      exact .func _ _ _ _ _ rfl (fun i a => absurd a (by simp)) rfl (fun i a => absurd a (by simp))
    | _ => simp [Ythofdojknjhpgaa.plain1] at h
  | _ => simp [Ythofdojknjhpgaa.plain1] at h
theorem VR.plainV {φ : Phi} {n : Nat} {v : Value} (h : plainV v = true) : VR φ n v v := by
  cases v with
  | agg cs =>
    simp only [Ythofdojknjhpgaa.plainV, List.all_eq_true] at h
    exact .agg _ _ rfl fun i a b => VR.plain1 (h _ (by simp))
  | _ => exact VR.plain1 h
theorem VRL.plain {φ : Phi} {n : Nat} {vs : List Value} (h : vs.all plain1 = true) : VRL φ n vs vs :=
  ⟨rfl, fun i v c hv hc => by rw [hv] at hc; cases hc; exact VR.plain1 (List.all_eq_true.1 h _ (List.mem_of_getElem? hv))⟩
theorem plain1_one {v : Value} (h : plain1 v = true) : one v = true := by
  cases v <;> first | rfl | (simp [plain1] at h)
theorem plain_one {vs : List Value} (h : vs.all plain1 = true) : vs.all one = true :=
  List.all_eq_true.2 fun v hv => plain1_one (List.all_eq_true.1 h v hv)

section
variable {base : Nat} {w0 : World} {φ : Phi} {h : AH} {w : World}
theorem row_some {B : Nat} {t : TypeId} {e : Nat} {cs : List Value} (hb : h.row? B = some (t, e, cs)) : h.get B = some (.row t e cs) := by
  unfold AH.row? at hb
  split at hb
  · rename_i hx; simp at hb; obtain ⟨rfl, rfl, rfl⟩ := hb; exact hx
  · cases hb
theorem map_some {B : Nat} {es : List (Value × Value)} (hb : h.map? B = some es) : h.get B = some (.map es) := by
  unfold AH.map? at hb
  split at hb
  · rename_i hx; simp at hb; subst hb; exact hx
  · cases hb
/-- The concrete cells of a stretch of a row. -/
theorem HR.stretch (hr : HR base w0 φ h w) {B : Nat} {t : TypeId} {e : Nat} {cs : List Value} (hb : h.get B = some (.row t e cs)) (o n : Nat) (hn : o + n ≤ cs.length) :
    ∃ us : List Value, VRL φ h.next ((cs.drop o).take n) us ∧ us.length = n ∧ (∀ u ∈ us, u.oneCell' = true) ∧ ∀ (j : Nat) (u : Value), us[j]? = some u → w.cell? ⟨(φ B).blk, (φ B).base + o + j, none⟩ = some u := by
  obtain ⟨_, c, t', fr, hw, hc⟩ := hr.rows B t e cs hb
  have key : ∀ (i : Nat), i < cs.length → ∃ u, c[(φ B).base + i]? = some u ∧ VR φ h.next (cs[i]?.getD default) u ∧ u.oneCell' = true := by
    intro i hi
    obtain ⟨u, h1, h2, h3⟩ := hc i _ (List.getElem?_eq_getElem hi)
    exact ⟨u, h1, by simpa [List.getElem?_eq_getElem hi] using h2, h3⟩
  refine ⟨(List.range n).map fun j => (c[(φ B).base + o + j]?).getD default, ⟨by simp; omega, ?_⟩, by simp, ?_, ?_⟩
  · intro i v u hv hu
    rw [List.getElem?_take] at hv
    split at hv
    · rename_i hi
      rw [List.getElem?_drop] at hv
      obtain ⟨u', h1, h2, h3⟩ := hc _ _ hv
      simp [List.getElem?_map, List.getElem?_range, hi] at hu
      rw [show (φ B).base + o + i = (φ B).base + (o + i) from by omega, h1] at hu
      simp at hu
      subst hu
      exact h2
    · cases hv
  · intro u hu
    simp only [List.mem_map, List.mem_range] at hu
    obtain ⟨j, hj, rfl⟩ := hu
    obtain ⟨u', h1, h2, h3⟩ := key (o + j) (by omega)
    rw [show (φ B).base + o + j = (φ B).base + (o + j) from by omega, h1]
    exact h3
  · intro j u hu
    simp only [List.getElem?_map, List.getElem?_range] at hu
    have hj : j < n := by
      rcases Nat.lt_or_ge j n with hlt | hge
      · exact hlt
      · simp [List.getElem?_range, Nat.not_lt.2 hge] at hu
    simp [List.getElem?_range, hj] at hu
    obtain ⟨u', h1, h2, h3⟩ := key (o + j) (by omega)
    rw [show (φ B).base + o + j = (φ B).base + (o + j) from by omega] at hu ⊢
    rw [h1] at hu
    simp at hu
    subst hu
    rw [cell_of_row w _ _ c t' fr hw, h1]
theorem HR.blk_lt (hr : HR base w0 φ h w) {B : Nat} {b : Blk} (hb : h.get B = some b) : (φ B).blk < w.heap.size := by
  cases b with
  | row t e cs =>
    obtain ⟨_, c, t', fr, hw, _⟩ := hr.rows B t e cs hb
    exact (Array.getElem?_eq_some_iff.1 hw).1
  | map es =>
    obtain ⟨_, _, E, cl, hw, _⟩ := hr.maps B es hb
    exact (Array.getElem?_eq_some_iff.1 hw).1

/-- A change of the world that leaves the blocks of the heap alone. -/
theorem HR.world (hr : HR base w0 φ h w) {w' : World} (hb : RowKit.Below base w w') (hs : base ≤ w'.heap.size) (hk : ∀ B b, h.get B = some b → w'.heap[(φ B).blk]? = w.heap[(φ B).blk]?) (hf : ∀ b C, φ.fz b = some C → w'.heap[b]? = w.heap[b]?) : HR base w0 φ h w' where
  below := hr.below.trans hb
  bs := hs
  lt := hr.lt
  rows := fun B t e cs hB => by rw [hk B _ hB]; exact hr.rows B t e cs hB
  wr := fun B t e cs hro hB => by rw [hk B _ hB]; exact hr.wr B t e cs hro hB
  maps := fun B es hB => by rw [hk B _ hB]; exact hr.maps B es hB
  old := hr.old
  inj := hr.inj
  ron := hr.ron
  frz := fun b C hb => by rw [hf b C hb]; exact hr.frz b C hb
theorem HR.drew (hr : HR base w0 φ h w) : HR base w0 φ h w.drew :=
  hr.world (RowKit.Below.drew (RowKit.Below.refl _ _)) hr.bs (fun _ _ _ => rfl) fun _ _ _ => rfl
theorem HR.drawn (hr : HR base w0 φ h w) : HR base w0 φ h { w with drawn := w.drawn + 1 } := hr.drew

/-- A new block. -/
def ext (φ : Phi) (n : Nat) (l : Loc) : Phi := ⟨fun B => if B = n then l else φ B, φ.fz⟩
theorem ext_same (φ : Phi) (n : Nat) (l : Loc) : ext φ n l n = l := by simp [ext]
theorem ext_other (φ : Phi) (n : Nat) (l : Loc) {B : Nat} (hB : B < n) : ext φ n l B = φ B := by simp [ext, Nat.ne_of_lt hB]
theorem ext_agr (φ : Phi) (n : Nat) (l : Loc) : Agr n φ (ext φ n l) := ⟨fun B hB => ext_other φ n l hB, fun _ _ h => h⟩
theorem HR.fzb (hr : HR base w0 φ h w) {b : Nat} {C : Array Value} (hb : φ.fz b = some C) : b < w.heap.size := by
  obtain ⟨⟨t, fr, hw⟩, _⟩ := hr.frz b C hb
  exact (Array.getElem?_eq_some_iff.1 hw).1


theorem HR.newRow (hr : HR base w0 φ h w) {t : TypeId} {e : Nat} {cs us : List Value} {c : Array Value} (hv : VRL φ h.next cs us) (h1 : ∀ u ∈ us, u.oneCell' = true) (hc : ∀ (i : Nat) (u : Value), us[i]? = some u → c[i]? = some u) :
    HR base w0 (ext φ h.next ⟨w.heap.size, 0, c.size, e⟩) (h.new (.row t e cs)) (w.alloc (.cells c t)) := by
  have hag := ext_agr φ h.next ⟨w.heap.size, 0, c.size, e⟩
  have hoth : ∀ B b, h.get B = some b → ext φ h.next ⟨w.heap.size, 0, c.size, e⟩ B = φ B := fun B b hB => hag B (hr.lt B b hB)
  have hold : ∀ B b, h.get B = some b → (w.alloc (.cells c t)).heap[(φ B).blk]? = w.heap[(φ B).blk]? := fun B b hB => heap_alloc_old w _ _ (hr.blk_lt hB)
  have hne : h.get h.next = none := by
    cases hg : h.get h.next with
    | none => rfl
    | some b => exact absurd (hr.lt _ _ hg) (Nat.lt_irrefl _)
  refine ⟨(hr.below.alloc hr.bs _ : RowKit.Below _ _ _), by simp; have := hr.bs; omega, ?_, ?_, ?_, ?_, ?_, ?_, by have := hr.ron; simp; omega, fun b C hb => ⟨by rw [heap_alloc_old w _ _ (hr.fzb hb)]; exact (hr.frz b C hb).1, fun B bl hroB hB => by
      rw [AH.get_new] at hB
      split at hB
      · rename_i e1; subst e1; have := hr.fzb hb; rw [ext_same]; simp; omega
      · rw [hoth B _ hB]; exact (hr.frz b C hb).2 B bl hroB hB⟩⟩
  · intro B b hB
    rw [AH.get_new] at hB
    simp only [AH.next_new]
    split at hB
    · omega
    · have := hr.lt B b hB; omega
  · intro B t' e' cs' hB
    rw [AH.get_new] at hB
    split at hB
    · rename_i hBn
      subst hBn
      cases hB
      rw [ext_same]
      refine ⟨rfl, c, t, (0, 0), heap_alloc_new w _, fun i v hi => ?_⟩
      obtain ⟨u, hu, hvr⟩ := hv.get hi
      exact ⟨u, by simpa using hc i u hu, hvr.mono hag (by simp), h1 u (List.mem_of_getElem? hu)⟩
    · rw [hoth B _ hB, hold B _ hB]
      obtain ⟨he, c', t'', fr, hw, hcell⟩ := hr.rows B t' e' cs' hB
      refine ⟨he, c', t'', fr, hw, fun i v hi => ?_⟩
      obtain ⟨u, h2, h3, h4⟩ := hcell i v hi
      exact ⟨u, h2, h3.mono hag (by simp), h4⟩
  · intro B t' e' cs' hro hB
    rw [AH.get_new] at hB
    split at hB
    · rename_i hBn
      subst hBn
      cases hB
      rw [ext_same]
      exact ⟨hr.bs, rfl, c, heap_alloc_new w _, rfl⟩
    · rw [hoth B _ hB, hold B _ hB]
      exact hr.wr B t' e' cs' hro hB
  · intro B es hB
    rw [AH.get_new] at hB
    split at hB
    · cases hB
    · rw [hoth B _ hB, hold B _ hB]
      obtain ⟨a1, a2, E, cl, hw, hs, hcell⟩ := hr.maps B es hB
      refine ⟨a1, a2, E, cl, hw, hs, fun i k v hi => ?_⟩
      obtain ⟨x, h2, h3, h4⟩ := hcell i k v hi
      exact ⟨x, h2, h3, h4.mono hag (by simp)⟩
  · intro B t' e' cs' hro hB
    rw [AH.get_new] at hB
    simp only [AH.ro_new] at hro
    split at hB
    · rename_i hBn
      have := hr.ron
      omega
    · rw [hoth B _ hB]
      exact hr.old B t' e' cs' hro hB
  · intro B C b b' hro1 hro2 hB hC heq
    rw [AH.get_new] at hB hC
    split at hB <;> split at hC
    · omega
    · rename_i hBn _
      subst hBn
      rw [ext_same, hoth C _ hC] at heq
      have := hr.blk_lt hC
      simp at heq
      omega
    · rename_i _ hCn
      subst hCn
      rw [ext_same, hoth B _ hB] at heq
      have := hr.blk_lt hB
      simp at heq
      omega
    · rw [hoth B _ hB, hoth C _ hC] at heq
      exact hr.inj B C b b' hro1 hro2 hB hC heq
theorem HR.newMap (hr : HR base w0 φ h w) : HR base w0 (ext φ h.next ⟨w.heap.size, 0, 0, 0⟩) (h.new (.map [])) (w.alloc (.map #[] 0)) := by
  have hag := ext_agr φ h.next ⟨w.heap.size, 0, 0, 0⟩
  have hoth : ∀ B b, h.get B = some b → ext φ h.next ⟨w.heap.size, 0, 0, 0⟩ B = φ B := fun B b hB => hag B (hr.lt B b hB)
  have hold : ∀ B b, h.get B = some b → (w.alloc (.map #[] 0)).heap[(φ B).blk]? = w.heap[(φ B).blk]? := fun B b hB => heap_alloc_old w _ _ (hr.blk_lt hB)
  refine ⟨(hr.below.alloc hr.bs _ : RowKit.Below _ _ _), by simp; have := hr.bs; omega, ?_, ?_, ?_, ?_, ?_, ?_, by have := hr.ron; simp; omega, fun b C hb => ⟨by rw [heap_alloc_old w _ _ (hr.fzb hb)]; exact (hr.frz b C hb).1, fun B bl hroB hB => by
      rw [AH.get_new] at hB
      split at hB
      · rename_i e1; subst e1; have := hr.fzb hb; rw [ext_same]; simp; omega
      · rw [hoth B _ hB]; exact (hr.frz b C hb).2 B bl hroB hB⟩⟩
  · intro B b hB
    rw [AH.get_new] at hB
    simp only [AH.next_new]
    split at hB
    · omega
    · have := hr.lt B b hB; omega
  · intro B t' e' cs' hB
    rw [AH.get_new] at hB
    split at hB
    · cases hB
    · rw [hoth B _ hB, hold B _ hB]
      obtain ⟨he, c', t'', fr, hw, hcell⟩ := hr.rows B t' e' cs' hB
      refine ⟨he, c', t'', fr, hw, fun i v hi => ?_⟩
      obtain ⟨u, h2, h3, h4⟩ := hcell i v hi
      exact ⟨u, h2, h3.mono hag (by simp), h4⟩
  · intro B t' e' cs' hro hB
    rw [AH.get_new] at hB
    split at hB
    · cases hB
    · rw [hoth B _ hB, hold B _ hB]
      exact hr.wr B t' e' cs' hro hB
  · intro B es hB
    rw [AH.get_new] at hB
    split at hB
    · rename_i hBn
      subst hBn
      cases hB
      rw [ext_same]
      exact ⟨fun _ => hr.bs, fun hlt => absurd hlt (Nat.not_lt.2 hr.ron), #[], 0, heap_alloc_new w _, ⟨rfl, by simp, by simp⟩, fun i k v hi => by simp at hi⟩
    · rw [hoth B _ hB, hold B _ hB]
      obtain ⟨a1, a2, E, cl, hw, hs, hcell⟩ := hr.maps B es hB
      refine ⟨a1, a2, E, cl, hw, hs, fun i k v hi => ?_⟩
      obtain ⟨x, h2, h3, h4⟩ := hcell i k v hi
      exact ⟨x, h2, h3, h4.mono hag (by simp)⟩
  · intro B t' e' cs' hro hB
    rw [AH.get_new] at hB
    simp only [AH.ro_new] at hro
    split at hB
    · cases hB
    · rw [hoth B _ hB]
      exact hr.old B t' e' cs' hro hB
  · intro B C b b' hro1 hro2 hB hC heq
    rw [AH.get_new] at hB hC
    split at hB <;> split at hC
    · omega
    · rename_i hBn _
      subst hBn
      rw [ext_same, hoth C _ hC] at heq
      have := hr.blk_lt hC
      simp at heq
      omega
    · rename_i _ hCn
      subst hCn
      rw [ext_same, hoth B _ hB] at heq
      have := hr.blk_lt hB
      simp at heq
      omega
    · rw [hoth B _ hB, hoth C _ hC] at heq
      exact hr.inj B C b b' hro1 hro2 hB hC heq
/-- A block is written. -/
theorem HR.putRow (hr : HR base w0 φ h w) {B : Nat} {t : TypeId} {e : Nat} {cs cs' us : List Value} {c' : Array Value} {w' : World} (hro : h.ro ≤ B) (hB : h.get B = some (.row t e cs)) (hv : VRL φ h.next cs' us) (h1 : ∀ u ∈ us, u.oneCell' = true) (hc : ∀ (i : Nat) (u : Value), us[i]? = some u → c'[i]? = some u)
    (hw : w'.heap[(φ B).blk]? = some (.cells c' t (0, 0))) (hsz : c'.size = (φ B).room) (hoth : ∀ k, k ≠ (φ B).blk → w'.heap[k]? = w.heap[k]?) (hos : w'.os = w.os) (htp : w'.tape = w.tape) (hout : w'.output = w.output) (hs : w'.heap.size = w.heap.size) :
    HR base w0 φ (h.put B (some (.row t e cs'))) w' := by
  have hwB := hr.wr B t e cs hro hB
  have hkeep : ∀ C b, C ≠ B → h.get C = some b → w'.heap[(φ C).blk]? = w.heap[(φ C).blk]? := by
    intro C b hne hC
    refine hoth _ fun heq => ?_
    rcases Nat.lt_or_ge C h.ro with hlt | hge
    · cases b with
      | row t2 e2 cs2 => have := hr.old C t2 e2 cs2 hlt hC; omega
      | map es => have := (hr.maps C es hC).2.1 hlt; omega
    · exact hne (hr.inj C B b _ hge hro hC hB heq)
  refine ⟨hr.below.trans ⟨hos, htp, hout, by omega, fun k hk => hoth k (by omega)⟩, by have := hr.bs; omega, ?_, ?_, ?_, ?_, ?_, ?_, hr.ron, fun b C hb => ⟨by rw [hoth b (Ne.symm ((hr.frz b C hb).2 B _ hro hB))]; exact (hr.frz b C hb).1, fun D bl hroD hD => by
      rw [AH.get_put] at hD
      split at hD
      · rename_i e1; subst e1; exact (hr.frz b C hb).2 D _ hroD hB
      · exact (hr.frz b C hb).2 D bl hroD hD⟩⟩
  · intro C b hC
    rw [AH.get_put] at hC
    split at hC
    · rename_i e1; subst e1; exact hr.lt _ _ hB
    · exact hr.lt C b hC
  · intro C t2 e2 cs2 hC
    rw [AH.get_put] at hC
    split at hC
    · rename_i e1
      subst e1
      cases hC
      refine ⟨(hr.rows C _ _ cs hB).1, c', _, (0, 0), hw, fun i v hi => ?_⟩
      obtain ⟨u, hu, hvr⟩ := hv.get hi
      exact ⟨u, by rw [hwB.2.1]; simpa using hc i u hu, hvr, h1 u (List.mem_of_getElem? hu)⟩
    · rename_i e1
      rw [hkeep C _ e1 hC]
      exact hr.rows C t2 e2 cs2 hC
  · intro C t2 e2 cs2 hro2 hC
    rw [AH.get_put] at hC
    split at hC
    · rename_i e1
      subst e1
      cases hC
      exact ⟨hwB.1, hwB.2.1, c', hw, hsz⟩
    · rename_i e1
      rw [hkeep C _ e1 hC]
      exact hr.wr C t2 e2 cs2 hro2 hC
  · intro C es hC
    rw [AH.get_put] at hC
    split at hC
    · cases hC
    · rename_i e1
      rw [hkeep C _ e1 hC]
      exact hr.maps C es hC
  · intro C t2 e2 cs2 hro2 hC
    rw [AH.get_put] at hC
    split at hC
    · rename_i e1
      subst e1
      simp at hro2
      omega
    · exact hr.old C t2 e2 cs2 hro2 hC
  · intro C D b b' hro1 hro2 hC hD heq
    rw [AH.get_put] at hC hD
    split at hC <;> split at hD
    · omega
    · rename_i e1 e2
      subst e1
      exact hr.inj C D _ b' hro1 hro2 hB hD heq
    · rename_i e1 e2
      subst e2
      exact hr.inj C D b _ hro1 hro2 hC hB heq
    · exact hr.inj C D b b' hro1 hro2 hC hD heq
theorem HR.putMap (hr : HR base w0 φ h w) {B : Nat} {es es' : List (Value × Value)} {E : Array MapEntry} {cl : Nat} {w' : World} (hro : h.ro ≤ B) (hB : h.get B = some (.map es))
    (hw : w'.heap[(φ B).blk]? = some (.map E cl)) (hsz : SzB E cl es'.length) (hcell : ∀ (i : Nat) (k v : Value), es'[i]? = some (k, v) → ∃ e : MapEntry, E[i]? = some e ∧ e.key = k ∧ VR φ h.next v e.val)
    (hoth : ∀ k, k ≠ (φ B).blk → w'.heap[k]? = w.heap[k]?) (hos : w'.os = w.os) (htp : w'.tape = w.tape) (hout : w'.output = w.output) (hs : w'.heap.size = w.heap.size) :
    HR base w0 φ (h.put B (some (.map es'))) w' := by
  have hmB := hr.maps B es hB
  have hbB := hmB.1 hro
  have hkeep : ∀ C b, C ≠ B → h.get C = some b → w'.heap[(φ C).blk]? = w.heap[(φ C).blk]? := by
    intro C b hne hC
    refine hoth _ fun heq => ?_
    rcases Nat.lt_or_ge C h.ro with hlt | hge
    · cases b with
      | row t2 e2 cs2 => have := hr.old C t2 e2 cs2 hlt hC; omega
      | map es => have := (hr.maps C es hC).2.1 hlt; omega
    · exact hne (hr.inj C B b _ hge hro hC hB heq)
  refine ⟨hr.below.trans ⟨hos, htp, hout, by omega, fun k hk => hoth k (by omega)⟩, by have := hr.bs; omega, ?_, ?_, ?_, ?_, ?_, ?_, hr.ron, fun b C hb => ⟨by rw [hoth b (Ne.symm ((hr.frz b C hb).2 B _ hro hB))]; exact (hr.frz b C hb).1, fun D bl hroD hD => by
      rw [AH.get_put] at hD
      split at hD
      · rename_i e1; subst e1; exact (hr.frz b C hb).2 D _ hroD hB
      · exact (hr.frz b C hb).2 D bl hroD hD⟩⟩
  · intro C b hC
    rw [AH.get_put] at hC
    split at hC
    · rename_i e1; subst e1; exact hr.lt _ _ hB
    · exact hr.lt C b hC
  · intro C t2 e2 cs2 hC
    rw [AH.get_put] at hC
    split at hC
    · cases hC
    · rename_i e1
      rw [hkeep C _ e1 hC]
      exact hr.rows C t2 e2 cs2 hC
  · intro C t2 e2 cs2 hro2 hC
    rw [AH.get_put] at hC
    split at hC
    · cases hC
    · rename_i e1
      rw [hkeep C _ e1 hC]
      exact hr.wr C t2 e2 cs2 hro2 hC
  · intro C es2 hC
    rw [AH.get_put] at hC
    split at hC
    · rename_i e1
      subst e1
      cases hC
      exact ⟨fun _ => hbB, fun hlt => absurd hro (Nat.not_le.2 hlt), E, cl, hw, hsz, hcell⟩
    · rename_i e1
      rw [hkeep C _ e1 hC]
      exact hr.maps C es2 hC
  · intro C t2 e2 cs2 hro2 hC
    rw [AH.get_put] at hC
    split at hC
    · cases hC
    · exact hr.old C t2 e2 cs2 hro2 hC
  · intro C D b b' hro1 hro2 hC hD heq
    rw [AH.get_put] at hC hD
    split at hC <;> split at hD
    · omega
    · rename_i e1 e2
      subst e1
      exact hr.inj C D _ b' hro1 hro2 hB hD heq
    · rename_i e1 e2
      subst e2
      exact hr.inj C D b _ hro1 hro2 hC hB heq
    · exact hr.inj C D b b' hro1 hro2 hC hD heq
/-- A block is forgotten. -/
theorem HR.drop (hr : HR base w0 φ h w) (B : Nat) : HR base w0 φ (h.put B none) w := by
  have hg : ∀ C b, (h.put B none).get C = some b → h.get C = some b := by
    intro C b hC
    rw [AH.get_put] at hC
    split at hC
    · cases hC
    · exact hC
  exact ⟨hr.below, hr.bs, fun C b hC => hr.lt C b (hg C b hC), fun C t e cs hC => hr.rows C t e cs (hg C _ hC), fun C t e cs hro hC => hr.wr C t e cs hro (hg C _ hC), fun C es hC => hr.maps C es (hg C _ hC),
    fun C t e cs hro hC => hr.old C t e cs hro (hg C _ hC), fun C D b b' h1 h2 hC hD heq => hr.inj C D b b' h1 h2 (hg _ _ hC) (hg _ _ hD) heq, hr.ron, fun b C hb => ⟨(hr.frz b C hb).1, fun D bl hroD hD => (hr.frz b C hb).2 D bl hroD (hg _ _ hD)⟩⟩
end
end Go.Proofs.Ythofdojknjhpgaa
