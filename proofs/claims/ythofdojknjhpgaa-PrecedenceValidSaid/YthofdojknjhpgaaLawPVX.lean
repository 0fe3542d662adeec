/- Own texts, merged: a part of the proof that is told in the last text of this claim. -/
import Derived.Test.YthofdojknjhpgaaLawPVW
import Derived.ChangeArms
import Derived.ChangeSame
set_option linter.unusedVariables false
set_option linter.unusedSimpArgs false
namespace Go.Proofs.Ythofdojknjhpgaa
open Go Go.RowKit Go.ChangeShapes Go.WideShapes Go.ChangeAt
/-- Whatever is handed in at type t stands for a value of the kind. -/
structure Opn {α : Type} [Enc α] (P : Program) (t : TypeId) (Q : α → Prop) : Prop where
  w : P.cellsOf t = Enc.w α
  op : ∀ (H : Type) (enc : TypeId × Value → H) (W : World) (sp : Nat → Bool) (held : Bool) (fuel : Nat) (cs : List Value) (x : DataW H × List MemPlace), DataW.trod enc P W 0 sp held fuel t cs = some x → (∀ m ∈ x.1.weights P t, m ≤ reachBytes) → ∃ a : α, Q a ∧ ∀ n, VRL (phiW W) n (Enc.cells a) cs
theorem vrl_one {φ : Phi} {n : Nat} {v c : Value} (h : VR φ n v c) : VRL φ n [v] [c] := ⟨rfl, fun i a b h1 h2 => by
  cases i with
  | zero => simp at h1 h2; subst h1; subst h2; exact h
  | succ i => simp at h1⟩
section
variable {P : Program} {t e : TypeId}
theorem Opn.int (ht : P.underlying t = some (.int .i64)) (hw : P.cellsOf t = 1) : Opn (α := Int) P t I64 where
  w := hw
  op H enc W sp held fuel cs x h _ := by
    obtain ⟨n, rfl, rfl, hn⟩ := DataW.trod_int ht h
    exact ⟨n, wf_i64 hn, fun m => vrl_one (.int _ _)⟩
theorem exists_list {α : Type} {R : Nat → α → Prop} : ∀ (n : Nat), (∀ i, i < n → ∃ a, R i a) → ∃ xs : List α, xs.length = n ∧ ∀ (i : Nat) (h : i < xs.length), R i xs[i]
  | 0, _ => ⟨[], rfl, fun i h => by simp at h⟩
  | n + 1, h => by
    obtain ⟨xs, h1, h2⟩ := exists_list n fun i hi => h i (by omega)
    obtain ⟨a, ha⟩ := h n (by omega)
    refine ⟨xs ++ [a], by simp [h1], fun i hi => ?_⟩
    rcases Nat.lt_or_ge i n with h3 | h3
    · rw [List.getElem_append_left (by omega)]; exact h2 i (by omega)
    · obtain rfl : i = n := by simp at hi; omega
      rw [List.getElem_append_right (by omega)]
      simpa [h1] using ha
def QL {α : Type} (B : Nat) (Q : α → Prop) (xs : List α) : Prop := xs.length * B ≤ 140737488351232 ∧ ∀ x ∈ xs, Q x
theorem F_getx {α : Type} [Enc α] {xs : List α} {j : Nat} (hj : j < xs.length * Enc.w α) : ∃ (i o : Nat) (hi : i < xs.length), j = i * Enc.w α + o ∧ o < Enc.w α ∧ (F xs)[j]? = (Enc.cells xs[i])[o]? := by
  have hp := Enc.pos (α := α)
  have h1 := Nat.div_add_mod j (Enc.w α)
  have h2 := Nat.mod_lt j hp
  have hi : j / Enc.w α < xs.length := Nat.div_lt_of_lt_mul (by rw [Nat.mul_comm]; exact hj)
  have : Inhabited α := ⟨xs[j / Enc.w α]⟩
  refine ⟨j / Enc.w α, j % Enc.w α, hi, by rw [Nat.mul_comm]; omega, h2, ?_⟩
  have h3 := F_get (xs := xs) hi h2
  rw [rd_eq hi] at h3
  rw [← h3]
  congr 1
  rw [Nat.mul_comm]; omega
theorem weightsAll_mem {H : Type} {P : Program} {e : TypeId} : ∀ {ds : List (DataW H)} {d : DataW H}, d ∈ ds → ∀ m ∈ d.weights P e, m ∈ DataW.weightsAll P e ds
  | d0 :: ds, d, hd, m, hm => by
    simp only [DataW.weightsAll, List.mem_append]
    rcases List.mem_cons.1 hd with rfl | hd
    · exact .inl hm
    · exact .inr (weightsAll_mem hd m hm)
theorem Opn.list {α : Type} [Enc α] {Q : α → Prop} {B : Nat} (o : Opn P e Q) (ht : P.underlying t = some (.slice e)) (hw : P.cellsOf t = 1) (hB : P.bytesOf e = B) (hB1 : 1 ≤ B) : Opn (α := List α) P t (QL B Q) where
  w := hw
  op H enc W sp held fuel cs x h hsz := by
    rcases DataW.trod_slice ht h with ⟨rfl, rfl⟩ | ⟨a, len, cap, elems, rest, n, rfl, rfl, rfl, hb, hl, hm, hlen, hel, _, _⟩
    · exact ⟨[], ⟨by simp, by simp⟩, fun n => vrl_one (.fz0 _ (.inl rfl))⟩
    · have hwt : (elems.length + rest.length) * B ≤ 140737488351232 := by
        have := hsz ((elems.length + rest.length) * B) (by simp [DataW.weights, ht, hB])
        exact this
      have hel2 : ∀ i, i < len → ∃ a' : α, Q a' ∧ ∃ cs', W.cells? 0 (a.add (i * Enc.w α)) (Enc.w α) = some cs' ∧ ∀ n, VRL (phiW W) n (Enc.cells a') cs' := by
        intro i hi
        have h1 := hel i hi
        have hie : i < elems.length := by omega
        rw [List.getElem?_eq_getElem hie, Option.bind_eq_some_iff] at h1
        obtain ⟨cs', h2, h3⟩ := h1
        obtain ⟨a', h4, h5⟩ := o.op H enc W sp held n cs' _ h3 fun m hm => hsz m (by
          simp only [DataW.weights, ht, List.mem_cons, List.mem_append]
          exact .inr (.inl (weightsAll_mem (List.mem_map_of_mem (List.getElem_mem hie)) m hm)))
        rw [o.w] at h2
        exact ⟨a', h4, cs', h2, h5⟩
      obtain ⟨xs, hxl, hx⟩ := exists_list len hel2
      have hlB : xs.length * B ≤ 140737488351232 := Nat.le_trans (Nat.mul_le_mul_right _ (by omega)) hwt
      have hl62 : len < 4611686018427387904 := by
        have : xs.length * 1 ≤ xs.length * B := Nat.mul_le_mul_left _ hB1
        omega
      refine ⟨xs, ⟨hlB, fun y hy => ?_⟩, fun k => vrl_one ?_⟩
      · obtain ⟨i, hi, rfl⟩ := List.getElem_of_mem hy
        exact (hx i hi).1
      rcases Nat.eq_zero_or_pos len with h0 | h0
      · subst h0
        obtain rfl : xs = [] := List.eq_nil_of_length_eq_zero hxl
        exact .fz0 _ (.inr ⟨a, cap, rfl⟩)
      · have hwp := Enc.pos (α := α)
        have hcellof : ∀ j, j < len * Enc.w α → ∃ u v, W.cell? (a.add j) = some u ∧ (F xs)[j]? = some v ∧ VR (phiW W) k v u := by
          intro j hj
          obtain ⟨i, o', hi, rfl, ho, hF⟩ := F_getx (xs := xs) (j := j) (by rw [hxl]; exact hj)
          obtain ⟨_, cs', hc, hv⟩ := hx i hi
          obtain ⟨_, hcl, hc2⟩ := World.cells?_some hc
          have hadd : (a.add (i * Enc.w α)).add o' = a.add (i * Enc.w α + o') := by
            unfold Addr.add
            by_cases e1 : i * Enc.w α = 0
            · simp [e1]
            · by_cases e2 : o' = 0
              · simp [e1, e2]
              · simp [e1, e2]; omega
          have h1 := hc2 o' ho
          rw [hadd] at h1
          have ho2 : o' < cs'.length := by omega
          rw [List.getElem?_eq_getElem ho2] at h1
          have ho3 : o' < (Enc.cells xs[i]).length := by rw [Enc.len]; exact ho
          refine ⟨_, _, h1, by rw [hF]; exact List.getElem?_eq_getElem ho3, (hv k).2 o' _ _ (List.getElem?_eq_getElem ho3) (List.getElem?_eq_getElem ho2)⟩
        obtain ⟨u0, v0, hcell, _, _⟩ := hcellof 0 (Nat.mul_pos h0 hwp)
        have hx0 : a.add 0 = a := by unfold Addr.add; rw [if_pos rfl]
        have s1 : a.spot = none := by
          rw [hx0] at hcell
          unfold World.cell? at hcell
          split at hcell
          · split at hcell
            · cases hcell
            · rename_i hs; cases hq : a.spot <;> simp_all
          · cases hcell
        have hadd : ∀ i, a.add i = ⟨a.block, a.off + i, none⟩ := by
          intro i
          unfold Addr.add; split
          · rename_i h0; subst h0; cases a; simp at s1 ⊢; exact s1
          · rfl
        rw [hadd 0] at hcell
        obtain ⟨C, tt, fr, hbk⟩ : ∃ C t fr, W.heap[a.block]? = some (.cells C t fr) := by
          unfold World.cell? at hcell
          split at hcell
          · rename_i c t fr hq; exact ⟨c, t, fr, hq⟩
          · cases hcell
        have hxa : a = ⟨a.block, a.off, none⟩ := by cases a; simp at s1 ⊢; exact s1
        have hC : ∀ j, j < len * Enc.w α → ∃ u v, C[a.off + j]? = some u ∧ (F xs)[j]? = some v ∧ VR (phiW W) k v u := by
          intro j hj
          obtain ⟨u, v, g1, g2, g3⟩ := hcellof j hj
          rw [hadd j, cell_of_row W _ _ C tt fr hbk] at g1
          exact ⟨u, v, g1, g2, g3⟩
        have hFl : (F xs).length = len * Enc.w α := by rw [F_len, hxl]
        obtain ⟨us, hul, hus⟩ := exists_list (R := fun j u => C[a.off + j]? = some u ∧ ∃ v, (F xs)[j]? = some v ∧ VR (phiW W) k v u) (len * Enc.w α) fun j hj => by
          obtain ⟨u, v, g1, g2, g3⟩ := hC j hj
          exact ⟨u, g1, v, g2, g3⟩
        rw [hxa]
        have := VR.fz (φ := phiW W) (n := k) len cap a.block a.off (F xs).toArray us.toArray C hl62 hl (phiW_fz hbk) (by simp; omega) (fun i h1 h2 => by
          obtain ⟨_, v, g2, g3⟩ := hus i (by simpa using h2)
          have h1' : i < (F xs).length := by simpa using h1
          rw [List.getElem?_eq_getElem h1'] at g2
          cases g2
          simpa using g3) (fun u hu => by
          obtain ⟨i, hi, rfl⟩ := List.getElem_of_mem (show u ∈ us by simpa using hu)
          obtain ⟨_, v, g2, g3⟩ := hus i hi
          have ho : one v = true := List.all_eq_true.1 (F_one (xs := xs)) v (List.mem_of_getElem? g2)
          exact g3.one_ ho) (fun i u hu => by
          have hu' : us[i]? = some u := by simpa using hu
          obtain ⟨hi, rfl⟩ := List.getElem?_eq_some_iff.1 hu'
          exact (hus i hi).1)
        rw [← hxl] at this ⊢
        exact this
/-- An argument. -/
theorem Opn.arg {α : Type} [Enc α] {Q : List α → Prop} (o : Opn (α := List α) P t Q) {H : Type} {enc : TypeId × Value → H} {W : World} {sp : Nat → Bool} {held : Bool} {v : Value} {d : DataW H} {ps : List MemPlace} {ts : List TypeId} {ds : List (DataW H)} {j : Nat} (h : DataW.Trod enc P W 0 sp held t v d ps)
    (hsz : (DataW.weightsEach P ts ds).all (· ≤ reachBytes) = true) (ht : ts[j]? = some t) (hd : ds[j]? = some d) (hc : v.cells.toList = [v]) : ∃ xs : List α, Q xs ∧ ∀ n, VR (phiW W) n (L xs) v := by
  obtain ⟨fuel, hf⟩ := h
  obtain ⟨xs, h1, h2⟩ := o.op H enc W sp held fuel _ _ hf fun m hm => by
    have := List.all_eq_true.1 hsz m (DataW.weights_mem_each ht hd m hm)
    simpa using this
  refine ⟨xs, h1, fun n => (h2 n).2 0 _ v rfl ?_⟩
  rw [hc]; rfl
end
end Go.Proofs.Ythofdojknjhpgaa
