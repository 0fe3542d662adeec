/- Own texts, merged: a part of the proof that is told in the last text of this claim. -/
import Derived.Test.YthofdojknjhpgaaLawPUI
import Derived.Test.YthofdojknjhpgaaLawPUJ
set_option linter.unnecessarySimpa false
set_option linter.unusedSectionVars false
set_option linter.defProp false
set_option linter.unusedVariables false
set_option linter.unusedSimpArgs false
namespace Go.Proofs.Ythofdojknjhpgaa
open Go
instance : Enc (Int × Int) where
  w := 2
  cells x := [.int .i64 x.1, .int .i64 x.2]
  bd _ := True
  len _ := rfl
  pos := by decide
  one _ := rfl
  cl a v hv := by
    simp only [List.mem_cons, List.not_mem_nil, or_false] at hv
    rcases hv with rfl | rfl <;> exact Cl.int
  vbd _ _ _ _ _ := trivial
theorem F_refs (zs : List (Int × Int)) : F zs = flat zs := by
  induction zs with
  | nil => rfl
  | cons x l ih => rw [F_cons, ih]; rfl
theorem F_refs_int {zs : List (Int × Int)} : ∀ v ∈ F zs, ∃ x, v = .int .i64 x := by
  intro v hv
  rw [F_refs, flat, List.mem_flatMap] at hv
  obtain ⟨x, _, hx⟩ := hv
  simp only [List.mem_cons, List.not_mem_nil, or_false] at hx
  rcases hx with rfl | rfl <;> exact ⟨_, rfl⟩
theorem vr_yield {φ : Phi} {n l : Nat} {xs ws : Array Value} {c : Value} (h : VR φ n (.func (.yield l) xs ws) c) : (l = 0 ∧ ∃ a k, c = .slice a 0 k) ∨ ∃ (k b o : Nat) (ys C : Array Value), c = .slice (some ⟨b, o, none⟩) l k ∧ φ.fz b = some C ∧ xs.size = ys.size ∧ (∀ i (h1 : i < xs.size) (h2 : i < ys.size), VR φ n xs[i] ys[i]) ∧ ∀ (i : Nat) (u : Value), ys[i]? = some u → C[o + i]? = some u := by
  cases h with
  | fz0 c hc =>
    left
    rcases hc with rfl | ⟨a, k, rfl⟩
    · exact ⟨rfl, none, 0, rfl⟩
    · exact ⟨rfl, some a, k, rfl⟩
  | fz l k b o xs ys C h0 h1 h2 h3 h4 h5 h6 => exact .inr ⟨k, b, o, ys, C, rfl, h2, h3, h4, h6⟩
theorem vr_refs {base : Nat} {w0 w : World} {φ : Phi} {h : AH} (hr : HR base w0 φ h w) {zs : List (Int × Int)} {u : Value} (hu : VR φ h.next (L zs) u) : RefsAt w.heap.size w u zs := by
  rcases vr_yield hu with ⟨h0, a, k, rfl⟩ | ⟨k, b, o, ys, C, rfl, h2, h3, h4, h5⟩
  · exact .inl ⟨⟨a, k, rfl⟩, List.eq_nil_of_length_eq_zero h0⟩
  · obtain ⟨⟨t, fr, hw⟩, _⟩ := hr.frz b C h2
    refine .inr ⟨b, o, k, rfl, (Array.getElem?_eq_some_iff.1 hw).1, fun j hj => ?_⟩
    have hlen : (F zs).length = zs.length * 2 := F_len
    have hsz : (F zs).toArray.size = zs.length * 2 := by simpa using hlen
    have key : ∀ (o' : Nat) (x : Int), o' < 2 → (F zs)[j * 2 + o']? = some (.int .i64 x) → w.cell? ⟨b, o + j * 2 + o', none⟩ = some (.int .i64 x) := by
      intro o' x ho hv
      have hi : j * 2 + o' < (F zs).toArray.size := by omega
      have hi2 : j * 2 + o' < ys.size := by omega
      have q := h4 (j * 2 + o') hi hi2
      have e1 : (F zs).toArray[j * 2 + o'] = .int .i64 x := by
        have := List.getElem?_eq_some_iff.1 hv
        simpa using this.2
      rw [e1] at q
      have e2 : ys[j * 2 + o'] = .int .i64 x := by
        revert q
        generalize ys[j * 2 + o'] = z
        intro q
        cases q; rfl
      have := h5 (j * 2 + o') (.int .i64 x) (by rw [← e2]; simp [hi2])
      rw [← Nat.add_assoc] at this
      simp [World.cell?, hw, this]
    have hg : ∀ o', o' < 2 → (F zs)[j * 2 + o']? = (Enc.cells (rd zs j))[o']? := fun o' ho => F_get (α := Int × Int) hj ho
    have hrd : zs[j]?.getD (0, 0) = rd zs j := by rw [List.getElem?_eq_getElem hj, rd_eq hj]; rfl
    rw [hrd]
    exact ⟨key 0 _ (by decide) (hg 0 (by decide)), key 1 _ (by decide) (hg 1 (by decide))⟩
section
variable {h : AH} {B : Nat} {t : TypeId} {zs : List (Int × Int)}
theorem f113_ok (hB : h.get B = some (.row t 0 [L zs])) (hro : h.ro ≤ B) (hl : zs.length * 16 ≤ 140737488351232) :
    AC Try.prog 113 [.slice none 0 0, .func (.func 99) #[] #[.pointer (some ⟨B, 0, none⟩)]] h (if zs = [] then .slice none 0 0 else .slice (some ⟨h.next, 0, none⟩) zs.length zs.length) (if zs = [] then h else h.new (.row 48 2 (F zs))) := by
  intro base w0 φ cargs w hr hv
  obtain ⟨hlen, hvv⟩ := hv
  obtain ⟨c0, c1, rfl⟩ : ∃ c0 c1, cargs = #[c0, c1] := by
    have : cargs.size = 2 := by simpa using hlen.symm
    exact ⟨cargs[0], cargs[1], by apply Array.ext <;> simp [this]; intro i h1; match i with | 0 => simp | 1 => simp | i + 2 => omega⟩
  have v0 := hvv 0 _ c0 rfl rfl
  have v1 := hvv 1 _ c1 rfl rfl
  have e0 : c0 = .slice none 0 0 := by cases v0; rfl
  subst e0
  obtain ⟨hbase, hrb, c, hw, hcs⟩ := hr.wr B _ _ _ hro hB
  obtain ⟨hesz, c', t', fr', hw', hcell⟩ := hr.rows B _ _ _ hB
  rw [hw] at hw'
  cases hw'
  obtain ⟨u, hu, hvu, _⟩ := hcell 0 _ rfl
  rw [hrb, Nat.zero_add] at hu
  have e1 : c1 = .func (.func 99) #[] #[.pointer (some ⟨(φ B).blk, 0, none⟩)] := by
    cases v1 with
    | func f xs ys cs ds s1 s2 s3 s4 =>
      have y0 : ys = #[] := by
        apply Array.eq_empty_of_size_eq_zero
        simpa using s1.symm
      have d1 : ds.size = 1 := by simpa using s3.symm
      have q1 := s4 0 (by simp) (by omega)
      simp only [List.getElem_toArray, List.getElem_cons_zero] at q1
      subst y0
      have d2 : ds = #[ds[0]] := by apply Array.ext <;> simp [d1]; intro i h1; match i with | 0 => rfl | i + 1 => omega
      have d3 : ds[0] = .pointer (some ⟨(φ B).blk, 0, none⟩) := by
        revert q1
        generalize ds[0] = z
        intro q1
        cases q1 with
        | ptr B' o' hlt => rw [hrb]
      rw [d2, d3]
  subst e1
  have hBs := (Array.getElem?_eq_some_iff.1 hw).1
  have hcl : w.cell? ⟨(φ B).blk, 0, none⟩ = some u := by simp [World.cell?, hw, hu]
  have hc := callsIn_wide.1 (appendSeq_in Fence.wide 3 trivial trivial rfl (Nat.le_refl _) (φ B).blk u zs hl w hBs hcl (vr_refs hr hvu))
  refine hc.mono ?_
  rintro e W' ⟨v, rfl, hown, hnil, hbel⟩
  have hblk : ∀ C b, h.get C = some b → (φ C).blk < w.heap.size := by
    intro C b hC
    cases b with
    | row t e cs =>
      obtain ⟨_, c, t', fr, hw, _⟩ := hr.rows C t e cs hC
      exact (Array.getElem?_eq_some_iff.1 hw).1
    | map es =>
      obtain ⟨_, _, E, cl, hw, _⟩ := hr.maps C es hC
      exact (Array.getElem?_eq_some_iff.1 hw).1
  have hr2 : HR base w0 φ h W' := hr.world (hbel.mono hr.bs) (Nat.le_trans hr.bs hbel.size) (fun C b hC => hbel.block _ ?_) (fun b C hb => hbel.block _ (hr.fzb hb))
  · by_cases hz : zs = []
    · rw [if_pos hz, if_pos hz]
      obtain rfl := hnil.2 hz
      exact ⟨_, φ, rfl, Agr.refl _ _, Nat.le_refl _, .slice0, hr2⟩
    · rw [if_neg hz, if_neg hz]
      rcases hown.2 with ⟨hv', _⟩ | ⟨g, cap, cur, rfl, hg, hgb, hk1, hk2, hk3, hk4⟩
      · exact absurd (hnil.1 hv') hz
      have hr3 := hr2.adopt (e := 2) (cs := F zs) (us := F zs) (c := cur) (Nat.le_trans hr.bs hg) hgb (fun C b hroC hC e => ?_) (fun C hb => ?_) ⟨rfl, fun i v c h1 h2 => ?_⟩ ?_ ?_
      · refine ⟨_, _, rfl, ext_agr φ h.next _, Nat.le_succ _, ?_, hr3⟩
        refine VR.slice h.next 0 _ cap _ (by simp) hk1 fun _ => ⟨by simp [ext], by simp [ext]; omega⟩
      · have := hblk C b hC; omega
      · have := hr.fzb hb; omega
      · rw [h1] at h2; cases h2
        obtain ⟨x, rfl⟩ := F_refs_int v (List.mem_of_getElem? h1)
        exact .int _ _
      · intro u hu
        obtain ⟨x, rfl⟩ := F_refs_int u hu
        rfl
      · intro i u hi
        rw [F_refs, ← hk4, List.getElem?_take] at hi
        split at hi
        · simpa using hi
        · cases hi
  · exact hblk C b hC
end
end Go.Proofs.Ythofdojknjhpgaa
