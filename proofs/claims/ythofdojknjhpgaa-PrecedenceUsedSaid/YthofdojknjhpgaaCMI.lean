/- Own texts, merged: a part of the proof that is told in the last text of this claim. -/
import Derived.Test.YthofdojknjhpgaaCMH
set_option linter.unusedVariables false
set_option linter.unusedSimpArgs false
namespace Go.Proofs.Ythofdojknjhpgaa
open Go

section
variable {P : Program} {base : Nat} {w0 : World} {φ : Phi} {h : AH} {w : World} {T : Tm} {a : Act}

def ML (φ : Phi) (n : Nat) (es : List (Value × Value)) (E : List MapEntry) : Prop := E.length = es.length ∧ ∀ (i : Nat) (k v : Value), es[i]? = some (k, v) → ∃ e : MapEntry, E[i]? = some e ∧ e.key = k ∧ VR φ n v e.val
theorem HR.ml (hr : HR base w0 φ h w) {B : Nat} {es : List (Value × Value)} (hB : h.get B = some (.map es)) : ∃ E cl, w.heap[(φ B).blk]? = some (.map E cl) ∧ ML φ h.next es E.toList := by
  obtain ⟨_, _, E, cl, hw, hs, hc⟩ := hr.maps B es hB
  exact ⟨E, cl, hw, by simpa using hs.1, fun i k v hi => by simpa using hc i k v hi⟩
theorem HR.born (hr : HR base w0 φ h w) {B : Nat} {es : List (Value × Value)} (hB : h.get B = some (.map es)) {E : Array MapEntry} {cl : Nat} (hw : w.heap[(φ B).blk]? = some (.map E cl)) : (∀ x ∈ E.toList, x.born < cl) ∧ (E.toList.map (·.born)).Nodup := by
  obtain ⟨_, _, E', cl', hw', hs, hc⟩ := hr.maps B es hB
  rw [hw] at hw'; cases hw'; exact hs.2
theorem ML.tail {n : Nat} {p : Value × Value} {es : List (Value × Value)} {e : MapEntry} {E : List MapEntry} (hm : ML φ n (p :: es) (e :: E)) : e.key = p.1 ∧ VR φ n p.2 e.val ∧ ML φ n es E := by
  obtain ⟨e', h1, h2, h3⟩ := hm.2 0 p.1 p.2 rfl
  simp at h1
  subst h1
  exact ⟨h2, h3, by have := hm.1; simpa using this, fun i k v hi => by simpa using hm.2 (i + 1) k v (by simpa using hi)⟩
theorem same_veq {g : Nat} {t : TypeId} {d : TypeDesc} {k k' : Value} {b : Bool} (hg : simpleT P t = g) (hd : P.underlying t = some d) (hv : veq g k k' = some b) : Instr.sameNow d k k' = some b := by
  unfold veq at hv
  split at hv
  · split at hv
    · rename_i hh
      cases hv
      obtain ⟨k2, hk⟩ := simple_int (hg.trans hh.1)
      rw [hd] at hk
      cases hk
      simp [Instr.sameNow, hh.2]
    · cases hv
  · split at hv
    · rename_i hh
      cases hv
      have := simple_bool (hg.trans hh)
      rw [hd] at this
      cases this
      simp [Instr.sameNow]
    · cases hv
  · split at hv
    · rename_i hh
      cases hv
      have := simple_str (hg.trans hh)
      rw [hd] at this
      cases this
      simp [Instr.sameNow, beq_toListBytes]
    · cases hv
  · cases hv
theorem find_ok {n g : Nat} {t : TypeId} {d : TypeDesc} {k : Value} (hg : simpleT P t = g) (hd : P.underlying t = some d) : ∀ (es : List (Value × Value)) (E : List MapEntry) (i : Nat) (r : Option (Nat × Value)), ML φ n es E → mfind g k es i = some r →
    (r = none ∧ Instr.findNow d k E i = some none) ∨ ∃ j v e, r = some (i + j, v) ∧ es[j]? = some ((es[j]?.map (·.1)).getD default, v) ∧ E[j]? = some e ∧ VR φ n v e.val ∧ veq g k e.key = some true ∧ Instr.findNow d k E i = some (some (i + j, e.val))
  | [], E, i, r, hm, hf => by
    simp [mfind] at hf
    have hE : E = [] := List.eq_nil_of_length_eq_zero (by simpa using hm.1)
    subst hE
    exact .inl ⟨hf.symm, by simp [Instr.findNow]⟩
  | p :: es, [], i, r, hm, hf => by have := hm.1; simp at this
  | (k', v) :: es, e :: E, i, r, hm, hf => by
    obtain ⟨h1, h2, h3⟩ := hm.tail
    simp only at h1 h2
    simp only [mfind] at hf
    split at hf
    · rename_i hv
      cases hf
      refine .inr ⟨0, v, e, rfl, rfl, rfl, h2, by rw [h1]; exact hv, ?_⟩
      simp [Instr.findNow, h1, same_veq hg hd hv]
    · rename_i hv
      rcases find_ok hg hd es E (i + 1) r h3 hf with ⟨rfl, h5⟩ | ⟨j, v', e', rfl, h5, h6, h7, h8, h9⟩
      · exact .inl ⟨rfl, by simp [Instr.findNow, h1, same_veq hg hd hv, h5]⟩
      · exact .inr ⟨j + 1, v', e', by simp; omega, by simpa using h5, by simpa using h6, h7, h8, by simp [Instr.findNow, h1, same_veq hg hd hv, h9]; omega⟩
    · cases hf
theorem r_check {b : Bool} {g : Nat} {t : TypeId} {k k' : Value} {d : TypeDesc} {r : Bool} (hg : simpleT P t = g) (hd : P.underlying t = some d) (hv : veq g k k' = some r) : (Instr.checkKey b 10000 t k).run P w = .ok () w := by
  have key : ∀ n, (Instr.checkKey b (n + 1) t k).run P w = .ok () w := by
    intro n
    unfold veq at hv
    split at hv
    · split at hv
      · rename_i hh
        obtain ⟨k2, hk⟩ := simple_int (hg.trans hh.1)
        simp [Instr.checkKey, run_underlying hk]
      · cases hv
    · split at hv
      · rename_i hh
        simp [Instr.checkKey, run_underlying (simple_bool (hg.trans hh))]
      · cases hv
    · split at hv
      · rename_i hh
        simp [Instr.checkKey, run_underlying (simple_str (hg.trans hh))]
      · cases hv
    · cases hv
  exact key 9999
theorem veq_plain {g : Nat} {k k' : Value} {b : Bool} (hv : veq g k k' = some b) {n : Nat} {c : Value} (hk : VR φ n k c) : c = k ∧ ∀ ψ m, VR ψ m k k := by
  unfold veq at hv
  split at hv
  · exact ⟨int_of hk, fun _ _ => .int _ _⟩
  · exact ⟨bool_of hk, fun _ _ => .bool _⟩
  · exact ⟨str_of hk, fun _ _ => .string _⟩
  · cases hv
theorem r_getObj {r : Nat} {o : Obj} (ho : w.heap[r]? = some o) (hc : ∀ c t f, o ≠ .cells c t f) : (getObj r).run P w = .ok o w := by
  cases o <;> first | (exact absurd rfl (hc _ _ _)) | simp [getObj, Sem.run, ho]
theorem r_setObj {r : Nat} {o o' : Obj} (ho : w.heap[r]? = some o) (hc : ∀ c t f, o ≠ .cells c t f) : (setObj r o').run P w = .ok () { w with heap := w.heap.setIfInBounds r o' } := by
  cases o <;> first | (exact absurd rfl (hc _ _ _)) | simp [setObj, Sem.run, ho]
theorem s_lk {t kt et : TypeId} {d : TypeDesc} {z m k c ck r : Value} {ok : Bool} (hr : HR base w0 φ h w) (hm : VR φ h.next m c) (hk : VR φ h.next k ck) (hu : P.underlying t = some (.map kt et)) (hd : P.underlying kt = some d) (hz : zeroV P et = some z)
    (hv : lkV h (simpleT P kt) z ok m k = some r) :
    OK base w0 φ h (((do pure (Next.value (← Instr.lookup t c ck ok))) : Sem Next).run P w) r h := by
  obtain ⟨i, hi, hz1, hz2⟩ := zeroV_some hz
  have hzp := VR.plainV (φ := φ) (n := h.next) hz2
  unfold lkV at hv
  cases m with
  | map mm =>
    cases mm with
    | none =>
      cases hm
      simp only at hv
      split at hv
      · rename_i b hb
        cases hv
        obtain ⟨rfl, _⟩ := veq_plain hb hk
        have hrun : ((do pure (Next.value (← Instr.lookup t (.map none) ck ok)) : Sem Next)).run P w = .ok (.value (bif ok then .tuple #[z, .bool false] else z)) w := by
          have hck := r_check (w := w) (b := true) rfl hd hb
          have hf : (Instr.findKey kt ck []).run P w = .ok none w := by simp [Instr.findKey, run_underlying hd, Instr.findNow]
          cases ok <;> simp [Instr.lookup, run_underlying hu, hck, hf, r_zero hi hz1]
        rw [hrun]
        cases ok
        · exact OK.pure hr hzp
        · exact OK.pure hr (VRL.pair hzp (.bool _))
      · cases hv
    | some B =>
      cases hm
      simp only at hv
      split at hv
      · rename_i es hes
        split at hv
        · rename_i b j v hb hf
          cases hv
          obtain ⟨rfl, _⟩ := veq_plain hb hk
          obtain ⟨E, cl, hw, hml⟩ := hr.ml (map_some hes)
          have hck := r_check (w := w) (b := E.isEmpty) rfl hd hb
          rcases find_ok (P := P) rfl hd es E.toList 0 _ hml hf with ⟨h1, _⟩ | ⟨j', v', e, h1, h2, h3, h4, h5, h6⟩
          · cases h1
          · cases h1
            have hf2 : (Instr.findKey kt ck E.toList).run P w = .ok (some (0 + j', e.val)) w := by simp [Instr.findKey, run_underlying hd, h6]
            have hrun : ((do pure (Next.value (← Instr.lookup t (.map (some (φ B).blk)) ck ok)) : Sem Next)).run P w = .ok (.value (bif ok then .tuple #[e.val, .bool true] else e.val)) w := by
              cases ok <;> simp [Instr.lookup, run_underlying hu, r_getObj hw, hck, hf2]
            rw [hrun]
            cases ok
            · exact OK.pure hr h4
            · exact OK.pure hr (VRL.pair h4 (.bool _))
        · rename_i b hb hf
          cases hv
          obtain ⟨rfl, _⟩ := veq_plain hb hk
          obtain ⟨E, cl, hw, hml⟩ := hr.ml (map_some hes)
          have hck := r_check (w := w) (b := E.isEmpty) rfl hd hb
          rcases find_ok (P := P) rfl hd es E.toList 0 _ hml hf with ⟨_, h1⟩ | ⟨j', v', e, h1, _⟩
          · have hf2 : (Instr.findKey kt ck E.toList).run P w = .ok none w := by simp [Instr.findKey, run_underlying hd, h1]
            have hrun : ((do pure (Next.value (← Instr.lookup t (.map (some (φ B).blk)) ck ok)) : Sem Next)).run P w = .ok (.value (bif ok then .tuple #[z, .bool false] else z)) w := by
              cases ok <;> simp [Instr.lookup, run_underlying hu, r_getObj hw, hck, hf2, r_zero hi hz1]
            rw [hrun]
            cases ok
            · exact OK.pure hr hzp
            · exact OK.pure hr (VRL.pair hzp (.bool _))
          · cases h1
        · cases hv
      · cases hv
  | _ => cases hv
theorem same_bits {g : Nat} {k k' : Value} (hv : veq g k k' = some true) : (Instr.keyThatStays k' k).run P w = .ok k w ∧ k' = k := by
  unfold veq at hv
  split at hv
  · split at hv
    · rename_i hh
      simp at hv
      obtain ⟨_, rfl⟩ := hh
      subst hv
      exact ⟨by simp [Instr.keyThatStays, Instr.sameBits], rfl⟩
    · cases hv
  · split at hv
    · simp at hv
      subst hv
      exact ⟨by simp [Instr.keyThatStays, Instr.sameBits], rfl⟩
    · cases hv
  · split at hv
    · simp at hv
      rename_i x y _
      have hxy : x = y := by
        rw [ByteArray.toList_eq, ByteArray.toList_eq] at hv
        obtain ⟨⟨x⟩⟩ := x
        obtain ⟨⟨y⟩⟩ := y
        simpa using hv
      subst hxy
      exact ⟨by simp [Instr.keyThatStays, Instr.sameBits, beq_toListBytes], rfl⟩
    · cases hv
  · cases hv
theorem s_mup {t kt et : TypeId} {d : TypeDesc} {B : Nat} {es : List (Value × Value)} {k x c ck cx : Value} {b : Bool} {q : Option (Nat × Value)} (hr : HR base w0 φ h w) (hm : VR φ h.next (.map (some B)) c) (hk : VR φ h.next k ck) (hx : VR φ h.next x cx) (hu : P.underlying t = some (.map kt et)) (hd : P.underlying kt = some d)
    (hro : h.ro ≤ B) (hes : h.map? B = some es) (hb : veq (simpleT P kt) k k = some b) (hf : mfind (simpleT P kt) k es 0 = some q) :
    OK base w0 φ h (((do Instr.mapUpdate t c ck cx; pure Next.skip) : Sem Next).run P w) (.tuple #[]) (h.put B (some (.map (match q with | some (i, _) => es.set i (k, x) | none => es ++ [(k, x)])))) := by
  cases hm
  obtain ⟨rfl, hkp⟩ := veq_plain hb hk
  obtain ⟨E, cl, hw, hml⟩ := hr.ml (map_some hes)
  have hck := r_check (w := w) (b := false) rfl hd hb
  have hlt : (φ B).blk < w.heap.size := hr.blk_lt (map_some hes)
  have hsize : E.size = es.length := by simpa using hml.1
  have hbn := hr.born (map_some hes) hw
  rcases find_ok (P := P) rfl hd es E.toList 0 _ hml hf with ⟨rfl, h1⟩ | ⟨j, v, e, rfl, h2, h3, h4, h5, h6⟩
  · have hf2 : (Instr.findKey kt ck E.toList).run P w = .ok none w := by simp [Instr.findKey, run_underlying hd, h1]
    have hrun : ((do Instr.mapUpdate t (.map (some (φ B).blk)) ck cx; pure Next.skip : Sem Next)).run P w = .ok .skip { w with heap := w.heap.setIfInBounds (φ B).blk (.map (E.push { key := ck, val := cx, born := cl }) (cl + 1)) } := by
      simp [Instr.mapUpdate, run_underlying hu, r_getObj hw, hck, hf2, r_setObj hw]
    rw [hrun]
    refine OK.skip (Agr.refl _ _) (Nat.le_refl _) (hr.putMap hro (map_some hes) (E := E.push { key := ck, val := cx, born := cl }) (cl := cl + 1) ?_ ?_ ?_ ?_ rfl rfl rfl ?_)
    · simp [hlt]
    · refine ⟨by simp [hsize], ?_, ?_⟩
      · intro x hx
        simp at hx
        rcases hx with hx | rfl
        · have := hbn.1 x (by simpa using hx); omega
        · exact Nat.lt_succ_self _
      · rw [Array.toList_push, List.map_append, List.nodup_append]
        refine ⟨hbn.2, by simp, ?_⟩
        intro a ha b hb hab
        simp at hb
        subst hb
        obtain ⟨x, hx, rfl⟩ := List.mem_map.1 ha
        have := hbn.1 x hx; omega
    · intro i k2 v2 hi
      simp only [List.getElem?_append] at hi
      split at hi
      · rename_i hil
        obtain ⟨e2, g1, g2, g3⟩ := hml.2 i k2 v2 hi
        refine ⟨e2, ?_, g2, g3⟩
        rw [Array.getElem?_push, if_neg (by omega)]
        simpa using g1
      · rename_i hil
        have : i = es.length := by
          have := (List.getElem?_eq_some_iff.1 hi).1
          simp at this
          omega
        subst this
        simp at hi
        obtain ⟨rfl, rfl⟩ := hi
        exact ⟨_, by rw [Array.getElem?_push, if_pos hsize.symm], rfl, hx⟩
    · intro q hq
      simp [Ne.symm hq]
    · simp
  · obtain ⟨hks, hke⟩ := same_bits (P := P) (w := w) h5
    have hf2 : (Instr.findKey kt ck E.toList).run P w = .ok (some (0 + j, e.val)) w := by simp [Instr.findKey, run_underlying hd, h6]
    have hEj : E[j]? = some e := by simpa using h3
    have hrun : ((do Instr.mapUpdate t (.map (some (φ B).blk)) ck cx; pure Next.skip : Sem Next)).run P w = .ok .skip { w with heap := w.heap.setIfInBounds (φ B).blk (.map (E.modify j fun e => { e with key := ck, val := cx }) cl) } := by
      simp [Instr.mapUpdate, run_underlying hu, r_getObj hw, hck, hf2, r_setObj hw, hEj, hks]
    rw [hrun]
    refine OK.skip (Agr.refl _ _) (Nat.le_refl _) (hr.putMap hro (map_some hes) (E := E.modify j fun e => { e with key := ck, val := cx }) (cl := cl) ?_ ?_ ?_ ?_ rfl rfl rfl ?_)
    · simp [hlt]
    · have hmb : (E.modify j fun e => { e with key := ck, val := cx }).toList.map (·.born) = E.toList.map (·.born) := by
        apply List.ext_getElem?
        intro i
        simp only [List.getElem?_map, Array.getElem?_toList, Array.getElem?_modify]
        split
        · cases E[i]? <;> rfl
        · rfl
      refine ⟨by simp [hsize], ?_, by rw [hmb]; exact hbn.2⟩
      intro x hx
      have : x.born ∈ (E.modify j fun e => { e with key := ck, val := cx }).toList.map (·.born) := List.mem_map.2 ⟨x, hx, rfl⟩
      rw [hmb] at this
      obtain ⟨y, hy, hyb⟩ := List.mem_map.1 this
      rw [← hyb]; exact hbn.1 y hy
    · intro i k2 v2 hi
      simp only [Nat.zero_add, List.getElem?_set] at hi
      rw [Array.getElem?_modify]
      split at hi
      · rename_i hij
        subst hij
        split at hi
        · cases hi
          rw [if_pos rfl, hEj]
          exact ⟨_, rfl, rfl, hx⟩
        · cases hi
      · rename_i hij
        rw [if_neg hij]
        obtain ⟨e2, g1, g2, g3⟩ := hml.2 i k2 v2 hi
        exact ⟨e2, by simpa using g1, g2, g3⟩
    · intro q hq
      simp [Ne.symm hq]
    · simp
theorem s_del {t u kt et ty : TypeId} {d : TypeDesc} {B : Nat} {es : List (Value × Value)} {k c ck : Value} {b : Bool} {q : Option (Nat × Value)} (hr : HR base w0 φ h w) (hm : VR φ h.next (.map (some B)) c) (hk : VR φ h.next k ck) (hu : P.underlying t = some (.map kt et)) (hd : P.underlying kt = some d)
    (hro : h.ro ≤ B) (hes : h.map? B = some es) (hb : veq (simpleT P kt) k k = some b) (hf : mfind (simpleT P kt) k es 0 = some q) :
    OK base w0 φ h (((do pure (Next.value (← Builtin.delete_ #[t, u] ty #[c, ck]))) : Sem Next).run P w) (.tuple #[]) (match q with | some (i, _) => h.put B (some (.map (es.eraseIdx i))) | none => h) := by
  cases hm
  obtain ⟨rfl, hkp⟩ := veq_plain hb hk
  obtain ⟨E, cl, hw, hml⟩ := hr.ml (map_some hes)
  have hck := r_check (w := w) (b := E.isEmpty) rfl hd hb
  have hlt : (φ B).blk < w.heap.size := hr.blk_lt (map_some hes)
  have hsize : E.size = es.length := by simpa using hml.1
  have hbn := hr.born (map_some hes) hw
  rcases find_ok (P := P) rfl hd es E.toList 0 _ hml hf with ⟨rfl, h1⟩ | ⟨j, v, e, rfl, h2, h3, h4, h5, h6⟩
  · have hf2 : (Instr.findKey kt ck E.toList).run P w = .ok none w := by simp [Instr.findKey, run_underlying hd, h1]
    have hrun : ((do pure (Next.value (← Builtin.delete_ #[t, u] ty #[.map (some (φ B).blk), ck])) : Sem Next)).run P w = .ok (.value (.tuple #[])) { w with heap := w.heap.setIfInBounds (φ B).blk (.map E cl) } := by
      simp [Builtin.delete_, run_underlying hu, r_getObj hw, hck, hf2, r_setObj hw]
    rw [hrun]
    refine OK.val (Agr.refl _ _) (Nat.le_refl _) (.any _) (hr.world ⟨rfl, rfl, rfl, by simp, fun k _ => ?_⟩ (by have := hr.bs; simpa using this) (fun C b hC => ?_) fun k C hC => ?_)
    · by_cases hk : k = (φ B).blk
      · subst hk; rw [hw]; simp [hlt]
      · simp [Ne.symm hk]
    · by_cases hk : (φ C).blk = (φ B).blk
      · rw [hk, hw]; simp [hlt]
      · simp [Ne.symm hk]
    · by_cases hk : k = (φ B).blk
      · rw [hk, hw]; simp [hlt]
      · simp [Ne.symm hk]
  · have hf2 : (Instr.findKey kt ck E.toList).run P w = .ok (some (0 + j, e.val)) w := by simp [Instr.findKey, run_underlying hd, h6]
    have hEj : E[j]? = some e := by simpa using h3
    have hjE : j < E.size := (Array.getElem?_eq_some_iff.1 hEj).1
    have hrun : ((do pure (Next.value (← Builtin.delete_ #[t, u] ty #[.map (some (φ B).blk), ck])) : Sem Next)).run P w = .ok (.value (.tuple #[])) { w with heap := w.heap.setIfInBounds (φ B).blk (.map (E.eraseIdxIfInBounds j) cl) } := by
      simp [Builtin.delete_, run_underlying hu, r_getObj hw, hck, hf2, r_setObj hw]
    rw [hrun]
    have hel : (E.eraseIdxIfInBounds j).toList = E.toList.eraseIdx j := by
      simp [Array.eraseIdxIfInBounds, hjE]
    refine OK.val (Agr.refl _ _) (Nat.le_refl _) (.any _) (hr.putMap hro (map_some hes) (E := E.eraseIdxIfInBounds j) (cl := cl) ?_ ?_ ?_ ?_ rfl rfl rfl ?_)
    · simp [hlt]
    · refine ⟨?_, ?_, ?_⟩
      · rw [← Array.length_toList, hel]
        simp only [Nat.zero_add, List.length_eraseIdx, Array.length_toList, hsize]
      · intro x hx
        rw [hel] at hx
        exact hbn.1 x (List.mem_of_mem_eraseIdx hx)
      · rw [hel]
        exact (List.Sublist.map _ (List.eraseIdx_sublist _ _)).nodup hbn.2
    · intro i k2 v2 hi
      simp only [Nat.zero_add, List.getElem?_eraseIdx] at hi
      have goal : ∀ e2 : MapEntry, (E.toList.eraseIdx j)[i]? = some e2 → (E.eraseIdxIfInBounds j)[i]? = some e2 := fun e2 he => by
        rw [← Array.getElem?_toList, hel]; exact he
      split at hi
      · rename_i hij
        obtain ⟨e2, g1, g2, g3⟩ := hml.2 i k2 v2 hi
        exact ⟨e2, goal _ (by rw [List.getElem?_eraseIdx, if_pos hij]; exact g1), g2, g3⟩
      · rename_i hij
        obtain ⟨e2, g1, g2, g3⟩ := hml.2 (i + 1) k2 v2 hi
        exact ⟨e2, goal _ (by rw [List.getElem?_eraseIdx, if_neg hij]; exact g1), g2, g3⟩
    · intro q hq
      simp [Ne.symm hq]
    · simp
end
end Go.Proofs.Ythofdojknjhpgaa
