/- Own texts, merged: a part of the proof that is told in the last text of this claim. -/
import Derived.Test.YthofdojknjhpgaaCMG
set_option linter.unusedVariables false
set_option linter.unusedSimpArgs false
namespace Go.Proofs.Ythofdojknjhpgaa
open Go

section
variable {P : Program} {base : Nat} {w0 : World} {φ : Phi} {h : AH} {w : World} {T : Tm} {a : Act}

theorem s_un {op : UnOp} {x c r : Value} (hr : HR base w0 φ h w) (hx : VR φ h.next x c) (hv : vun op x = some r) : OK base w0 φ h (((do pure (Next.value (← Op.unary op c))) : Sem Next).run P w) r h := by
  unfold vun at hv
  split at hv
  · cases hv
    obtain rfl := int_of hx
    rename_i k n
    have hrun : ((do pure (Next.value (← Op.unary .neg (.int k n))) : Sem Next)).run P w = .ok (.value (.int k (k.wrap (0 - n)))) w := by simp [Op.unary, Op.intArith]
    rw [hrun]
    exact OK.pure hr (.int _ _)
  · cases hv
    obtain rfl := bool_of hx
    rename_i b
    have hrun : ((do pure (Next.value (← Op.unary .not (.bool b))) : Sem Next)).run P w = .ok (.value (.bool !b)) w := by simp [Op.unary]
    rw [hrun]
    exact OK.pure hr (.bool _)
  · cases hv
theorem s_cint {src dst : TypeId} {k k0 k' : IntKind} {n : Int} {c : Value} (hr : HR base w0 φ h w) (hx : VR φ h.next (.int k' n) c) (h1 : P.underlying src = some (.int k0)) (h2 : P.underlying dst = some (.int k)) :
    OK base w0 φ h (((do pure (Next.value (← convert src dst c))) : Sem Next).run P w) (.int k (k.wrap n)) h := by
  obtain rfl := int_of hx
  have hrun : ((do pure (Next.value (← convert src dst (.int k' n))) : Sem Next)).run P w = .ok (.value (.int k (k.wrap n))) w := by simp [convert, run_underlying h1, run_underlying h2, Conv.intToInt]
  rw [hrun]
  exact OK.pure hr (by constructor)
theorem s_cstr {src dst : TypeId} {c x : Value} {s : ByteArray} (hr : HR base w0 φ h w) (hx : VR φ h.next x c) (hxs : x = .string s) (h1 : P.underlying src = some .string) (h2 : P.underlying dst = some .string) :
    OK base w0 φ h (((do pure (Next.value (← convert src dst c))) : Sem Next).run P w) x h := by
  subst hxs
  obtain rfl := str_of hx
  have hrun : ((do pure (Next.value (← convert src dst (.string s))) : Sem Next)).run P w = .ok (.value (.string s)) w := by simp [convert, run_underlying h1, run_underlying h2]
  rw [hrun]
  exact OK.pure hr (by constructor)
theorem s_mki {t : TypeId} {d : TypeDesc} {x c : Value} (hr : HR base w0 φ h w) (hx : VR φ h.next x c) (hu : P.underlying t = some d) (hd : ∀ m, d ≠ .interface m) (hk : isK x = true) :
    OK base w0 φ h (((do pure (Next.value (← Instr.makeInterface t c))) : Sem Next).run P w) (.iface t x) h := by
  have hrun : ((do pure (Next.value (← Instr.makeInterface t c)) : Sem Next)).run P w = .ok (.value (.iface t c)) w := by
    cases d <;> first | (exact absurd rfl (hd _)) | simp [Instr.makeInterface, run_underlying hu]
  rw [hrun]
  exact OK.pure hr (.iface _ _ _ (isK_ne hk) hx)
theorem VRL.pair {φ : Phi} {n : Nat} {x y c d : Value} (h1 : VR φ n x c) (h2 : VR φ n y d) : VR φ n (.tuple #[x, y]) (.tuple #[c, d]) := (VRL.cons h1 (VRL.cons h2 VRL.nil)).tuple
theorem s_tas {t xt : TypeId} {d : TypeDesc} {ok : Bool} {z x c r : Value} (hr : HR base w0 φ h w) (hx : VR φ h.next x c) (hu : P.underlying t = some d) (hd : ∀ m, d ≠ .interface m) (hz : zeroV P t = some z)
    (hv : tasV t ok z x = some r) :
    OK base w0 φ h (((do pure (Next.value (← Instr.typeAssert c xt t ok))) : Sem Next).run P w) r h := by
  obtain ⟨i, hi, hz1, hz2⟩ := zeroV_some hz
  have fail : ok = true → (c = .nilIface ∨ ∃ t' v, t' ≠ t ∧ c = .iface t' v) → ((do pure (Next.value (← Instr.typeAssert c xt t ok)) : Sem Next)).run P w = .ok (.value (.tuple #[z, .bool false])) w := by
    rintro rfl (rfl | ⟨t', v, hne, rfl⟩)
    · cases d <;> first | (exact absurd rfl (hd _)) | simp [Instr.typeAssert, run_underlying hu, r_zero hi hz1]
    · cases d <;> first | (exact absurd rfl (hd _)) | simp [Instr.typeAssert, run_underlying hu, r_zero hi hz1, hne]
  unfold tasV at hv
  split at hv
  · rename_i t' v
    cases hx with
    | iface _ _ c' hne hv' =>
    split at hv
    · rename_i he
      subst he
      cases hv
      have hrun : ((do pure (Next.value (← Instr.typeAssert (.iface t' c') xt t' ok)) : Sem Next)).run P w = .ok (.value (bif ok then .tuple #[c', .bool true] else c')) w := by
        cases d <;> first | (exact absurd rfl (hd _)) | (cases ok <;> simp [Instr.typeAssert, run_underlying hu])
      rw [hrun]
      cases ok
      · exact OK.pure hr hv'
      · exact OK.pure hr (VRL.pair hv' (.bool _))
    · rename_i he
      cases ok
      · simp at hv
      · simp at hv
        subst hv
        rw [fail rfl (.inr ⟨_, _, he, rfl⟩)]
        exact OK.pure hr (VRL.pair (VR.plainV hz2) (.bool _))
  · cases hx
    cases ok
    · simp at hv
    · simp at hv
      subst hv
      rw [fail rfl (.inl rfl)]
      exact OK.pure hr (VRL.pair (VR.plainV hz2) (.bool _))
  · cases hv
theorem s_mkf {f : FuncId} {first captured : Array Operand} {xs ys : List Opd} (hr : HR base w0 φ h w) (ht : TR φ h.next T a) (h1 : opds first.toList = some xs) (h2 : opds captured.toList = some ys) :
    OK base w0 φ h (((do pure (Next.value (← Instr.makeFunc (.func f) (first.map a.eval) (captured.map a.eval)))) : Sem Next).run P w) (.func (.func f) (xs.map (·.ev T)).toArray (ys.map (·.ev T)).toArray) h := by
  have hrun : ((do pure (Next.value (← Instr.makeFunc (.func f) (first.map a.eval) (captured.map a.eval))) : Sem Next)).run P w = .ok (.value (.func (.func f) (first.map a.eval) (captured.map a.eval))) w := by simp [Instr.makeFunc]
  rw [hrun]
  refine OK.pure hr ?_
  have v1 := ht.opds h1
  have v2 := ht.opds h2
  refine .func _ _ _ _ _ (by have := v1.1; simpa using this) (fun i p q => v1.2 i _ _ (by simp at p; simp [p]) (by simp at q; simp [q])) (by have := v2.1; simpa using this) (fun i p q => v2.2 i _ _ (by simp at p; simp [p]) (by simp at q; simp [q]))
theorem s_mkm {t : TypeId} (hr : HR base w0 φ h w) : OK base w0 φ h (((do pure (Next.value (← Instr.makeMap t none))) : Sem Next).run P w) (.map (some h.next)) (h.new (.map [])) := by
  have hrun : ((do pure (Next.value (← Instr.makeMap t none)) : Sem Next)).run P w = .ok (.value (.map (some w.heap.size))) (w.alloc (.map #[] 0)) := by simp [Instr.makeMap]
  rw [hrun]
  refine OK.val (ext_agr _ _ _) (by simp) ?_ hr.newMap
  have := VR.map (φ := ext φ h.next ⟨w.heap.size, 0, 0, 0⟩) (n := (h.new (.map [])).next) h.next (by simp)
  simpa [ext_same] using this
theorem s_mks {t e : TypeId} {i : TypeInfo} {z : List Value} {kl kc : IntKind} {l c : Int} {x y : Value} (hr : HR base w0 φ h w) (hl : VR φ h.next (.int kl l) x) (hc : VR φ h.next (.int kc c) y) (hu : P.underlying t = some (.slice e)) (hi : P.info? e = some i) (hz : zeroT P e = some z) (hzl : z.length = i.size) (h0 : 0 < i.size)
    (hb : 0 ≤ l ∧ l ≤ c ∧ (i.bytes : Int) * c ≤ 281474976710656 ∧ c ≤ 9223372036854775807) :
    OK base w0 φ h (((do pure (Next.value (← Instr.makeSlice t x y))) : Sem Next).run P w) (.slice (some ⟨h.next, 0, none⟩) l.toNat l.toNat) (h.new (.row e i.size (zerosN z l.toNat))) := by
  obtain rfl := int_of hl
  obtain rfl := int_of hc
  obtain ⟨i', z', hi', hz1, rfl, hpl, _⟩ := zeroT_some hz
  rw [hi] at hi'
  cases hi'
  have hm := run_make (P := P) w t e i z' hu hi hz1 kl kc l c hb.1 hb.2.1 hb.2.2.1 hb.2.2.2
  have hrun : ((do pure (Next.value (← Instr.makeSlice t (.int kl l) (.int kc c))) : Sem Next)).run P w = .ok (.value (.slice (some ⟨w.heap.size, 0, none⟩) l.toNat c.toNat)) (w.alloc (.cells (madeCells z'.cells (c.toNat * i.size)) e)) := by
    rw [Sem.run_bind, hm]; rfl
  rw [hrun]
  have hcl : z'.cells.size = i.size := by simpa using hzl
  have hmade : (madeCells z'.cells (c.toNat * i.size)).toList = zerosN z'.cells.toList c.toNat := zeros_made z'.cells i.size c.toNat hcl h0
  have hlc : l.toNat ≤ c.toNat := by omega
  have hpre : ∀ (j : Nat) (u : Value), (zerosN z'.cells.toList l.toNat)[j]? = some u → (madeCells z'.cells (c.toNat * i.size))[j]? = some u := by
    intro j u hj
    have hjl : j < l.toNat * i.size := by
      have := (List.getElem?_eq_some_iff.1 hj).1
      rw [zerosN_length, hzl] at this
      exact this
    rw [← Array.getElem?_toList, hmade, zerosN_get _ (by omega) _ _ (by rw [hzl]; exact Nat.lt_of_lt_of_le hjl (Nat.mul_le_mul_right _ hlc))]
    rw [zerosN_get _ (by omega) _ _ (by rw [hzl]; exact hjl)] at hj
    exact hj
  have hn := hr.newRow (t := e) (e := i.size) (c := madeCells z'.cells (c.toNat * i.size)) (VRL.plain (zerosN_plain hpl l.toNat)) (fun u hu => VRL.all_one (VRL.plain (φ := φ) (n := h.next) (zerosN_plain hpl l.toNat)) (plain_one (zerosN_plain hpl l.toNat)) u hu) hpre
  refine OK.val (ext_agr _ _ _) (by simp) ?_ hn
  exact VR.newSlice (x := ⟨w.heap.size, 0, (madeCells z'.cells (c.toNat * i.size)).size, i.size⟩) (by simp) hlc (by simp [size_madeCells]) rfl (ext_same _ _ _)

theorem r_bound {φ : Phi} {n : Nat} {T : Tm} {a : Act} (ht : TR φ n T a) {lo : Option Operand} {lo' : Option Opd} (ho : opdO lo = some lo') {d l : Nat} (hb : bound T d lo' = some l) :
    (lo = none ∧ l = d) ∨ ∃ x k, lo = some x ∧ a.eval x = .int k (l : Int) := by
  cases lo with
  | none => simp [opdO] at ho; subst ho; simp [bound] at hb; exact .inl ⟨rfl, hb.symm⟩
  | some x =>
    simp only [opdO] at ho
    split at ho
    · rename_i y hy
      cases ho
      simp only [bound] at hb
      split at hb
      · rename_i k i hi
        split at hb
        · rename_i h0
          cases hb
          have hv := ht.opd hy
          rw [hi] at hv
          exact .inr ⟨x, k, rfl, by rw [int_of hv, Int.toNat_of_nonneg h0]⟩
        · cases hb
      · cases hb
    · cases ho
theorem r_bounds {isSlice : Bool} {n : Nat} (ht : TR φ n T a) {lo hi : Option Operand} {lo' hi' : Option Opd} (h1 : opdO lo = some lo') (h2 : opdO hi = some hi') {len cap l r : Nat} (b1 : bound T 0 lo' = some l) (b2 : bound T len hi' = some r) (hlr : l ≤ r) (hrl : r ≤ len) (hlc : len ≤ cap) :
    (Instr.sliceBounds isSlice len cap (lo.map a.eval) (hi.map a.eval) none).run P w = .ok (l, r, cap) w := by
  have hb : ∀ (k : IntKind) (i y : Nat) (code : BoundsCode), i ≤ y → (Instr.sliceBound (.int k (i : Int)) y code).run P w = .ok i w := by
    intro k i y code hi
    simp only [Instr.sliceBound, asIntOf, Sem.run_bind, Sem.run_pure, Result.andThen_ok]
    rw [if_pos ⟨by omega, by omega⟩]
    simp
  rcases r_bound ht h1 b1 with ⟨rfl, rfl⟩ | ⟨x, k, rfl, e1⟩ <;> rcases r_bound ht h2 b2 with ⟨rfl, rfl⟩ | ⟨y, k', rfl, e2⟩
  · simp [Instr.sliceBounds]
  · simp only [Instr.sliceBounds, Option.map_some, Option.map_none, Sem.run_bind, Sem.run_pure, Result.andThen_ok, e2, hb _ _ _ _ (Nat.le_trans hrl hlc)]
  · simp only [Instr.sliceBounds, Option.map_some, Option.map_none, Sem.run_bind, Sem.run_pure, Result.andThen_ok, e1, hb _ _ _ _ hlr]
  · simp only [Instr.sliceBounds, Option.map_some, Option.map_none, Sem.run_bind, Sem.run_pure, Result.andThen_ok, e1, e2, hb _ _ _ _ hlr, hb _ _ _ _ (Nat.le_trans hrl hlc)]
theorem s_slstr {t : TypeId} {s : ByteArray} {c : Value} {lo hi : Option Operand} {lo' hi' : Option Opd} {l r : Nat} (hr : HR base w0 φ h w) (ht : TR φ h.next T a) (hx : VR φ h.next (.string s) c) (hu : P.underlying t = some .string) (h1 : opdO lo = some lo') (h2 : opdO hi = some hi') (b1 : bound T 0 lo' = some l) (b2 : bound T s.size hi' = some r) (hlr : l ≤ r) (hrl : r ≤ s.size) :
    OK base w0 φ h (((do pure (Next.value (← Instr.sliceAt t c (lo.map a.eval) (hi.map a.eval) none))) : Sem Next).run P w) (.string (s.extract l r)) h := by
  obtain rfl := str_of hx
  have hrun : ((do pure (Next.value (← Instr.sliceAt t (.string s) (lo.map a.eval) (hi.map a.eval) none)) : Sem Next)).run P w = .ok (.value (.string (s.extract l r))) w := by
    simp [Instr.sliceAt, Instr.slice, run_underlying hu, r_bounds (P := P) (w := w) (isSlice := false) ht h1 h2 b1 b2 hlr hrl (Nat.le_refl _)]
  rw [hrun]
  exact OK.pure hr (.string _)
theorem s_sls0 {t e : TypeId} {s : Nat} {x c : Value} {i j : Nat} {lo hi : Option Operand} {lo' hi' : Option Opd} {l r : Nat} (hr : HR base w0 φ h w) (ht : TR φ h.next T a) (hx : VR φ h.next x c) (hxe : x = .slice none i j) (hu : P.underlying t = some (.slice e)) (hs : sizeT P e = some s) (h1 : opdO lo = some lo') (h2 : opdO hi = some hi') (b1 : bound T 0 lo' = some l) (b2 : bound T i hi' = some r) (hlr : l ≤ r) (hrl : r ≤ i) :
    OK base w0 φ h (((do pure (Next.value (← Instr.sliceAt t c (lo.map a.eval) (hi.map a.eval) none))) : Sem Next).run P w) (.slice none 0 0) h := by
  subst hxe
  cases hx
  obtain rfl : r = 0 := by omega
  obtain rfl : l = 0 := by omega
  have hrun : ((do pure (Next.value (← Instr.sliceAt t (.slice none 0 0) (lo.map a.eval) (hi.map a.eval) none)) : Sem Next)).run P w = .ok (.value (.slice none 0 0)) w := by
    simp [Instr.sliceAt, Instr.slice, run_underlying hu, r_bounds (P := P) (w := w) (isSlice := true) ht h1 h2 b1 b2 (Nat.le_refl _) (Nat.le_refl _) (Nat.le_refl _), r_sizeOf hs]
  rw [hrun]
  exact OK.pure hr .slice0
theorem s_sls {t e t' : TypeId} {s : Nat} {x c : Value} {B o i j : Nat} {cs : List Value} {lo hi : Option Operand} {lo' hi' : Option Opd} {l r : Nat} (hr : HR base w0 φ h w) (ht : TR φ h.next T a) (hx : VR φ h.next x c) (hxe : x = .slice (some ⟨B, o, none⟩) i j) (hu : P.underlying t = some (.slice e)) (hs : sizeT P e = some s) (hB : h.get B = some (.row t' s cs)) (h1 : opdO lo = some lo') (h2 : opdO hi = some hi') (b1 : bound T 0 lo' = some l) (b2 : bound T i hi' = some r) (hlr : l ≤ r) (hrl : r ≤ i) :
    OK base w0 φ h (((do pure (Next.value (← Instr.sliceAt t c (lo.map a.eval) (hi.map a.eval) none))) : Sem Next).run P w) (.slice (some ⟨B, o + l * s, none⟩) (r - l) (r - l)) h := by
  subst hxe
  cases hx with
  | slice _ _ _ cp ad hBn hlc hc =>
  have hrun : ((do pure (Next.value (← Instr.sliceAt t (.slice (some ad) i cp) (lo.map a.eval) (hi.map a.eval) none)) : Sem Next)).run P w = .ok (.value (.slice (some (if cp = l then ad else ad.add (l * s))) (r - l) (cp - l))) w := by
    simp only [Instr.sliceAt, Instr.slice, Sem.run_bind, run_underlying hu, Result.andThen_ok, r_bounds (P := P) (w := w) (isSlice := true) ht h1 h2 b1 b2 hlr hrl hlc, r_sizeOf hs, Sem.run_pure]
    split <;> simp
  rw [hrun]
  have hesz := (hr.rows B t' s cs hB).1
  refine OK.pure hr (.slice B _ _ _ _ hBn (by omega) fun h0 => ?_)
  have hne : ¬ cp = l := by omega
  obtain ⟨e1, e2⟩ := hc (by omega)
  rw [if_neg hne, e1, add_none]
  refine ⟨by simp; omega, ?_⟩
  rw [hesz] at e2 ⊢
  have : (cp - l) * s + l * s = cp * s := by rw [← Nat.add_mul]; congr 1; omega
  omega
theorem s_sla {t e t' : TypeId} {s n : Nat} {x c : Value} {B o : Nat} {cs : List Value} {lo hi : Option Operand} {lo' hi' : Option Opd} {l r : Nat} (hr : HR base w0 φ h w) (ht : TR φ h.next T a) (hx : VR φ h.next x c) (hxe : x = .pointer (some ⟨B, o, none⟩)) (hu : P.underlying t = some (.array n e)) (hs : sizeT P e = some s) (hro : h.ro ≤ B) (hB : h.get B = some (.row t' s cs)) (hn : o + n * s ≤ cs.length) (h1 : opdO lo = some lo') (h2 : opdO hi = some hi') (b1 : bound T 0 lo' = some l) (b2 : bound T n hi' = some r) (hlr : l ≤ r) (hrl : r ≤ n) :
    OK base w0 φ h (((do pure (Next.value (← Instr.sliceAt t c (lo.map a.eval) (hi.map a.eval) none))) : Sem Next).run P w) (.slice (some ⟨B, o + l * s, none⟩) (r - l) (r - l)) h := by
  subst hxe
  cases hx with
  | ptr _ _ hBn =>
  have hrun : ((do pure (Next.value (← Instr.sliceAt t (.pointer (some ⟨(φ B).blk, (φ B).base + o, none⟩)) (lo.map a.eval) (hi.map a.eval) none)) : Sem Next)).run P w = .ok (.value (.slice (some (if n = l then ⟨(φ B).blk, (φ B).base + o, none⟩ else (⟨(φ B).blk, (φ B).base + o, none⟩ : Addr).add (l * s))) (r - l) (n - l))) w := by
    simp only [Instr.sliceAt, Instr.sureAddr, Sem.run_bind, run_underlying hu, Result.andThen_ok, r_bounds (P := P) (w := w) (isSlice := false) ht h1 h2 b1 b2 hlr hrl (Nat.le_refl _), r_sizeOf hs, Sem.run_pure]
  rw [hrun]
  obtain ⟨hesz, c', t'', fr, hw, hcell⟩ := hr.rows B t' s cs hB
  obtain ⟨_, hb0, c2, hw2, hroom⟩ := hr.wr B t' s cs hro hB
  rw [hw2] at hw
  obtain ⟨rfl, rfl, rfl⟩ : c2 = c' ∧ t' = t'' ∧ ((0, 0) : Nat × Nat) = fr := by injection hw with hw; injection hw with g1 g2 g3; exact ⟨g1, g2, g3⟩
  have hlen : cs.length ≤ c2.size := by
    rcases Nat.eq_zero_or_pos cs.length with h0 | h0
    · omega
    · obtain ⟨u, hu, _⟩ := hcell (cs.length - 1) _ (List.getElem?_eq_getElem (by omega))
      have := (Array.getElem?_eq_some_iff.1 hu).1
      omega
  refine OK.pure hr (.slice B _ _ _ _ hBn (by omega) fun h0 => ?_)
  have hne : ¬ n = l := by omega
  rw [if_neg hne, add_none]
  refine ⟨by simp; omega, ?_⟩
  rw [hesz]
  have : (n - l) * s + l * s = n * s := by rw [← Nat.add_mul]; congr 1; omega
  omega

theorem s_fa {t : TypeId} {fs : Array Field} {f : Nat} {fd : Field} {s : Nat} {B o : Nat} {x c : Value} (hr : HR base w0 φ h w) (hx : VR φ h.next x c) (hxe : x = .pointer (some ⟨B, o, none⟩)) (hu : P.underlying t = some (.struct fs)) (hf : fs[f]? = some fd) (hs : sizeT P fd.type = some s) (h0 : ¬ s = 0) :
    OK base w0 φ h (((do pure (Next.value (← Instr.fieldAt t c f))) : Sem Next).run P w) (.pointer (some ⟨B, o + fd.offset, none⟩)) h := by
  subst hxe
  cases hx with
  | ptr _ _ hB =>
  have hrun : ((do pure (Next.value (← Instr.fieldAt t (.pointer (some ⟨(φ B).blk, (φ B).base + o, none⟩)) f)) : Sem Next)).run P w = .ok (.value (.pointer (some ⟨(φ B).blk, (φ B).base + (o + fd.offset), none⟩))) w := by
    simp [Instr.fieldAt, Instr.sureAddr, run_underlying hu, hf, fieldPlace, r_sizeOf hs, h0, add_none, Nat.add_assoc]
  rw [hrun]
  exact OK.pure hr (.ptr _ _ hB)
theorem s_fld1 {t : TypeId} {fs : Array Field} {f : Nat} {fd : Field} {x c v : Value} {cs : Array Value} (hr : HR base w0 φ h w) (hx : VR φ h.next x c) (hxe : x = .agg cs) (hu : P.underlying t = some (.struct fs)) (hf : fs[f]? = some fd) (hs : aggS P fd.type = some none) (hv : cs[fd.offset]? = some v) :
    OK base w0 φ h (((do pure (Next.value (← Instr.field t c f))) : Sem Next).run P w) v h := by
  subst hxe
  cases hx with
  | agg _ ys hl hp =>
  obtain ⟨d, n, hu2, hsz, hsn⟩ := aggS_some hs
  have hag : isAggT P fd.type = false := by
    cases hq : isAggT P fd.type with
    | false => rfl
    | true => simp [hq] at hsn
  obtain ⟨u, hu3, hvr⟩ := (VRL.of_arrays hl hp).get (by simpa using hv)
  have hrun : ((do pure (Next.value (← Instr.field t (.agg ys) f)) : Sem Next)).run P w = .ok (.value u) w := by
    simp [Instr.field, run_underlying hu, hf, asAgg, part, r_isAgg hu2, hag, show ys[fd.offset]? = some u by simpa using hu3]
  rw [hrun]
  exact OK.pure hr hvr
theorem s_fldN {t : TypeId} {fs : Array Field} {f s : Nat} {fd : Field} {x c : Value} {cs : Array Value} (hr : HR base w0 φ h w) (hx : VR φ h.next x c) (hxe : x = .agg cs) (hu : P.underlying t = some (.struct fs)) (hf : fs[f]? = some fd) (hs : aggS P fd.type = some (some s)) (hv : fd.offset + s ≤ cs.size) :
    OK base w0 φ h (((do pure (Next.value (← Instr.field t c f))) : Sem Next).run P w) (.agg ((cs.toList.drop fd.offset).take s).toArray) h := by
  subst hxe
  cases hx with
  | agg _ ys hl hp =>
  obtain ⟨d, n, hu2, hsz, hsn⟩ := aggS_some hs
  have hag : isAggT P fd.type = true := by
    cases hq : isAggT P fd.type with
    | false => simp [hq] at hsn
    | true => rfl
  have hns : n = s := by simp [hag] at hsn; exact hsn.symm
  subst hns
  have hrun : ((do pure (Next.value (← Instr.field t (.agg ys) f)) : Sem Next)).run P w = .ok (.value (.agg (ys.extract fd.offset (fd.offset + n)))) w := by
    simp [Instr.field, run_underlying hu, hf, asAgg, part, r_isAgg hu2, hag, r_sizeOf hsz]
  rw [hrun]
  refine OK.pure hr ?_
  have := (((VRL.of_arrays hl hp).drop fd.offset).take n).agg
  have he : ys.extract fd.offset (fd.offset + n) = ((ys.toList.drop fd.offset).take n).toArray := by
    apply Array.ext'
    simp [List.extract_eq_take_drop]
  rw [he]
  exact this
theorem s_ias {t e : TypeId} {s : Nat} {B o l j : Nat} {k : IntKind} {i : Int} {x y c d : Value} (hr : HR base w0 φ h w) (hx : VR φ h.next x c) (hy : VR φ h.next y d) (hxe : x = .slice (some ⟨B, o, none⟩) l j) (hye : y = .int k i) (hu : P.underlying t = some (.slice e)) (hs : sizeT P e = some s) (hi : 0 ≤ i ∧ i < l) :
    OK base w0 φ h (((do pure (Next.value (← Instr.indexAt t c d))) : Sem Next).run P w) (.pointer (some ⟨B, o + i.toNat * s, none⟩)) h := by
  subst hxe
  subst hye
  obtain rfl := int_of hy
  cases hx with
  | slice _ _ _ cp ad hBn hlc hc =>
  obtain ⟨e1, e2⟩ := hc (by omega)
  have hrun : ((do pure (Next.value (← Instr.indexAt t (.slice (some ad) l cp) (.int k i))) : Sem Next)).run P w = .ok (.value (.pointer (some (ad.add (i.toNat * s))))) w := by
    simp [Instr.indexAt, asIntOf, run_underlying hu, hi, r_sizeOf hs]
  rw [hrun, e1, add_none, Nat.add_assoc]
  exact OK.pure hr (.ptr _ _ hBn)
theorem s_iaa {t e : TypeId} {s n : Nat} {B o : Nat} {k : IntKind} {i : Int} {x y c d : Value} (hr : HR base w0 φ h w) (hx : VR φ h.next x c) (hy : VR φ h.next y d) (hxe : x = .pointer (some ⟨B, o, none⟩)) (hye : y = .int k i) (hu : P.underlying t = some (.array n e)) (hs : sizeT P e = some s) (hi : 0 ≤ i ∧ i < n) :
    OK base w0 φ h (((do pure (Next.value (← Instr.indexAt t c d))) : Sem Next).run P w) (.pointer (some ⟨B, o + i.toNat * s, none⟩)) h := by
  subst hxe
  subst hye
  obtain rfl := int_of hy
  cases hx with
  | ptr _ _ hBn =>
  have hrun : ((do pure (Next.value (← Instr.indexAt t (.pointer (some ⟨(φ B).blk, (φ B).base + o, none⟩)) (.int k i))) : Sem Next)).run P w = .ok (.value (.pointer (some ((⟨(φ B).blk, (φ B).base + o, none⟩ : Addr).add (i.toNat * s))))) w := by
    simp [Instr.indexAt, asIntOf, run_underlying hu, hi, r_sizeOf hs, Instr.sureAddr]
  rw [hrun, add_none, Nat.add_assoc]
  exact OK.pure hr (.ptr _ _ hBn)
theorem s_ixs {t : TypeId} {k : IntKind} {i : Int} {x y c d : Value} {s : ByteArray} {b : UInt8} (hr : HR base w0 φ h w) (hx : VR φ h.next x c) (hy : VR φ h.next y d) (hxe : x = .string s) (hye : y = .int k i) (hu : P.underlying t = some .string) (hi : 0 ≤ i) (hb : s.data[i.toNat]? = some b) :
    OK base w0 φ h (((do pure (Next.value (← Instr.index t c d))) : Sem Next).run P w) (.int .u8 b.toNat) h := by
  subst hxe
  subst hye
  obtain rfl := int_of hy
  obtain rfl := str_of hx
  have hlt : i.toNat < s.size := by have := (Array.getElem?_eq_some_iff.1 hb).1; exact this
  have hb2 : s[i.toNat]? = some b := by
    rw [getElem?_pos s i.toNat hlt]
    have := (Array.getElem?_eq_some_iff.1 hb).2
    exact congrArg some this
  have hrun : ((do pure (Next.value (← Instr.index t (.string s) (.int k i))) : Sem Next)).run P w = .ok (.value (.int .u8 b.toNat)) w := by
    simp [Instr.index, asIntOf, run_underlying hu, hi, hb2]
  rw [hrun]
  exact OK.pure hr (by constructor)
theorem r_partA {e : TypeId} {s : Nat} {ag : Bool} (hs : sizeT P e = some s) (hag : isAggT P e = ag) {ys : Array Value} {o : Nat} {w : World} {d : TypeDesc} (hu : P.underlying e = some d) :
    (part e ys o).run P w = (if ag = true then .ok (.agg (ys.extract o (o + s))) w else match ys[o]? with | some v => .ok v w | none => .halt (.stuck "part: no such cell") w) := by
  cases ag
  · simp only [part, Sem.run_bind, r_isAgg hu, hag, Result.andThen_ok, Bool.false_eq_true, if_false]
    cases ys[o]? <;> simp
  · simp only [part, Sem.run_bind, r_isAgg hu, hag, Result.andThen_ok, if_true, r_sizeOf hs, Sem.run_pure]
theorem s_ext {i : Nat} {x c v : Value} {vs : Array Value} (hr : HR base w0 φ h w) (hx : VR φ h.next x c) (hxe : x = .tuple vs) (hv : vs[i]? = some v) :
    OK base w0 φ h (((do pure (Next.value (← Instr.extract c i))) : Sem Next).run P w) v h := by
  subst hxe
  cases hx with
  | any => simp at hv
  | tuple _ ys hl hp =>
  obtain ⟨u, hu3, hvr⟩ := (VRL.of_arrays hl hp).get (by simpa using hv)
  have hrun : ((do pure (Next.value (← Instr.extract (.tuple ys) i)) : Sem Next)).run P w = .ok (.value u) w := by
    simp [Instr.extract, show ys[i]? = some u by simpa using hu3]
  rw [hrun]
  exact OK.pure hr hvr

theorem cell_of_frz (hr : HR base w0 φ h w) {b i : Nat} {C : Array Value} {u : Value} (hb : φ.fz b = some C) (hu : C[i]? = some u) : w.cell? ⟨b, i, none⟩ = some u := by
  obtain ⟨⟨t, fr, hw⟩, _⟩ := hr.frz b C hb
  rw [cell_of_row w _ _ _ _ _ hw, hu]
theorem meth_nil {n : Nat} {s : String} {xs zs : Array Value} {c : Value} (hv : VR φ n (.func (.method s) xs zs) c) : zs = #[] := by cases hv; rfl
theorem fp_ok {n : Nat} {s : String} {xs : Array Value} {c : Value} (hr : HR base w0 φ h w) (hv : VR φ n (.func (.method s) xs #[]) c) :
    ∃ b o us, c = .pointer (some ⟨b, o, none⟩) ∧ VRL φ n xs.toList us ∧ (∀ u ∈ us, u.oneCell' = true) ∧ ∀ (j : Nat) (u : Value), us[j]? = some u → w.cell? ⟨b, o + j, none⟩ = some u := by
  cases hv with
  | fp _ b o _ ys C h1 h2 h3 h4 h5 => exact ⟨b, o, ys.toList, rfl, VRL.of_arrays h2 h3, h4, fun j u hj => cell_of_frz hr h1 (h5 j u (by simpa using hj))⟩
theorem vr_fpDrop {n b o : Nat} {s : String} {xs : Array Value} (hv : VR φ n (.func (.method s) xs #[]) (.pointer (some ⟨b, o, none⟩))) (k : Nat) : VR φ n (fp (xs.toList.drop k)) (.pointer (some ⟨b, o + k, none⟩)) := by
  cases hv with
  | fp _ _ _ _ ys C h1 h2 h3 h4 h5 =>
    have hl : (xs.toList.drop k).toArray.size = (ys.toList.drop k).toArray.size := by simp [h2]
    refine .fp _ b (o + k) _ (ys.toList.drop k).toArray C h1 hl (fun i a b => ?_) (fun u hu => h4 u (List.mem_of_mem_drop (by simpa using hu))) (fun i u hi => ?_)
    · have a' : k + i < xs.size := by simp at a; omega
      have := h3 (k + i) a' (by omega)
      simpa using this
    · rw [Nat.add_assoc]
      exact h5 _ u (by simpa [List.getElem?_drop] using hi)
theorem vr_fpTake {n b o : Nat} {s : String} {xs : Array Value} (hv : VR φ n (.func (.method s) xs #[]) (.pointer (some ⟨b, o, none⟩))) (k : Nat) : VR φ n (fp (xs.toList.take k)) (.pointer (some ⟨b, o, none⟩)) := by
  cases hv with
  | fp _ _ _ _ ys C h1 h2 h3 h4 h5 =>
    have hl : (xs.toList.take k).toArray.size = (ys.toList.take k).toArray.size := by simp [h2]
    refine .fp _ b o _ (ys.toList.take k).toArray C h1 hl (fun i a b => ?_) (fun u hu => h4 u (List.mem_of_mem_take (by simpa using hu))) (fun i u hi => ?_)
    · have a' : i < xs.size := by simp at a; omega
      have := h3 i a' (by omega)
      simpa using this
    · simp only [List.getElem?_toArray, List.getElem?_take] at hi
      split at hi
      · exact h5 _ u (by simpa using hi)
      · cases hi
theorem fz_ok {n l : Nat} {xs : Array Value} {c : Value} (hv : VR φ n (.func (.yield l) xs #[]) c) :
    (l = 0 ∧ xs = #[] ∧ (c = .slice none 0 0 ∨ ∃ a k, c = .slice (some a) 0 k)) ∨ ∃ b o k, c = .slice (some ⟨b, o, none⟩) l k ∧ (l ≤ k ∧ l < 4611686018427387904) ∧ VR φ n (fp xs.toList) (.pointer (some ⟨b, o, none⟩)) := by
  cases hv with
  | fz0 _ hc => exact .inl ⟨rfl, rfl, hc⟩
  | fz _ k b o _ ys C hq h0 h1 h2 h3 h4 h5 => exact .inr ⟨b, o, k, rfl, ⟨h0, hq⟩, .fp _ b o _ ys C h1 h2 h3 h4 h5⟩
theorem vr_fzOf {n l k b o : Nat} {s : String} {xs : Array Value} (hq : l < 4611686018427387904) (h0 : l ≤ k) (hv : VR φ n (.func (.method s) xs #[]) (.pointer (some ⟨b, o, none⟩))) : VR φ n (fz l xs.toList) (.slice (some ⟨b, o, none⟩) l k) := by
  cases hv with
  | fp _ _ _ _ ys C h1 h2 h3 h4 h5 => exact .fz l k b o _ ys C hq h0 h1 h2 h3 h4 h5
theorem s_loadF1 {t : TypeId} {s : String} {xs zs : Array Value} {x c v : Value} (hr : HR base w0 φ h w) (hv : VR φ h.next x c) (hxe : x = .func (.method s) xs zs) (hs : aggS P t = some none) (hi : xs[0]? = some v) :
    OK base w0 φ h (((do pure (Next.value (← Instr.loadAt t c)) : Sem Next)).run P w) v h := by
  subst hxe
  have hz : zs = #[] := by cases hv <;> rfl
  subst hz
  obtain ⟨d, n, hu, hsz, hsn⟩ := aggS_some hs
  have hag : isAggT P t = false := by
    cases hq : isAggT P t with
    | false => rfl
    | true => simp [hq] at hsn
  obtain ⟨b, o, us, rfl, hvl, h1, hc⟩ := fp_ok hr hv
  obtain ⟨u, hu0, hvr⟩ := hvl.get (i := 0) (by simpa using hi)
  have hcell := hc 0 u hu0
  have hrun : (((do pure (Next.value (← Instr.loadAt t (.pointer (some ⟨b, o, none⟩)))) : Sem Next)).run P w) = .ok (.value u) w := by
    simp only [Nat.add_zero] at hcell
    simp [Instr.loadAt, Instr.sureAddr, loadVar, r_isAgg hu, hag, hcell]
  rw [hrun]
  exact OK.pure hr hvr
theorem s_loadFN {t : TypeId} {k : Nat} {s : String} {xs zs : Array Value} {x c : Value} (hr : HR base w0 φ h w) (hv : VR φ h.next x c) (hxe : x = .func (.method s) xs zs) (hs : aggS P t = some (some k)) (hi : k ≤ xs.size) :
    OK base w0 φ h (((do pure (Next.value (← Instr.loadAt t c)) : Sem Next)).run P w) (.agg (xs.toList.take k).toArray) h := by
  subst hxe
  have hz : zs = #[] := by cases hv <;> rfl
  subst hz
  obtain ⟨d, n, hu, hsz, hsn⟩ := aggS_some hs
  have hag : isAggT P t = true := by
    cases hq : isAggT P t with
    | false => simp [hq] at hsn
    | true => rfl
  have hns : n = k := by simp [hag] at hsn; exact hsn.symm
  subst hns
  obtain ⟨b, o, us, rfl, hvl, h1, hc⟩ := fp_ok hr hv
  have hl := r_loadCells (P := P) (w := w) (a := ⟨b, o, none⟩) (us := us.take n) (fun j u hj => by
    rw [add_none]
    rw [List.getElem?_take] at hj
    split at hj
    · exact hc j u hj
    · cases hj)
  have hlen : (us.take n).length = n := by have := hvl.1; simp at this; rw [List.length_take]; omega
  rw [hlen] at hl
  have hrun : (((do pure (Next.value (← Instr.loadAt t (.pointer (some ⟨b, o, none⟩)))) : Sem Next)).run P w) = .ok (.value (.agg (us.take n).toArray)) w := by
    simp [Instr.loadAt, Instr.sureAddr, loadVar, r_isAgg hu, hag, r_sizeOf hsz, hl]
  rw [hrun]
  exact OK.pure hr (hvl.take n).agg
theorem s_faF {t : TypeId} {fs : Array Field} {f : Nat} {fd : Field} {s : Nat} {q : String} {xs zs : Array Value} {x c : Value} (hr : HR base w0 φ h w) (hx : VR φ h.next x c) (hxe : x = .func (.method q) xs zs) (hu : P.underlying t = some (.struct fs)) (hf : fs[f]? = some fd) (hs : sizeT P fd.type = some s) (h0 : ¬ s = 0) :
    OK base w0 φ h (((do pure (Next.value (← Instr.fieldAt t c f))) : Sem Next).run P w) (fp (xs.toList.drop fd.offset)) h := by
  subst hxe
  have hz : zs = #[] := by cases hx <;> rfl
  subst hz
  obtain ⟨b, o, us, rfl, _⟩ := fp_ok hr hx
  have hrun : ((do pure (Next.value (← Instr.fieldAt t (.pointer (some ⟨b, o, none⟩)) f)) : Sem Next)).run P w = .ok (.value (.pointer (some ⟨b, o + fd.offset, none⟩))) w := by
    simp [Instr.fieldAt, Instr.sureAddr, run_underlying hu, hf, fieldPlace, r_sizeOf hs, h0, add_none]
  rw [hrun]
  exact OK.pure hr (vr_fpDrop hx _)
theorem s_iasF {t e : TypeId} {s l : Nat} {k : IntKind} {i : Int} {xs zs : Array Value} {x y c d : Value} (hr : HR base w0 φ h w) (hx : VR φ h.next x c) (hy : VR φ h.next y d) (hxe : x = .func (.yield l) xs zs) (hye : y = .int k i) (hu : P.underlying t = some (.slice e)) (hs : sizeT P e = some s) (hi : 0 ≤ i ∧ i < l) :
    OK base w0 φ h (((do pure (Next.value (← Instr.indexAt t c d))) : Sem Next).run P w) (fp (xs.toList.drop (i.toNat * s))) h := by
  subst hxe
  have hz : zs = #[] := by cases hx <;> rfl
  subst hz
  subst hye
  obtain rfl := int_of hy
  rcases fz_ok hx with ⟨h1, _⟩ | ⟨b, o, cp, rfl, ⟨hlc, hlq⟩, hp⟩
  · omega
  have hrun : ((do pure (Next.value (← Instr.indexAt t (.slice (some ⟨b, o, none⟩) l cp) (.int k i))) : Sem Next)).run P w = .ok (.value (.pointer (some ⟨b, o + i.toNat * s, none⟩))) w := by
    simp [Instr.indexAt, asIntOf, run_underlying hu, hi, r_sizeOf hs, add_none]
  rw [hrun]
  exact OK.pure hr (by simpa using vr_fpDrop hp (i.toNat * s))
theorem s_iaaF {t e : TypeId} {s n : Nat} {k : IntKind} {i : Int} {q : String} {xs zs : Array Value} {x y c d : Value} (hr : HR base w0 φ h w) (hx : VR φ h.next x c) (hy : VR φ h.next y d) (hxe : x = .func (.method q) xs zs) (hye : y = .int k i) (hu : P.underlying t = some (.array n e)) (hs : sizeT P e = some s) (hi : 0 ≤ i ∧ i < n) :
    OK base w0 φ h (((do pure (Next.value (← Instr.indexAt t c d))) : Sem Next).run P w) (fp (xs.toList.drop (i.toNat * s))) h := by
  subst hxe
  have hz : zs = #[] := by cases hx <;> rfl
  subst hz
  subst hye
  obtain rfl := int_of hy
  obtain ⟨b, o, us, rfl, _⟩ := fp_ok hr hx
  have hrun : ((do pure (Next.value (← Instr.indexAt t (.pointer (some ⟨b, o, none⟩)) (.int k i))) : Sem Next)).run P w = .ok (.value (.pointer (some ⟨b, o + i.toNat * s, none⟩))) w := by
    simp [Instr.indexAt, asIntOf, run_underlying hu, hi, r_sizeOf hs, Instr.sureAddr, add_none]
  rw [hrun]
  exact OK.pure hr (by simpa using vr_fpDrop hx (i.toNat * s))
theorem s_slsF {t e : TypeId} {s j : Nat} {xs zs : Array Value} {x c : Value} {lo hi : Option Operand} {lo' hi' : Option Opd} {l r : Nat} (hr : HR base w0 φ h w) (ht : TR φ h.next T a) (hx : VR φ h.next x c) (hxe : x = .func (.yield j) xs zs) (hu : P.underlying t = some (.slice e)) (hs : sizeT P e = some s) (h1 : opdO lo = some lo') (h2 : opdO hi = some hi') (b1 : bound T 0 lo' = some l) (b2 : bound T j hi' = some r) (hlr : l ≤ r) (hrl : r ≤ j) (hsz : xs.size = j * s) :
    OK base w0 φ h (((do pure (Next.value (← Instr.sliceAt t c (lo.map a.eval) (hi.map a.eval) none))) : Sem Next).run P w) (fz (r - l) ((xs.toList.drop (l * s)).take ((r - l) * s))) h := by
  subst hxe
  have hz : zs = #[] := by cases hx <;> rfl
  subst hz
  have emp : ∀ (c : Value), (c = .slice none 0 0 ∨ ∃ a k, c = .slice (some a) 0 k) → r = l → VR φ h.next (fz (r - l) ((xs.toList.drop (l * s)).take ((r - l) * s))) c := by
    intro c hc hrl
    subst hrl
    simp only [Nat.sub_self, Nat.zero_mul, List.take_zero]
    exact .fz0 _ hc
  rcases fz_ok hx with ⟨rfl, rfl, hc⟩ | ⟨b, o, cp, rfl, ⟨hlc, hlq⟩, hp⟩
  · obtain rfl : r = 0 := by omega
    obtain rfl : l = 0 := by omega
    rcases hc with rfl | ⟨ad, cp, rfl⟩
    · have hrun : ((do pure (Next.value (← Instr.sliceAt t (.slice none 0 0) (lo.map a.eval) (hi.map a.eval) none)) : Sem Next)).run P w = .ok (.value (.slice none 0 0)) w := by
        simp [Instr.sliceAt, Instr.slice, run_underlying hu, r_bounds (P := P) (w := w) (isSlice := true) ht h1 h2 b1 b2 (Nat.le_refl _) (Nat.le_refl _) (Nat.le_refl _), r_sizeOf hs]
      rw [hrun]
      exact OK.pure hr (emp _ (.inl rfl) rfl)
    · have hrun : ((do pure (Next.value (← Instr.sliceAt t (.slice (some ad) 0 cp) (lo.map a.eval) (hi.map a.eval) none)) : Sem Next)).run P w = .ok (.value (.slice (some (if cp = 0 then ad else ad.add (0 * s))) (0 - 0) (cp - 0))) w := by
        simp only [Instr.sliceAt, Instr.slice, Sem.run_bind, run_underlying hu, Result.andThen_ok, r_bounds (P := P) (w := w) (isSlice := true) ht h1 h2 b1 b2 (Nat.le_refl _) (Nat.le_refl _) (Nat.zero_le _), r_sizeOf hs, Sem.run_pure]
        split <;> simp
      rw [hrun]
      exact OK.pure hr (emp _ (.inr ⟨_, _, rfl⟩) rfl)
  · have hrun : ((do pure (Next.value (← Instr.sliceAt t (.slice (some ⟨b, o, none⟩) j cp) (lo.map a.eval) (hi.map a.eval) none)) : Sem Next)).run P w = .ok (.value (.slice (some (if cp = l then ⟨b, o, none⟩ else (⟨b, o, none⟩ : Addr).add (l * s))) (r - l) (cp - l))) w := by
      simp only [Instr.sliceAt, Instr.slice, Sem.run_bind, run_underlying hu, Result.andThen_ok, r_bounds (P := P) (w := w) (isSlice := true) ht h1 h2 b1 b2 hlr hrl hlc, r_sizeOf hs, Sem.run_pure]
      split <;> simp
    rw [hrun]
    refine OK.pure hr ?_
    by_cases hrl2 : r = l
    · refine emp _ (.inr ⟨if cp = l then ⟨b, o, none⟩ else (⟨b, o, none⟩ : Addr).add (l * s), cp - l, ?_⟩) hrl2
      rw [hrl2, Nat.sub_self]
    · rw [if_neg (by omega), add_none]
      have := (vr_fpDrop hp (l * s))
      have := vr_fpTake (by simpa [fp] using this) ((r - l) * s)
      have := vr_fzOf (l := r - l) (k := cp - l) (by omega) (by omega) this
      simpa using this
theorem s_lensF {t e ty : TypeId} {x c : Value} {l : Nat} {xs ys : Array Value} (hr : HR base w0 φ h w) (hx : VR φ h.next x c) (hu : P.underlying t = some (.slice e)) (hxe : x = .func (.yield l) xs ys) :
    OK base w0 φ h (((do pure (Next.value (← Builtin.len_ #[t] ty #[c]))) : Sem Next).run P w) (.int .i64 l) h := by
  subst hxe
  have hys : ys = #[] := by cases hx <;> rfl
  subst hys
  rcases fz_ok hx with ⟨rfl, rfl, rfl | ⟨ad, cp, rfl⟩⟩ | ⟨b, o, cp, rfl, ⟨hlc, hlq⟩, hp⟩
  · have hrun : ((do pure (Next.value (← Builtin.len_ #[t] ty #[.slice none 0 0])) : Sem Next)).run P w = .ok (.value (.int .i64 (0 : Nat))) w := by simp [Builtin.len_, run_underlying hu, goInt]
    rw [hrun]
    exact OK.pure hr (.int _ _)
  · have hrun : ((do pure (Next.value (← Builtin.len_ #[t] ty #[.slice (some ad) 0 cp])) : Sem Next)).run P w = .ok (.value (.int .i64 (0 : Nat))) w := by simp [Builtin.len_, run_underlying hu, goInt]
    rw [hrun]
    exact OK.pure hr (.int _ _)
  · have hrun : ((do pure (Next.value (← Builtin.len_ #[t] ty #[.slice (some ⟨b, o, none⟩) l cp])) : Sem Next)).run P w = .ok (.value (.int .i64 l)) w := by simp [Builtin.len_, run_underlying hu, goInt]
    rw [hrun]
    exact OK.pure hr (.int _ _)
end
end Go.Proofs.Ythofdojknjhpgaa
