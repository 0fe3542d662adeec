/- Own texts, merged: a part of the proof that is told in the last text of this claim. -/
import Derived.Test.YthofdojknjhpgaaCMV
set_option linter.unusedVariables false
set_option linter.unusedSimpArgs false
set_option linter.unusedSectionVars false
namespace Go.Proofs.Ythofdojknjhpgaa
open Go

def Cl (v : Value) : Prop := ∀ φ n ψ m c, (∀ b C, Phi.fz φ b = some C → Phi.fz ψ b = some C) → VR φ n v c → VR ψ m v c
theorem Cl.any : Cl (.tuple #[]) := fun _ _ _ _ c _ _ => .any c
theorem Cl.int {k : IntKind} {i : Int} : Cl (.int k i) := fun _ _ _ _ _ _ h => by cases h; exact .int _ _
theorem Cl.bool {b : Bool} : Cl (.bool b) := fun _ _ _ _ _ _ h => by cases h; exact .bool _
theorem Cl.string {b : ByteArray} : Cl (.string b) := fun _ _ _ _ _ _ h => by cases h; exact .string _
theorem Cl.slice0 : Cl (.slice none 0 0) := fun _ _ _ _ _ _ h => by cases h; exact .slice0
theorem Cl.ptr0 : Cl (.pointer none) := fun _ _ _ _ _ _ h => by cases h; exact .ptr0
theorem Cl.map0 : Cl (.map none) := fun _ _ _ _ _ _ h => by cases h; exact .map0
theorem Cl.nilFunc : Cl .nilFunc := fun _ _ _ _ _ _ h => by cases h; exact .nilFunc
theorem Cl.nilIface : Cl .nilIface := fun _ _ _ _ _ _ h => by cases h; exact .nilIface
theorem Cl.skip : Cl (.chan none) := fun _ _ _ _ _ _ h => by cases h; exact .skip
theorem Cl.iface {t : TypeId} {v : Value} (hv : Cl v) : Cl (.iface t v) := fun φ n ψ m _ hf h => by
  cases h with
  | iface _ _ c h1 h2 => exact .iface t v c h1 (hv φ n ψ m c hf h2)
theorem Cl.agg {vs : List Value} (hv : ∀ v ∈ vs, Cl v) : Cl (.agg vs.toArray) := fun φ n ψ m _ hf h => by
  cases h with
  | agg _ ys h1 h2 => exact .agg _ ys h1 fun i a b => hv _ (by simp) φ n ψ m _ hf (h2 i a b)
theorem Cl.tuple {vs : List Value} (hv : ∀ v ∈ vs, Cl v) : Cl (.tuple vs.toArray) := fun φ n ψ m c hf h => by
  cases vs with
  | nil => exact .any c
  | cons v0 vs =>
    cases h with
    | tuple _ ys h1 h2 => exact .tuple _ ys h1 fun i a b => hv _ (by simp) φ n ψ m _ hf (h2 i a b)
theorem Cl.fz {l : Nat} {vs : List Value} (hv : ∀ v ∈ vs, Cl v) : Cl (fz l vs) := fun φ n ψ m c hf h => by
  unfold Go.Proofs.Ythofdojknjhpgaa.fz at h ⊢
  generalize hx : vs.toArray = xs at h ⊢
  have hv' : ∀ v ∈ xs.toList, Cl v := by rw [← hx]; simpa using hv
  cases h with
  | fz0 _ hc => exact .fz0 _ hc
  | fz _ k b o _ ys C h0 h1 h2 h3 h4 h5 h6 => exact .fz l k b o _ ys C h0 h1 (hf _ _ h2) h3 (fun i a b => hv' _ (by simp) φ n ψ m _ hf (h4 i a b)) h5 h6
theorem Cl.fp {vs : List Value} (hv : ∀ v ∈ vs, Cl v) : Cl (fp vs) := fun φ n ψ m c hf h => by
  unfold Go.Proofs.Ythofdojknjhpgaa.fp at h ⊢
  generalize hx : vs.toArray = xs at h ⊢
  have hv' : ∀ v ∈ xs.toList, Cl v := by rw [← hx]; simpa using hv
  cases h with
  | fp _ b o _ ys C h2 h3 h4 h5 h6 => exact .fp _ b o _ ys C (hf _ _ h2) h3 (fun i a b => hv' _ (by simp) φ n ψ m _ hf (h4 i a b)) h5 h6
theorem Cl.func {f : FuncId} {xs cs : List Value} (hx : ∀ v ∈ xs, Cl v) (hc : ∀ v ∈ cs, Cl v) : Cl (.func (.func f) xs.toArray cs.toArray) := fun φ n ψ m c hf h => by
  cases h with
  | func _ _ ys _ ds h1 h2 h3 h4 => exact .func _ _ ys _ ds h1 (fun i a b => hx _ (by simp) φ n ψ m _ hf (h2 i a b)) h3 (fun i a b => hc _ (by simp) φ n ψ m _ hf (h4 i a b))
theorem Cl.rv {v : Value} (hv : Cl v) {σ : Nat → Nat} {n : Nat} : RV σ n v v := fun φ m c h => hv φ m (φ.via σ) n c (fun _ _ h => h) h

class Enc (α : Type) where
  w : Nat
  cells : α → List Value
  bd : α → Prop
  len : ∀ a, (cells a).length = w
  pos : 0 < w
  one : ∀ a, (cells a).all one = true
  cl : ∀ a, ∀ v ∈ cells a, Cl v
  vbd : ∀ (a : α) (φ : Phi) (n : Nat) (us : List Value), VRL φ n (cells a) us → bd a
section
variable {α : Type} [Enc α]
/-- The cells of a list. -/
def F (xs : List α) : List Value := xs.flatMap Enc.cells
/-- A list as a slice that nobody changes. -/
def L (xs : List α) : Value := fz xs.length (F xs)
def rd [Inhabited α] (xs : List α) (i : Nat) : α := xs.getD i default
theorem rd_eq [Inhabited α] {xs : List α} {i : Nat} (hi : i < xs.length) : rd xs i = xs[i] := by simp [rd, hi]
theorem rd_mem [Inhabited α] {xs : List α} {i : Nat} (hi : i < xs.length) : rd xs i ∈ xs := by rw [rd_eq hi]; exact List.getElem_mem _
theorem F_nil : F ([] : List α) = [] := rfl
theorem F_cons {x : α} {xs : List α} : F (x :: xs) = Enc.cells x ++ F xs := by simp [F]
theorem F_append {xs ys : List α} : F (xs ++ ys) = F xs ++ F ys := by simp [F]
theorem F_len {xs : List α} : (F xs).length = xs.length * Enc.w α := by
  induction xs with
  | nil => simp [F]
  | cons x xs ih => rw [F_cons, List.length_append, ih, Enc.len, List.length_cons, Nat.succ_mul]; omega
theorem F_drop {xs : List α} {i : Nat} : (F xs).drop (i * Enc.w α) = F (xs.drop i) := by
  induction xs generalizing i with
  | nil => simp [F]
  | cons x xs ih =>
    cases i with
    | zero => simp
    | succ i =>
      rw [F_cons, List.drop_succ_cons, ← ih, Nat.succ_mul, Nat.add_comm, ← Enc.len x, List.drop_length_add_append]
theorem F_take {xs : List α} {i : Nat} : (F xs).take (i * Enc.w α) = F (xs.take i) := by
  induction xs generalizing i with
  | nil => simp [F]
  | cons x xs ih =>
    cases i with
    | zero => simp [F]
    | succ i =>
      rw [F_cons, List.take_succ_cons, F_cons, ← ih, Nat.succ_mul, Nat.add_comm, ← Enc.len x, List.take_length_add_append]
theorem F_at [Inhabited α] {xs : List α} {i : Nat} (hi : i < xs.length) : F (xs.drop i) = Enc.cells (rd xs i) ++ F (xs.drop (i + 1)) := by
  rw [List.drop_eq_getElem_cons hi, F_cons, rd_eq hi]
theorem F_get [Inhabited α] {xs : List α} {i o : Nat} (hi : i < xs.length) (ho : o < Enc.w α) : (F xs)[i * Enc.w α + o]? = (Enc.cells (rd xs i))[o]? := by
  rw [← List.getElem?_drop, F_drop, F_at hi, List.getElem?_append, if_pos (by rw [Enc.len]; exact ho)]
theorem F_get1 [Inhabited α] {xs : List α} {i : Nat} (hw : Enc.w α = 1) (hi : i < xs.length) : (F xs)[i]? = (Enc.cells (rd xs i))[0]? := by
  have := F_get (o := 0) hi (by omega); rwa [hw, Nat.mul_one, Nat.add_zero] at this
theorem F_set {xs : List α} {i : Nat} {x : α} (hi : i < xs.length) : splice (F xs) (i * Enc.w α) (Enc.cells x) = F (xs.set i x) := by
  rw [splice, F_take, Enc.len, show i * Enc.w α + Enc.w α = (i + 1) * Enc.w α by rw [Nat.succ_mul], F_drop, List.set_eq_take_append_cons_drop, if_pos hi, F_append, F_cons, List.append_assoc]
theorem F_set1 {xs : List α} {i : Nat} {x : α} {v : Value} (hx : Enc.cells x = [v]) (hi : i < xs.length) : (F xs).set i v = F (xs.set i x) := by
  have hw : Enc.w α = 1 := by rw [← Enc.len x, hx]; rfl
  rw [← F_set hi, hx, hw, Nat.mul_one, splice, List.set_eq_take_append_cons_drop, if_pos (by rw [F_len, hw]; omega)]
  simp
theorem F_one {xs : List α} : (F xs).all one = true := by
  rw [List.all_eq_true]
  intro v hv
  obtain ⟨x, hx, hv⟩ := List.mem_flatMap.1 hv
  exact List.all_eq_true.1 (Enc.one x) v hv
theorem F_cl {xs : List α} : ∀ v ∈ F xs, Cl v := by
  intro v hv
  obtain ⟨x, hx, hv⟩ := List.mem_flatMap.1 hv
  exact Enc.cl x v hv
theorem L_cl {xs : List α} : Cl (L xs) := Cl.fz F_cl
theorem L_one {xs : List α} : one (L xs) = true := rfl
/-- What is known of the sizes of a list that is there. -/
def Bd (xs : List α) : Prop := xs.length < 4611686018427387904 ∧ ∀ x ∈ xs, Enc.bd x
theorem L_bd {xs : List α} {φ : Phi} {n : Nat} {c : Value} (hv : VR φ n (L xs) c) : Bd xs := by
  unfold L fz at hv
  rcases fz_ok hv with ⟨h0, _⟩ | ⟨b, o, k, rfl, ⟨_, hq⟩, hp⟩
  · obtain rfl : xs = [] := List.eq_nil_of_length_eq_zero h0
    exact ⟨by simp, by simp⟩
  · refine ⟨hq, fun x hx => ?_⟩
    obtain ⟨i, hi, rfl⟩ := List.getElem_of_mem hx
    have h1 := vr_fpTake (vr_fpDrop hp (i * Enc.w α)) (Enc.w α)
    have e1 : ((F xs).drop (i * Enc.w α)).take (Enc.w α) = Enc.cells xs[i] := by
      rw [F_drop, List.drop_eq_getElem_cons hi, F_cons, List.take_append_of_le_length (by rw [Enc.len]; omega), List.take_of_length_le (by rw [Enc.len]; omega)]
    have h2 : VR φ n (fp (Enc.cells xs[i])) (.pointer (some ⟨b, o + i * Enc.w α, none⟩)) := by
      rw [← e1]; exact h1
    unfold fp at h2
    cases h2 with
    | fp _ _ _ _ ys C g1 g2 g3 g4 g5 => exact Enc.vbd xs[i] φ n ys.toList (by simpa using VRL.of_arrays g2 g3)
instance : Enc Int where
  w := 1
  cells x := [.int .i64 x]
  bd _ := True
  len _ := rfl
  pos := by decide
  one _ := rfl
  cl a v hv := by simp at hv; subst hv; exact Cl.int
  vbd _ _ _ _ _ := trivial
instance : Enc Bool where
  w := 1
  cells x := [.bool x]
  bd _ := True
  len _ := rfl
  pos := by decide
  one _ := rfl
  cl a v hv := by simp at hv; subst hv; exact Cl.bool
  vbd _ _ _ _ _ := trivial
instance : Enc ByteArray where
  w := 1
  cells x := [.string x]
  bd _ := True
  len _ := rfl
  pos := by decide
  one _ := rfl
  cl a v hv := by simp at hv; subst hv; exact Cl.string
  vbd _ _ _ _ _ := trivial
instance : Enc (List α) where
  w := 1
  cells x := [L x]
  bd x := Bd x
  len _ := rfl
  pos := by decide
  one _ := rfl
  cl a v hv := by simp at hv; subst hv; exact L_cl
  vbd a φ n us hu := by
    obtain ⟨c, _, hc⟩ := hu.get (i := 0) rfl
    exact L_bd hc
theorem cells_int {x : Int} : Enc.cells x = [.int .i64 x] := nr rfl
theorem cells_bool {x : Bool} : Enc.cells x = [.bool x] := nr rfl
theorem cells_str {x : ByteArray} : Enc.cells x = [.string x] := nr rfl
theorem cells_list {x : List α} : Enc.cells x = [L x] := nr rfl

variable {T : Tm} {h : AH}
/-- The pointer to the cell o of the element i. -/
def ef (xs : List α) (i o : Nat) : Value := fp ((F (xs.drop i)).drop o)
theorem lens1_L {xs : List α} : lens1 (L xs) h = some (.int .i64 xs.length, h) := nr rfl
theorem ias1_L {xs : List α} {e : Nat} {k : IntKind} {j : Int} (he : Enc.w α = e) (h0 : 0 ≤ j) (h1 : j.toNat < xs.length) : ias1 e (L xs) (.int k j) h = some (ef xs j.toNat 0, h) := by
  subst he
  simp only [ias1, L, fz, h0, show j < xs.length by omega, and_self, if_true, ef, List.drop_zero, F_drop, List.toList_toArray]
theorem fa1_ef {xs : List α} {i o off : Nat} : fa1 off (ef xs i o) h = some (ef xs i (o + off), h) := nr <| by
  simp [fa1, ef, fp]
theorem nil1_ef {xs : List α} {i o : Nat} : nil1 (ef xs i o) h = some (ef xs i o, h) := nr rfl
theorem ld1_ef [Inhabited α] {xs : List α} {i o : Nat} (hi : i < xs.length) (ho : o < Enc.w α) : ld1 (ef xs i o) h = opt1 (Enc.cells (rd xs i))[o]? h := by
  have : ((F (xs.drop i)).drop o)[0]? = (Enc.cells (rd xs i))[o]? := by
    rw [List.getElem?_drop, Nat.add_zero, F_at hi, List.getElem?_append, if_pos (by rw [Enc.len]; exact ho)]
  simp only [ld1, ef, fp, List.getElem?_toArray, this]
theorem lds1_ef [Inhabited α] {xs : List α} {i o s : Nat} (hi : i < xs.length) (ho : o + s ≤ Enc.w α) : lds1 s (ef xs i o) h = some (.agg (((Enc.cells (rd xs i)).drop o).take s).toArray, h) := by
  have hl := Enc.len (rd xs i)
  have : ((F (xs.drop i)).drop o).take s = ((Enc.cells (rd xs i)).drop o).take s := by
    rw [F_at hi, List.drop_append, List.take_append, show s - ((Enc.cells (rd xs i)).drop o).length = 0 by rw [List.length_drop]; omega]; simp
  have h2 : s ≤ ((F (xs.drop i)).drop o).length := by
    rw [F_at hi, List.length_drop, List.length_append]; omega
  simp only [lds1, ef, fp, List.size_toArray, h2, if_true, List.toList_toArray, this]
theorem one_L {xs : List α} : one (L xs) = true := nr rfl
theorem src_L {xs : List α} {e : Nat} (he : Enc.w α = e) : h.src e (L xs) = some (F xs) := by
  subst he; simp [AH.src, L, fz, F_len]
theorem lenV_L {xs : List α} : lenV (L xs) = some xs.length := nr rfl
theorem sls1_L {xs : List α} {e l r : Nat} {lo hi : Option Value} (he : Enc.w α = e) (h1 : bnd1 0 lo = some l) (h2 : bnd1 xs.length hi = some r) (hl : l ≤ r) (hr : r ≤ xs.length) : sls1 e (L xs) lo hi h = some (L ((xs.drop l).take (r - l)), h) := by
  subst he
  have e1 : (List.take (r - l) (List.drop l xs)).length = r - l := by rw [List.length_take, List.length_drop]; omega
  simp only [sls1, L, fz, h1, h2, hl, hr, and_self, List.size_toArray, F_len, if_true, F_drop, F_take, e1]
theorem sls1_Ll {xs : List α} {e : Nat} {k : IntKind} {j : Int} (he : Enc.w α = e) (h0 : 0 ≤ j) (h1 : j.toNat ≤ xs.length) : sls1 e (L xs) none (some (.int k j)) h = some (L (xs.take j.toNat), h) := by
  have := sls1_L (h := h) (xs := xs) (lo := none) (hi := some (.int k j)) (l := 0) (r := j.toNat) he rfl (by simp [bnd1, h0]) (Nat.zero_le _) h1
  simpa using this
theorem sls1_Lr {xs : List α} {e : Nat} {k : IntKind} {j : Int} (he : Enc.w α = e) (h0 : 0 ≤ j) (h1 : j.toNat ≤ xs.length) : sls1 e (L xs) (some (.int k j)) none h = some (L (xs.drop j.toNat), h) := by
  have := sls1_L (h := h) (xs := xs) (lo := some (.int k j)) (hi := none) (l := j.toNat) (r := xs.length) he (by simp [bnd1, h0]) rfl h1 (Nat.le_refl _)
  rw [this, List.take_of_length_le (by rw [List.length_drop]; omega)]
theorem oeq_L0 {xs : List α} {eqs : List (Nat × Nat)} (hx : 0 < xs.length) : oeq 3 eqs (L xs) (.slice none 0 0) = some false := by simp [oeq, L, fz, hx]
end

def AH.app (h : AH) (bs : List (Option Blk)) : AH := { blk := fun B => if B < h.next then h.blk B else (bs[B - h.next]?).join, next := h.next + bs.length, ro := h.ro }
structure Wf (h : AH) : Prop where
  lt : ∀ B b, h.get B = some b → B < h.next
  low : ∀ B b, h.get B = some b → LowB h.next b
  ro : h.ro ≤ h.next
section
variable {h : AH} {bs cs : List (Option Blk)} {b : Blk} {x : Option Blk} {i B : Nat}
theorem ah_ext {h h' : AH} (hg : ∀ B, h.get B = h'.get B) (hn : h.next = h'.next) (hr : h.ro = h'.ro) : h = h' := AH.ext (funext hg) hn hr
theorem app_getB : (h.app bs).get B = if B < h.next then h.get B else (bs[B - h.next]?).join := nr rfl
theorem app_next : (h.app bs).next = h.next + bs.length := nr rfl
theorem app_ro : (h.app bs).ro = h.ro := nr rfl
theorem app_nil (hw : Wf h) : h.app [] = h := by
  refine ah_ext (fun B => ?_) (by rw [app_next]; rfl) rfl
  rw [app_getB]
  split
  · rfl
  · rename_i hB
    cases hq : h.get B with
    | none => simp
    | some b => exact absurd (hw.lt B b hq) hB
theorem app_new : (h.app bs).new b = h.app (bs ++ [some b]) := by
  refine ah_ext (fun B => ?_) (by rw [AH.next_new, app_next, app_next, List.length_append]; rfl) rfl
  rw [AH.get_new, app_getB, app_getB, app_next]
  rcases Nat.lt_trichotomy B (h.next + bs.length) with h1 | h1 | h1
  · rw [if_neg (by omega)]
    split
    · rfl
    · rw [List.getElem?_append, if_pos (by omega)]
  · subst h1; rw [if_pos rfl, if_neg (by omega), List.getElem?_append, if_neg (by omega)]; simp
  · rw [if_neg (by omega), if_neg (by omega), if_neg (by omega), List.getElem?_append, if_neg (by omega), List.getElem?_eq_none (by omega), List.getElem?_eq_none (by simp; omega)]
theorem app_put (hi : i < bs.length) : (h.app bs).put (h.next + i) x = h.app (bs.set i x) := by
  refine ah_ext (fun B => ?_) (by rw [AH.next_put, app_next, app_next, List.length_set]) rfl
  rw [AH.get_put, app_getB, app_getB]
  by_cases h1 : B = h.next + i
  · subst h1; rw [if_pos rfl, if_neg (by omega), show h.next + i - h.next = i by omega, List.getElem?_set, if_pos rfl, if_pos hi]; rfl
  · rw [if_neg h1]
    split
    · rfl
    · rw [List.getElem?_set, if_neg (by omega)]
theorem app_put0 (hi : 0 < bs.length) : (h.app bs).put h.next x = h.app (bs.set 0 x) := app_put (i := 0) hi
theorem app_get : (h.app bs).get (h.next + i) = (bs[i]?).join := by
  rw [app_getB, if_neg (by omega), show h.next + i - h.next = i by omega]
theorem app_get0 : (h.app bs).get h.next = (bs[0]?).join := app_get (i := 0)
theorem app_get_lt (hB : B < h.next) : (h.app bs).get B = h.get B := by rw [app_getB, if_pos hB]
theorem app_put_lt (hB : B < h.next) : (h.app bs).put B x = (h.put B x).app bs := by
  refine ah_ext (fun C => ?_) rfl rfl
  rw [AH.get_put, app_getB, app_getB, AH.get_put, AH.next_put]
  by_cases h1 : C = B
  · subst h1; rw [if_pos rfl, if_pos hB, if_pos rfl]
  · rw [if_neg h1, if_neg h1]
theorem app_app : (h.app bs).app cs = h.app (bs ++ cs) := by
  refine ah_ext (fun C => ?_) (by rw [app_next, app_next, app_next, List.length_append]; omega) rfl
  rw [app_getB, app_getB, app_getB, app_next]
  rcases Nat.lt_or_ge C h.next with h1 | h1
  · rw [if_pos (by omega), if_pos h1, if_pos h1]
  · rw [if_neg (show ¬ C < h.next by omega), if_neg (show ¬ C < h.next by omega), List.getElem?_append]
    by_cases h2 : C < h.next + bs.length
    · rw [if_pos h2, if_pos (by omega)]
    · rw [if_neg h2, if_neg (by omega), show C - (h.next + bs.length) = C - h.next - bs.length by omega]
theorem new_app (hw : Wf h) : h.new b = h.app [some b] := by
  have := app_new (h := h) (bs := []) (b := b)
  rwa [app_nil hw] at this

def cellAt (b : Option Blk) (o : Nat) : Option Value := match b with | some (.row _ _ cs) => cs[o]? | _ => none
theorem ld1_ptr {o : Nat} : ld1 (.pointer (some ⟨B, o, none⟩)) h = opt1 (cellAt (h.get B) o) h := nr <| by
  simp only [ld1, cellAt]; cases h.get B with
  | none => rfl
  | some b => cases b <;> rfl
theorem cellAt_row {t : TypeId} {e o : Nat} {cs : List Value} : cellAt (some (.row t e cs)) o = cs[o]? := nr rfl
def ldsAt (s : Nat) (b : Option Blk) (o : Nat) (h : AH) : Option (Value × AH) := match b with | some (.row _ _ cs) => if o + s ≤ cs.length then some (.agg ((cs.drop o).take s).toArray, h) else none | _ => none
theorem lds1_ptr {o s : Nat} : lds1 s (.pointer (some ⟨B, o, none⟩)) h = ldsAt s (h.get B) o h := nr <| by
  simp only [lds1, ldsAt]; cases h.get B with
  | none => rfl
  | some b => cases b <;> rfl
theorem ldsAt_row {t : TypeId} {e o s : Nat} {cs : List Value} (hs : o + s ≤ cs.length) : ldsAt s (some (.row t e cs)) o h = some (.agg ((cs.drop o).take s).toArray, h) := by simp only [ldsAt, if_pos hs]
def stAt (s : Nat) (b : Option Blk) (B o : Nat) (x : Value) (h : AH) : Option (Value × AH) := match b with
  | some (.row t e cs) => if h.ro ≤ B ∧ (cellsOf x).length = s ∧ o + s ≤ cs.length ∧ (cellsOf x).all one = true then some (.tuple #[], h.put B (some (.row t e (splice cs o (cellsOf x))))) else none
  | _ => none
theorem st1_ptr {o s : Nat} {v : Value} : st1 s (.pointer (some ⟨B, o, none⟩)) v h = stAt s (h.get B) B o v h := nr <| by
  simp only [st1, stAt]; cases h.get B with
  | none => rfl
  | some b => cases b <;> rfl
theorem stAt_row {t : TypeId} {e o : Nat} {cs : List Value} {v : Value} (hr : h.ro ≤ B) (ho : o < cs.length) (hv : one v = true) : stAt 1 (some (.row t e cs)) B o v h = some (.tuple #[], h.put B (some (.row t e (cs.set o v)))) := by
  have h1 : o + 1 ≤ cs.length := ho
  simp only [stAt, cells_one hv, hr, List.length_singleton, h1, List.all_cons, hv, List.all_nil, Bool.and_self, and_self, if_true, splice]
  rw [List.set_eq_take_append_cons_drop, if_pos ho]; simp
theorem ro_le (hr : h.ro ≤ h.next) : (h.app bs).ro ≤ h.next + i := by show h.ro ≤ _; omega
theorem ro_le0 (hr : h.ro ≤ h.next) : (h.app bs).ro ≤ h.next := hr
end

section
variable {n0 : Nat} {T T0 T' : Tm} {h h0 h' : AH} {v v' : Value}
structure Less (T0 : Tm) (h0 : AH) (T : Tm) (h : AH) : Prop where
  t : ∀ i, T0 i = .tuple #[] ∨ T0 i = T i
  g : h0 = h
theorem Less.nil : Less TE h T h := ⟨fun i => .inl rfl, rfl⟩
theorem Less.upd {n : Nat} {T0 : Tm} (k : Less T0 h T' h') (hv : T' n = v) : Less (upd T0 n v) h T' h' := ⟨fun i => by
  unfold Go.Proofs.Ythofdojknjhpgaa.upd; split
  · subst hv; rename_i e; subst e; exact .inr rfl
  · exact k.t i, k.g⟩
theorem Less.wk (k : Less T0 h0 T h) : Wk n0 T0 h0 T h := by
  obtain ⟨ht, rfl⟩ := k
  intro base w0 φ m a w hn hst
  refine ⟨φ, Agr.refl _ _, hn, hst.hr, fun i => ?_, hst.df, hst.sz⟩
  rcases ht i with h1 | h1
  · rw [h1]; exact .any _
  · rw [h1]; exact hst.tr i
def RVs (σ : Nat → Nat) (n : Nat) (T0 T : Tm) : Prop := ∀ i, RV σ n (T0 i) (T i)
theorem RVs.nil {σ : Nat → Nat} {n : Nat} : RVs σ n TE T := fun _ => RV.any
theorem RVs.upd {σ : Nat → Nat} {n d : Nat} (k : RVs σ n T0 T) (hv : RV σ n v (T d)) : RVs σ n (Go.Proofs.Ythofdojknjhpgaa.upd T0 d v) T := fun i => by
  unfold Go.Proofs.Ythofdojknjhpgaa.upd; split
  · rename_i e; subst e; exact hv
  · exact k i
theorem RVs.updc {σ : Nat → Nat} {n d : Nat} (k : RVs σ n T0 T) (hc : Cl v) (hv : T d = v) : RVs σ n (Go.Proofs.Ythofdojknjhpgaa.upd T0 d v) T := k.upd (by rw [hv]; exact hc.rv)
theorem RB.cl {σ : Nat → Nat} {n e : Nat} {t : TypeId} {cs : List Value} (hc : ∀ v ∈ cs, Cl v) : RB (RV σ n) (.row t e cs) (.row t e cs) :=
  ⟨rfl, rfl, fun i v0 hi => ⟨v0, hi, (hc v0 (List.mem_of_getElem? hi)).rv⟩⟩
theorem RB.F {α : Type} [Enc α] {σ : Nat → Nat} {n e : Nat} {t : TypeId} {xs : List α} : RB (RV σ n) (.row t e (F xs)) (.row t e (F xs)) := RB.cl F_cl
def RVl (σ : Nat → Nat) (n : Nat) : List Value → List Value → Prop
  | [], _ => True
  | v0 :: l0, v :: l => RV σ n v0 v ∧ RVl σ n l0 l
  | _ :: _, [] => False
theorem RB.list {σ : Nat → Nat} {n e : Nat} {t : TypeId} : ∀ {l0 l : List Value}, RVl σ n l0 l → RB (RV σ n) (.row t e l0) (.row t e l)
  | [], l, _ => ⟨rfl, rfl, fun i v0 hi => by simp at hi⟩
  | v0 :: l0, v :: l, ⟨h1, h2⟩ => by
    obtain ⟨_, _, h3⟩ := RB.list (t := t) (e := e) h2
    refine ⟨rfl, rfl, fun i v1 hi => ?_⟩
    cases i with
    | zero => simp at hi; subst hi; exact ⟨v, rfl, h1⟩
    | succ i => simpa using h3 i v1 (by simpa using hi)
/-- The renumbering that a list of places tells. -/
def rnm (n0 : Nat) (l : List Nat) : Nat → Nat := fun B => if B < n0 then B else n0 + (l[B - n0]?).getD 0
theorem ren_lt {l : List Nat} {B : Nat} (hB : B < n0) : rnm n0 l B = B := by simp [rnm, hB]
theorem ren_at {l : List Nat} {i : Nat} : rnm n0 l (n0 + i) = n0 + (l[i]?).getD 0 := by
  simp only [rnm]; rw [if_neg (by omega), show n0 + i - n0 = i by omega]
theorem ren_at0 {l : List Nat} : rnm n0 l n0 = n0 + (l[0]?).getD 0 := ren_at (i := 0)
def AppOk (σ : Nat → Nat) (n : Nat) (bs : List (Option Blk)) : List Nat → List (Option Blk) → Prop
  | [], [] => True
  | j :: l, none :: bs0 => AppOk σ n bs l bs0
  | j :: l, some b0 :: bs0 => (∃ b, bs[j]? = some (some b) ∧ RB (RV σ n) b0 b) ∧ AppOk σ n bs l bs0
  | _, _ => False
theorem AppOk.at {σ : Nat → Nat} {n : Nat} {bs : List (Option Blk)} : ∀ {l : List Nat} {bs0 : List (Option Blk)}, AppOk σ n bs l bs0 → ∀ (i : Nat) (b0 : Blk), bs0[i]? = some (some b0) → ∃ j b, l[i]? = some j ∧ bs[j]? = some (some b) ∧ RB (RV σ n) b0 b
  | [], [], _, i, b0, hi => by simp at hi
  | j :: l, none :: bs0, hk, i, b0, hi => by
    cases i with
    | zero => simp at hi
    | succ i =>
      have hk' : AppOk σ n bs l bs0 := hk
      simpa using AppOk.at hk' i b0 (by simpa using hi)
  | j :: l, some b1 :: bs0, hk, i, b0, hi => by
    cases i with
    | zero => simp at hi; subst hi; obtain ⟨b, h1, h2⟩ := hk.1; exact ⟨j, b, rfl, h1, h2⟩
    | succ i => simpa using AppOk.at hk.2 i b0 (by simpa using hi)
  | [], _ :: _, hk, i, b0, hi => hk.elim
  | _ :: _, [], hk, i, b0, hi => hk.elim
theorem Wk.app {bs0 bs : List (Option Blk)} (l : List Nat) (hw : Wf h) (hd : l.Nodup) (hb : AppOk (rnm h.next l) (h.next + bs0.length) bs l bs0) (ht : RVs (rnm h.next l) (h.next + bs0.length) T0 T) : Wk h.next T0 (h.app bs0) T (h.app bs) := by
  have hcase : ∀ B b0, (h.app bs0).get B = some b0 → (B < h.next ∧ h.get B = some b0) ∨ ∃ i, B = h.next + i ∧ bs0[i]? = some (some b0) := by
    intro B b0 hB
    rcases Nat.lt_or_ge B h.next with h1 | h1
    · rw [app_get_lt h1] at hB; exact .inl ⟨h1, hB⟩
    · obtain ⟨i, rfl⟩ : ∃ i, B = h.next + i := ⟨B - h.next, by omega⟩
      rw [app_get] at hB
      exact .inr ⟨i, rfl, Option.join_eq_some_iff.1 hB⟩
  refine Wk.ren (rnm h.next l) (fun B hB => ren_lt hB) (by rw [app_next]; omega) rfl hw.ro ht ?_ ?_
  · intro B b0 hB
    rcases hcase B b0 hB with ⟨h1, h2⟩ | ⟨i, rfl, h2⟩
    · refine ⟨by rw [app_next]; omega, fun h3 => by omega, b0, by rw [ren_lt h1, app_get_lt h1]; exact h2, ?_⟩
      have hl := hw.low B b0 h2
      cases b0 with
      | row t e cs => exact ⟨rfl, rfl, fun i v0 hi => ⟨v0, hi, RV.low (hl v0 (List.mem_of_getElem? hi)) (fun B hB => ren_lt hB) (by rw [app_next]; omega)⟩⟩
      | map es => exact ⟨rfl, fun i k0 v0 hi => ⟨v0, hi, RV.low (hl _ (List.mem_of_getElem? hi)) (fun B hB => ren_lt hB) (by rw [app_next]; omega)⟩⟩
    · obtain ⟨j, b, g1, g2, g3⟩ := hb.at i b0 h2
      have hi : i < bs0.length := (List.getElem?_eq_some_iff.1 h2).1
      exact ⟨by rw [app_next]; omega, fun _ => by rw [ren_at]; omega, b, by rw [ren_at, g1, Option.getD_some, app_get, g2]; rfl, g3⟩
  · intro B C b c hB hC heq
    rcases hcase B b hB with ⟨h1, h2⟩ | ⟨i, rfl, h2⟩ <;> rcases hcase C c hC with ⟨h3, h4⟩ | ⟨k, rfl, h4⟩
    · rw [ren_lt h1, ren_lt h3] at heq; exact heq
    · rw [ren_lt h1, ren_at] at heq; omega
    · rw [ren_lt h3, ren_at] at heq; omega
    · obtain ⟨j, _, g1, _⟩ := hb.at i b h2
      obtain ⟨j', _, g1', _⟩ := hb.at k c h4
      rw [ren_at, ren_at, g1, g1'] at heq
      simp at heq
      subst heq
      have := (List.getElem?_inj (List.getElem?_eq_some_iff.1 g1).1 hd).1 (g1.trans g1'.symm)
      omega
/-- Down to the heap of the beginning. -/
theorem Wk.app0 {bs : List (Option Blk)} (hw : Wf h) (ht : RVs (rnm h.next []) h.next T0 T) : Wk h.next T0 h T (h.app bs) := by
  have := Wk.app (T0 := T0) (T := T) (bs0 := []) (bs := bs) [] hw List.nodup_nil trivial ht
  rwa [app_nil hw] at this

variable {α : Type} [Enc α]
def ow (B n : Nat) : Value := if n = 0 then .slice none 0 0 else .slice (some ⟨B, 0, none⟩) n n
def owb (t : TypeId) (xs : List α) : Option Blk := if xs.length = 0 then none else some (.row t (Enc.w α) (F xs))
theorem ow_succ {B n : Nat} : ow B (n + 1) = .slice (some ⟨B, 0, none⟩) (n + 1) (n + 1) := by simp [ow]
theorem ow_zero {B : Nat} : ow B 0 = .slice none 0 0 := nr rfl
theorem owb_nil {t : TypeId} : owb t ([] : List α) = none := nr rfl
theorem owb_push {t : TypeId} {xs : List α} {x : α} : owb t (xs ++ [x]) = some (.row t (Enc.w α) (F (xs ++ [x]))) := by simp [owb]
theorem lens1_ow {B n : Nat} : lens1 (ow B n) h = some (.int .i64 n, h) := by
  unfold ow; split
  · rename_i h0; subst h0; rfl
  · rfl
theorem one_ow {B n : Nat} : one (ow B n) = true := by unfold ow; split <;> rfl
theorem ias1_ow {B n e : Nat} {k : IntKind} {j : Int} (h0 : 0 ≤ j) (h1 : j.toNat < n) : ias1 e (ow B n) (.int k j) h = some (.pointer (some ⟨B, j.toNat * e, none⟩), h) := by
  unfold ow
  rw [if_neg (by omega)]
  simp [ias1, h0, show j < n by omega]
theorem cellAt_owb [Inhabited α] {t : TypeId} {xs : List α} {i o : Nat} (hi : i < xs.length) (ho : o < Enc.w α) : cellAt (owb t xs) (i * Enc.w α + o) = (Enc.cells (rd xs i))[o]? := by
  unfold owb; rw [if_neg (by omega), cellAt_row, F_get hi ho]
theorem cellAt_owb1 [Inhabited α] {t : TypeId} {xs : List α} {i : Nat} (hw : Enc.w α = 1) (hi : i < xs.length) : cellAt (owb t xs) i = (Enc.cells (rd xs i))[0]? := by
  have := cellAt_owb (t := t) (o := 0) hi (by omega); rwa [hw, Nat.mul_one, Nat.add_zero] at this
theorem owb_src {B e : Nat} {t : TypeId} {xs : List α} (he : Enc.w α = e) (hg : h.get B = owb t xs) : h.src e (ow B xs.length) = some (F xs) := by
  subst he
  unfold ow owb at *
  by_cases h0 : xs.length = 0
  · rw [if_pos h0]
    obtain rfl : xs = [] := List.eq_nil_of_length_eq_zero h0
    rfl
  · rw [if_neg h0] at hg ⊢
    simp only [AH.src, AH.row?, hg]
    rw [if_neg h0, if_pos (by rw [F_len]; omega), List.drop_zero, List.take_of_length_le (by rw [F_len]; omega)]
theorem owb_lenV {B n : Nat} : lenV (ow B n) = some n := by
  unfold ow; split
  · rename_i h0; subst h0; rfl
  · rfl
/-- Any source, one's own list: append. -/
theorem app1_ow {t : TypeId} {e bytes i : Nat} {bs : List (Option Blk)} {xs ys : List α} {u : Value} (he : Enc.w α = e) (hi : bs[i]? = some (owb t xs)) (hs : (h.app bs).src e u = some (F ys)) (hm : lenV u = some ys.length) (hy : ys ≠ []) (hr : h.ro ≤ h.next) (hb : (xs.length + ys.length) * bytes ≤ 140737488355328) (hb2 : xs.length + ys.length ≤ 9223372036854775807) :
    app1 t e bytes (ow (h.next + i) xs.length) u (h.app bs) = some (ow (h.next + bs.length) (xs ++ ys).length, h.app (bs.set i none ++ [owb t (xs ++ ys)])) := by
  subst he
  have hy0 : ¬ ys.length = 0 := fun h0 => hy (List.eq_nil_of_length_eq_zero h0)
  have hil : i < bs.length := (List.getElem?_eq_some_iff.1 hi).1
  have e1 : owb t (xs ++ ys) = some (.row t (Enc.w α) (F (xs ++ ys))) := by unfold owb; rw [if_neg (by rw [List.length_append]; omega)]
  have e2 : ow (h.next + bs.length) (xs ++ ys).length = .slice (some ⟨(h.app bs).next, 0, none⟩) (xs.length + ys.length) (xs.length + ys.length) := by
    unfold ow; rw [if_neg (by rw [List.length_append]; omega), List.length_append, app_next]
  rw [e1, e2]
  by_cases h0 : xs.length = 0
  · obtain rfl : xs = [] := List.eq_nil_of_length_eq_zero h0
    have e3 : bs.set i none = bs := by
      apply List.ext_getElem?
      intro j
      rw [List.getElem?_set]
      split
      · rename_i hj; subst hj; rw [hi]; rfl
      · rfl
    simp only [app1, hs, hm, ow, List.length_nil, if_true, Nat.zero_add] at hb hb2 ⊢
    rw [if_neg hy0, if_pos ⟨hb, hb2, F_one⟩, e3, app_new]
    rfl
  · have hg : (h.app bs).get (h.next + i) = some (.row t (Enc.w α) (F xs)) := by rw [app_get, hi]; simp [owb, h0]
    have e4 : (F xs).take (xs.length * Enc.w α) = F xs := List.take_of_length_le (by rw [F_len]; omega)
    simp only [app1, hs, hm, ow]
    rw [if_neg h0]
    simp only [AH.row?, hg, e4]
    rw [if_neg hy0, if_pos ⟨hb, hb2, F_one⟩, if_pos ⟨by show h.ro ≤ _; omega, trivial, trivial, trivial, by rw [F_len]; omega, F_one⟩, app_new, app_put (by simp; omega), F_append, List.set_append_left _ _ hil]
theorem app1_push {t t1 : TypeId} {e bytes i j : Nat} {bs : List (Option Blk)} {xs : List α} {x : α} (he : Enc.w α = e) (hi : bs[i]? = some (owb t xs)) (hj : bs[j]? = some (some (.row t1 e (Enc.cells x)))) (hr : h.ro ≤ h.next) (hb : (xs.length + 1) * bytes ≤ 140737488355328) (hb2 : xs.length + 1 ≤ 9223372036854775807) :
    app1 t e bytes (ow (h.next + i) xs.length) (.slice (some ⟨h.next + j, 0, none⟩) 1 1) (h.app bs) = some (ow (h.next + bs.length) (xs.length + 1), h.app (bs.set i none ++ [owb t (xs ++ [x])])) := by
  have hs : (h.app bs).src e (.slice (some ⟨h.next + j, 0, none⟩) 1 1) = some (F [x]) := by
    subst he
    have hx := Enc.len x
    simp only [AH.src, AH.row?, app_get, hj, Option.join_some]
    rw [if_neg (by decide), if_pos (by omega), List.drop_zero, List.take_of_length_le (by omega), F_cons, F_nil, List.append_nil]
  have := app1_ow (ys := [x]) (u := .slice (some ⟨h.next + j, 0, none⟩) 1 1) he hi hs rfl (by simp) hr hb hb2
  simpa using this
/-- A list of one's own becomes one that nobody changes. -/
theorem Wk.fzL {t : TypeId} {i : Nat} {bs : List (Option Blk)} {xs : List α} (hw : Wf h) (hi : bs[i]? = some (owb t xs)) (hl : xs.length < 4611686018427387904) (ht : ∀ j, T0 j = .tuple #[] ∨ T0 j = T j ∨ (T j = ow (h.next + i) xs.length ∧ T0 j = L xs)) : Wk h.next T0 (h.app (bs.set i none)) T (h.app bs) := by
  have hil : i < bs.length := (List.getElem?_eq_some_iff.1 hi).1
  by_cases h0 : xs.length = 0
  · obtain rfl : xs = [] := List.eq_nil_of_length_eq_zero h0
    have e3 : bs.set i none = bs := by
      apply List.ext_getElem?
      intro j
      rw [List.getElem?_set]
      split
      · rename_i hj; subst hj; rw [hi]; rfl
      · rfl
    rw [e3]
    intro base w0 φ m a w hn hst
    refine ⟨φ, Agr.refl _ _, hn, hst.hr, fun j => ?_, hst.df, hst.sz⟩
    rcases ht j with h1 | h1 | ⟨h1, h2⟩
    · rw [h1]; exact .any _
    · rw [h1]; exact hst.tr j
    · have := hst.tr j
      rw [h1] at this
      rw [h2]
      simp only [List.length_nil, ow_zero] at this
      cases hq : a.tmps.getD j undef with
      | slice ad n k => rw [hq] at this; cases this; exact .fz0 _ (.inl rfl)
      | _ => rw [hq] at this; cases this
  · have hg : (h.app bs).get (h.next + i) = some (.row t (Enc.w α) (F xs)) := by rw [app_get, hi]; simp [owb, h0]
    refine Wk.freeze (B := h.next + i) (by show h.ro ≤ _; have := hw.ro; omega) hg (by simp [AH.app]) rfl ?_ ?_
    · intro j
      rcases ht j with h1 | h1 | ⟨h1, h2⟩
      · exact .inl h1
      · exact .inr (.inl h1)
      · refine .inr (.inr (.inr ⟨0, xs.length, xs.length, hl, by rw [F_len]; omega, by rw [h1]; simp [ow, h0], ?_⟩))
        rw [h2, List.drop_zero, List.take_of_length_le (by rw [F_len]; omega)]; rfl
    · intro C b0 hC
      rw [← app_put hil, AH.get_put] at hC
      split at hC
      · cases hC
      · rename_i hne
        refine ⟨hne, b0, hC, ?_⟩
        cases b0 with
        | row t e cs => exact ⟨rfl, rfl, fun i v hi => ⟨v, hi, .inr (.inl rfl)⟩⟩
        | map es => exact ⟨rfl, fun i k v hi => ⟨v, hi, .inr (.inl rfl)⟩⟩
theorem AC.wf {P : Program} {f : FuncId} {args : List Value} (k : Wf h → AC P f args h v h') : AC P f args h v h' := by
  intro base w0 φ cargs w hr hvr
  have hw : Wf h := by
    refine ⟨hr.lt, fun B b hB => ?_, hr.ron⟩
    cases b with
    | row t e cs =>
      intro v hv
      obtain ⟨i, hi⟩ := List.mem_iff_getElem?.1 hv
      obtain ⟨_, c, t', fr, _, hc⟩ := hr.rows B t e cs hB
      obtain ⟨u, _, hu, _⟩ := hc i v hi
      exact ⟨φ, u, hu⟩
    | map es =>
      intro p hp
      obtain ⟨i, hi⟩ := List.mem_iff_getElem?.1 hp
      obtain ⟨_, _, E, cl, _, _, hc⟩ := hr.maps B es hB
      obtain ⟨x, _, _, hx⟩ := hc i p.1 p.2 hi
      exact ⟨φ, _, hx⟩
  exact k hw base w0 φ cargs w hr hvr
theorem AC.of_app {P : Program} {f : FuncId} {args : List Value} (hw : Wf h) (hc : Cl v) (k : EC P f args h fun r h' => r = v ∧ ∃ bs, h' = h.app bs) : AC P f args h v h := by
  obtain ⟨_, _, g, rfl, bs, rfl⟩ := k
  exact g.gc (fun B b hB => by rw [app_get_lt (hw.lt B b hB)]; exact hB) rfl fun ψ n m c h1 => hc ψ n ψ m c (fun _ _ h => h) h1
theorem AC.bd {P : Program} {f : FuncId} {args : List Value} {xs : List α} (i : Nat) (hi : args[i]? = some (L xs)) (k : Bd xs → AC P f args h v h') : AC P f args h v h' := by
  intro base w0 φ cargs w hr hvr
  obtain ⟨c, _, hc⟩ := hvr.get hi
  exact k (L_bd hc) base w0 φ cargs w hr hvr
end
theorem wrap_sub1 {k : Nat} (hk : k < 4611686018427387904) : IntKind.wrap .i64 (((k + 1 : Nat) : Int) - 1) = (k : Int) := by rw [wrap_id (by omega) (by omega)]; omega
theorem wrap_nat {k : Nat} (hk : k < 4611686018427387904) : IntKind.wrap .i64 ((k : Int) + 1) = ((k + 1 : Nat) : Int) := by rw [wrap_id (by omega) (by omega)]; omega
end Go.Proofs.Ythofdojknjhpgaa
