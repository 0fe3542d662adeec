/- Own texts, merged: a part of the proof that is told in the last text of this claim. -/
import Derived.Test.YthofdojknjhpgaaCMU
set_option linter.unusedVariables false
set_option linter.defProp false
namespace Go.Proofs.Ythofdojknjhpgaa
open Go
theorem rnm_ij {n0 i j : Nat} {l : List Nat} (hl : l[i]? = some j) : rnm n0 l (n0 + i) = n0 + j := by rw [ren_at, hl]; rfl
theorem rnm_i0 {n0 i : Nat} {l : List Nat} (hl : l[i]? = some 0) : rnm n0 l (n0 + i) = n0 := by rw [ren_at, hl]; rfl
theorem rnm_0j {n0 j : Nat} {l : List Nat} (hl : l[0]? = some j) : rnm n0 l n0 = n0 + j := by rw [ren_at0, hl]; rfl
theorem rnm_00 {n0 : Nat} {l : List Nat} (hl : l[0]? = some 0) : rnm n0 l n0 = n0 := by rw [ren_at0, hl]; rfl
theorem nn {k : Nat} : (0 : Int) ≤ (k : Int) := Int.natCast_nonneg k
theorem lt_nat {a b : Nat} : ((a : Int) < (b : Int)) = (a < b) := propext Int.ofNat_lt
theorem le_nat {a b : Nat} : ((a : Int) ≤ (b : Int)) = (a ≤ b) := propext Int.ofNat_le
theorem eq_nat {a b : Nat} : ((a : Int) = (b : Int)) = (a = b) := propext Int.ofNat_inj
theorem lt_nat0 {a : Nat} : ((a : Int) < 0) = False := by simp
theorem w1i : Enc.w Int = 1 := rfl
theorem w1b : Enc.w Bool = 1 := rfl
theorem w1l {α : Type} [Enc α] : Enc.w (List α) = 1 := rfl
theorem w1s : Enc.w ByteArray = 1 := rfl
theorem o1i : (0 : Nat) < Enc.w Int := by decide
theorem o1b : (0 : Nat) < Enc.w Bool := by decide
theorem o1l {α : Type} [Enc α] : (0 : Nat) < Enc.w (List α) := Enc.pos
theorem o1s : (0 : Nat) < Enc.w ByteArray := by decide
theorem not_dec {p : Prop} [Decidable p] : (!decide p) = decide (¬ p) := by simp
theorem run_mm2 {mx : Bool} {x y : Opd} {T : Tm} {h : AH} {k : IntKind} {a b : Int} (hx : x.ev T = .int k a) (hy : y.ev T = .int k b) : (I.mm mx [x, y]).run T h = some (.int k (mm2 mx a b), h) := by
  simp [I.run, hx, hy, mmL]
def mm21 (mx : Bool) (v w : Value) (h : AH) : Option (Value × AH) := match v, w with
  | .int k a, .int k' b => if k' = k then some (.int k (mm2 mx a b), h) else none
  | _, _ => none
theorem run_mm {mx : Bool} {x y : Opd} {T : Tm} {h : AH} : (I.mm mx [x, y]).run T h = mm21 mx (x.ev T) (y.ev T) h := nr <| by
  simp only [I.run, mm21]
  cases x.ev T <;> try rfl
  rename_i k a
  simp only [mmL]
  cases y.ev T <;> try rfl
  rename_i k' b
  by_cases hk : k' = k <;> simp [hk]
theorem mm21_mk {mx : Bool} {k : IntKind} {a b : Int} {h : AH} : mm21 mx (.int k a) (.int k b) h = some (.int k (mm2 mx a b), h) := by simp [mm21]
def box1 (t : TypeId) (e : Nat) (v : Value) (h : AH) : Option (Value × AH) := if (cellsOf v).all one then some (.pointer (some ⟨h.next, 0, none⟩), h.new (.row t e (cellsOf v))) else none
theorem run_box {t : TypeId} {e : Nat} {x : Opd} {T : Tm} {h : AH} : (I.box t e x).run T h = box1 t e (x.ev T) h := nr rfl
theorem box1_agg {t : TypeId} {e : Nat} {cs : List Value} {h : AH} (hc : cs.all one = true) : box1 t e (.agg cs.toArray) h = some (.pointer (some ⟨h.next, 0, none⟩), h.new (.row t e cs)) := by simp [box1, cellsOf, hc]
theorem box1_one {t : TypeId} {e : Nat} {v : Value} {h : AH} (hv : one v = true) : box1 t e v h = some (.pointer (some ⟨h.next, 0, none⟩), h.new (.row t e [v])) := by simp [box1, cells_one hv, hv]
theorem one_func {f : Fn} {a b : Array Value} : one (.func f a b) = true := nr rfl
theorem one_str {s : ByteArray} : one (.string s) = true := nr rfl
theorem one_map {r : Option Nat} : one (.map r) = true := nr rfl
theorem fld1_l {off : Nat} {cs : List Value} {h : AH} : fld1 off (.agg cs.toArray) h = opt1 cs[off]? h := fld1_mk
theorem Wf.roi {h : AH} {bs : List (Option Blk)} {i : Nat} (hw : Wf h) : (h.app bs).ro ≤ h.next + i := ro_le hw.ro
theorem Wf.ro0 {h : AH} {bs : List (Option Blk)} (hw : Wf h) : (h.app bs).ro ≤ h.next := hw.ro
theorem F_getb {xs : List Bool} {k : Nat} (hk : k < xs.length) : (F xs)[k]? = some (.bool (rd xs k)) := by rw [F_get1 rfl hk]; rfl
theorem F_geti {xs : List Int} {k : Nat} (hk : k < xs.length) : (F xs)[k]? = some (.int .i64 (rd xs k)) := by rw [F_get1 rfl hk]; rfl
theorem F_getl {α : Type} [Enc α] {xs : List (List α)} {k : Nat} (hk : k < xs.length) : (F xs)[k]? = some (L (rd xs k)) := by rw [F_get1 rfl hk]; rfl
theorem stAt_Fb {t : TypeId} {e B i : Nat} {xs : List Bool} {x : Bool} {h : AH} (hr : h.ro ≤ B) (hi : i < xs.length) : stAt 1 (some (.row t e (F xs))) B i (.bool x) h = some (.tuple #[], h.put B (some (.row t e (F (xs.set i x))))) := by
  rw [stAt_row hr (by rw [F_len]; exact (Nat.mul_one _).symm ▸ hi) rfl, F_set1 rfl hi]
theorem stAt_Fi {t : TypeId} {e B i : Nat} {xs : List Int} {x : Int} {h : AH} (hr : h.ro ≤ B) (hi : i < xs.length) : stAt 1 (some (.row t e (F xs))) B i (.int .i64 x) h = some (.tuple #[], h.put B (some (.row t e (F (xs.set i x))))) := by
  rw [stAt_row hr (by rw [F_len]; exact (Nat.mul_one _).symm ▸ hi) rfl, F_set1 rfl hi]
theorem stAt_Fl {α : Type} [Enc α] {t : TypeId} {e B i : Nat} {xs : List (List α)} {x : List α} {h : AH} (hr : h.ro ≤ B) (hi : i < xs.length) : stAt 1 (some (.row t e (F xs))) B i (L x) h = some (.tuple #[], h.put B (some (.row t e (F (xs.set i x))))) := by
  rw [stAt_row hr (by rw [F_len]; exact (Nat.mul_one _).symm ▸ hi) rfl, F_set1 rfl hi]
theorem stAt_all {t : TypeId} {e B s : Nat} {cs us : List Value} {h : AH} (hr : h.ro ≤ B) (hl : us.length = s) (hc : cs.length = s) (hu : us.all one = true) : stAt s (some (.row t e cs)) B 0 (.agg us.toArray) h = some (.tuple #[], h.put B (some (.row t e us))) := by
  simp only [stAt, cellsOf, hr, hl, hc, Nat.zero_add, Nat.le_refl, hu, and_self, if_true, splice, List.take_zero, List.nil_append]
  rw [List.drop_of_length_le (by omega), List.append_nil]
theorem iaa1_nat {n e B o k : Nat} {h : AH} (h1 : k < n) : iaa1 n e (.pointer (some ⟨B, o, none⟩)) (.int .i64 (k : Nat)) h = some (.pointer (some ⟨B, o + k * e, none⟩), h) := by
  rw [iaa1_mk (by omega) (by omega)]; rfl
/-- The rules of stepping. -/
theorem decP_nil : decP [] = [] := nr rfl

def SX := And.intro @Nat.one_ne_zero <| And.intro @Nat.zero_ne_one <| And.intro decP_nil <| And.intro @List.not_mem_nil.{0} <| And.intro @decide_true <| And.intro @decide_false <| And.intro @RO_nil <| And.intro @RO_insS <| And.intro @RO_insN <| And.intro @RD_nil <| And.intro @RD_insS <| And.intro @RD_insN <|
  And.intro @cond_true.{1} <| And.intro @cond_false.{1} <| And.intro @thenI_some <| And.intro @run_mv <| And.intro @ev_c <| And.intro @ev_t <| And.intro @opt1_some <| And.intro @run_bin <| And.intro @run_un <|
  And.intro @vbin_add <| And.intro @vbin_sub <| And.intro @vbin_mul <| And.intro @vbin_eql <| And.intro @vbin_neq <| And.intro @vbin_lss <| And.intro @vbin_leq <| And.intro @vbin_gtr <| And.intro @vbin_geq <| And.intro @vbin_beq <| And.intro @vbin_bne <| And.intro @vun_not <| And.intro @vun_neg <|
  And.intro @run_lens <| And.intro @lens1_mk <| And.intro @run_cint <| And.intro @cint1_mk <| And.intro @run_lena <| And.intro @run_pick <| And.intro @pick1_mk <| And.intro @run_fld <| And.intro @fld1_mk <| And.intro @run_flds <| And.intro @run_fa <| And.intro @fa1_mk <| And.intro @run_ext <| And.intro @ext1_mk <| And.intro @run_ias <| And.intro @run_iaa <|
  And.intro @run_ld <| And.intro @run_lds <| And.intro @run_st <| And.intro @run_nilck <| And.intro @nil1_ptr <| And.intro @run_box <| And.intro @run_sls <| And.intro @run_app <| And.intro @run_new <| And.intro @run_build <| And.intro @run_bsl <| And.intro @fillL_nil <| And.intro @fillL_cons <| And.intro @fillK_some <|
  And.intro @one_int <| And.intro @one_bool <| And.intro @one_slice <| And.intro @one_ptr <| And.intro @bsl1_some <| And.intro @run_mkf <| And.intro @run_mkm <| And.intro @RO_ginsS <| And.intro @RO_gcallS <| And.intro @RD_gI <| And.intro @RD_gC <|
  And.intro @guard1_tt <| And.intro @guard1_ff <| And.intro @guard1_tf <| And.intro @guard1_ft <| And.intro @guard1_sk <| And.intro @T0_cons <| And.intro @upd_app <|
  And.intro @lens1_L <| And.intro @ias1_L <| And.intro @fa1_ef <| And.intro @nil1_ef <| And.intro @one_L <| And.intro @lens1_ow <| And.intro @one_ow <| And.intro @ias1_ow <| And.intro @ld1_ptr <| And.intro @lds1_ptr <| And.intro @st1_ptr <| And.intro @cellAt_row <| And.intro @app_new <| And.intro @app_next <| And.intro @app_get <| And.intro @app_get0 <| And.intro @app_put <| And.intro @app_put0 <|
  And.intro @fill1_set <| And.intro @run_mm <| And.intro @mm21_mk <| And.intro @nn <| And.intro @cells_int <| And.intro @cells_bool <| And.intro @cells_list <| And.intro @cells_str <| And.intro @w1i <| And.intro @w1b <| And.intro @w1s <| And.intro @w1l <| And.intro @box1_agg <| And.intro @box1_one <| And.intro @one_func <| And.intro @one_str <| And.intro @one_map <|
  And.intro @List.getElem?_cons_zero.{0} <| And.intro @List.getElem?_cons_succ.{0} <| And.intro @List.drop_zero.{0} <| And.intro @List.drop_succ_cons.{0} <| And.intro @List.take_succ_cons.{0} <| And.intro @List.take_zero.{0} <| And.intro @List.set_cons_zero.{0} <| And.intro @List.set_cons_succ.{0} <| And.intro @List.cons_append.{0} <| And.intro @List.nil_append.{0} <| And.intro @List.all_cons.{0} <| And.intro @List.all_nil.{0} <| And.intro @Bool.and_self <| And.intro @Option.join_some.{0} <| And.intro @Option.map_none.{0,0} <| And.intro @Option.map_some.{0,0} <| And.intro @List.length_cons.{0} <| And.intro @List.length_nil.{0} <| And.intro @List.map_cons.{0,0} <| And.intro @List.map_nil.{0,0} <| And.intro @Int.toNat_natCast <| And.intro @Nat.add_zero <| And.intro @Nat.zero_add <| And.intro @Nat.mul_one <| And.intro @Bool.not_true <| And.intro @Bool.not_false <| And.intro @true_and <| @List.toList_toArray.{0}
end Go.Proofs.Ythofdojknjhpgaa
