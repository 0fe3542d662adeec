/- Own texts, merged: a part of the proof that is told in the last text of this claim. -/
import Derived.Test.YthofdojknjhpgaaCMI
set_option linter.unusedVariables false
set_option linter.unusedSimpArgs false
namespace Go.Proofs.Ythofdojknjhpgaa
open Go

section
variable {P : Program} {base : Nat} {w0 : World} {φ : Phi} {h : AH} {w : World} {T : Tm} {a : Act}

theorem HR.congr {h' : AH} (hr : HR base w0 φ h w) (hg : ∀ B, h'.get B = h.get B) (hn : h'.next = h.next) (ho : h'.ro = h.ro) : HR base w0 φ h' w where
  below := hr.below
  bs := hr.bs
  lt := fun B b hB => by rw [hn]; exact hr.lt B b (by rw [← hg]; exact hB)
  rows := fun B t e cs hB => by rw [hn]; exact hr.rows B t e cs (by rw [← hg]; exact hB)
  wr := fun B t e cs hro hB => hr.wr B t e cs (by rw [← ho]; exact hro) (by rw [← hg]; exact hB)
  maps := fun B es hB => by rw [hn, ho]; exact hr.maps B es (by rw [← hg]; exact hB)
  old := fun B t e cs hro hB => hr.old B t e cs (by rw [← ho]; exact hro) (by rw [← hg]; exact hB)
  inj := fun B C b c h1 h2 hB hC heq => hr.inj B C b c (by rw [← ho]; exact h1) (by rw [← ho]; exact h2) (by rw [← hg]; exact hB) (by rw [← hg]; exact hC) heq
  ron := by rw [hn, ho]; exact hr.ron
  frz := fun b C hb => ⟨(hr.frz b C hb).1, fun B bl hroB hB => (hr.frz b C hb).2 B bl (by rw [← ho]; exact hroB) (by rw [← hg]; exact hB)⟩
/-- A block that nobody has, taken in. -/
theorem HR.adopt (hr : HR base w0 φ h w) {t : TypeId} {e g : Nat} {cs us : List Value} {c : Array Value} (hg : base ≤ g) (hw : w.heap[g]? = some (.cells c t (0, 0))) (hne : ∀ B b, h.ro ≤ B → h.get B = some b → (φ B).blk ≠ g) (hnf : ∀ C, φ.fz g ≠ some C)
    (hv : VRL φ h.next cs us) (h1 : ∀ u ∈ us, u.oneCell' = true) (hc : ∀ (i : Nat) (u : Value), us[i]? = some u → c[i]? = some u) :
    HR base w0 (ext φ h.next ⟨g, 0, c.size, e⟩) (h.new (.row t e cs)) w := by
  have hag := ext_agr φ h.next ⟨g, 0, c.size, e⟩
  have hoth : ∀ B b, h.get B = some b → ext φ h.next ⟨g, 0, c.size, e⟩ B = φ B := fun B b hB => hag B (hr.lt B b hB)
  refine ⟨hr.below, hr.bs, ?_, ?_, ?_, ?_, ?_, ?_, by have := hr.ron; simp; omega, fun b C hb => ⟨(hr.frz b C hb).1, fun B bl hroB hB => by
      rw [AH.get_new] at hB
      split at hB
      · rename_i e1; subst e1; rw [ext_same]; rintro rfl; exact hnf C hb
      · rw [hoth B _ hB]; exact (hr.frz b C hb).2 B bl hroB hB⟩⟩
  · intro B b hB
    rw [AH.get_new] at hB
    simp only [AH.next_new]
    split at hB
    · omega
    · have := hr.lt B b hB; omega
  · intro B t' e' cs' hB
    rw [AH.get_new] at hB
    split at hB
    · rename_i hBn
      subst hBn
      cases hB
      rw [ext_same]
      refine ⟨rfl, c, t, (0, 0), hw, fun i v hi => ?_⟩
      obtain ⟨u, hu, hvr⟩ := hv.get hi
      exact ⟨u, by simpa using hc i u hu, hvr.mono hag (by simp), h1 u (List.mem_of_getElem? hu)⟩
    · rw [hoth B _ hB]
      obtain ⟨he, c', t'', fr, hw, hcell⟩ := hr.rows B t' e' cs' hB
      refine ⟨he, c', t'', fr, hw, fun i v hi => ?_⟩
      obtain ⟨u, h2, h3, h4⟩ := hcell i v hi
      exact ⟨u, h2, h3.mono hag (by simp), h4⟩
  · intro B t' e' cs' hro hB
    rw [AH.get_new] at hB
    split at hB
    · rename_i hBn
      subst hBn
      cases hB
      rw [ext_same]
      exact ⟨hg, rfl, c, hw, rfl⟩
    · rw [hoth B _ hB]
      exact hr.wr B t' e' cs' hro hB
  · intro B es hB
    rw [AH.get_new] at hB
    split at hB
    · cases hB
    · rw [hoth B _ hB]
      obtain ⟨a1, a2, E, cl, hw, hs, hcell⟩ := hr.maps B es hB
      refine ⟨a1, a2, E, cl, hw, hs, fun i k v hi => ?_⟩
      obtain ⟨x, h2, h3, h4⟩ := hcell i k v hi
      exact ⟨x, h2, h3, h4.mono hag (by simp)⟩
  · intro B t' e' cs' hro hB
    rw [AH.get_new] at hB
    simp only [AH.ro_new] at hro
    split at hB
    · have := hr.ron
      omega
    · rw [hoth B _ hB]
      exact hr.old B t' e' cs' hro hB
  · intro B C b b' hro1 hro2 hB hC heq
    rw [AH.get_new] at hB hC
    split at hB <;> split at hC
    · omega
    · rename_i hBn _
      subst hBn
      rw [ext_same, hoth C _ hC] at heq
      exact absurd heq.symm (hne C _ hro2 hC)
    · rename_i _ hCn
      subst hCn
      rw [ext_same, hoth B _ hB] at heq
      exact absurd heq (hne B _ hro1 hB)
    · rw [hoth B _ hB, hoth C _ hC] at heq
      exact hr.inj B C b b' hro1 hro2 hB hC heq
theorem new_put_comm (h : AH) (b : Blk) (B : Nat) (hB : B ≠ h.next) : ∀ C, ((h.new b).put B none).get C = ((h.put B none).new b).get C := by
  intro C
  simp only [AH.get_put, AH.get_new, AH.next_put]
  split <;> split <;> first | rfl | omega

theorem s_lens1 {t ty : TypeId} {x c : Value} {s : ByteArray} (hr : HR base w0 φ h w) (hx : VR φ h.next x c) (hu : P.underlying t = some .string) (hxe : x = .string s) :
    OK base w0 φ h (((do pure (Next.value (← Builtin.len_ #[t] ty #[c]))) : Sem Next).run P w) (.int .i64 s.size) h := by
  subst hxe
  obtain rfl := str_of hx
  have hrun : ((do pure (Next.value (← Builtin.len_ #[t] ty #[.string s])) : Sem Next)).run P w = .ok (.value (.int .i64 s.size)) w := by simp [Builtin.len_, run_underlying hu, goInt]
  rw [hrun]
  exact OK.pure hr (.int _ _)
theorem s_lens2 {t e ty : TypeId} {x c : Value} {a' : Option Addr} {l k : Nat} (hr : HR base w0 φ h w) (hx : VR φ h.next x c) (hu : P.underlying t = some (.slice e)) (hxe : x = .slice a' l k) :
    OK base w0 φ h (((do pure (Next.value (← Builtin.len_ #[t] ty #[c]))) : Sem Next).run P w) (.int .i64 l) h := by
  subst hxe
  cases hx with
  | slice0 =>
    have hrun : ((do pure (Next.value (← Builtin.len_ #[t] ty #[.slice none 0 0])) : Sem Next)).run P w = .ok (.value (.int .i64 (0 : Nat))) w := by simp [Builtin.len_, run_underlying hu, goInt]
    rw [hrun]
    exact OK.pure hr (.int _ _)
  | slice B o _ cp ad hB hl hc =>
    have hrun : ((do pure (Next.value (← Builtin.len_ #[t] ty #[.slice (some ad) l cp])) : Sem Next)).run P w = .ok (.value (.int .i64 l)) w := by simp [Builtin.len_, run_underlying hu, goInt]
    rw [hrun]
    exact OK.pure hr (.int _ _)
theorem s_lena {t e ty : TypeId} {c : Value} {n : Nat} (hr : HR base w0 φ h w) (hu : P.underlying t = some (.array n e)) :
    OK base w0 φ h (((do pure (Next.value (← Builtin.len_ #[t] ty #[c]))) : Sem Next).run P w) (.int .i64 n) h := by
  have hrun : ((do pure (Next.value (← Builtin.len_ #[t] ty #[c])) : Sem Next)).run P w = .ok (.value (.int .i64 n)) w := by cases c <;> simp [Builtin.len_, run_underlying hu, goInt]
  rw [hrun]
  exact OK.pure hr (.int _ _)
theorem s_lenm {t k e ty : TypeId} {x c r : Value} (hr : HR base w0 φ h w) (hx : VR φ h.next x c) (hu : P.underlying t = some (.map k e))
    (hv : lenmV h x = some r) :
    OK base w0 φ h (((do pure (Next.value (← Builtin.len_ #[t] ty #[c]))) : Sem Next).run P w) r h := by
  unfold lenmV at hv
  cases x with
  | map m =>
    cases m with
    | none =>
      cases hx
      cases hv
      have hrun : ((do pure (Next.value (← Builtin.len_ #[t] ty #[.map none])) : Sem Next)).run P w = .ok (.value (.int .i64 0)) w := by simp [Builtin.len_, run_underlying hu, goInt]
      rw [hrun]
      exact OK.pure hr (.int _ _)
    | some B =>
      cases hx
      simp only at hv
      split at hv
      · rename_i es hes
        cases hv
        obtain ⟨E, cl, hw, hml⟩ := hr.ml (map_some hes)
        have hs : E.size = es.length := by simpa using hml.1
        have hrun : ((do pure (Next.value (← Builtin.len_ #[t] ty #[.map (some (φ B).blk)])) : Sem Next)).run P w = .ok (.value (.int .i64 es.length)) w := by simp [Builtin.len_, run_underlying hu, goInt, r_getObj hw, hs]
        rw [hrun]
        exact OK.pure hr (.int _ _)
      · cases hv
  | _ => cases hv

/-- The source of an append or a copy. -/
theorem HR.src_ok (hr : HR base w0 φ h w) {e m : Nat} {x c : Value} {news : List Value} (hx : VR φ h.next x c) (hs : h.src e x = some news) (hm : lenV x = some m) :
    (c = .slice none 0 0 ∧ m = 0 ∧ news = []) ∨ ∃ ad cp us, c = .slice (some ad) m cp ∧ VRL φ h.next news us ∧ us.length = m * e ∧ ∀ (j : Nat) (u : Value), us[j]? = some u → w.cell? (ad.add j) = some u := by
  cases x with
  | slice a' l k =>
    simp [lenV] at hm
    subst hm
    cases hx with
    | slice0 => simp [AH.src] at hs; exact .inl ⟨rfl, rfl, hs⟩
    | slice B o _ cp ad hB hl hc =>
      simp only [AH.src] at hs
      split at hs
      · rename_i h0
        subst h0
        cases hs
        exact .inr ⟨ad, cp, [], rfl, VRL.nil, by simp, fun j u hj => by simp at hj⟩
      · rename_i h0
        split at hs
        · rename_i t' e' cs hrow
          split at hs
          · rename_i hle
            cases hs
            obtain ⟨us, h1, h2, h3, h4⟩ := hr.stretch (row_some hrow) o (l * e) hle
            obtain ⟨e1, _⟩ := hc (by omega)
            exact .inr ⟨ad, cp, us, rfl, h1, h2, fun j u hj => by rw [e1, add_none]; exact h4 j u hj⟩
          · cases hs
        · cases hs
  | func fn xs ys =>
    cases fn with
    | yield l =>
      have hys : ys = #[] := by cases hx <;> rfl
      subst hys
      simp only [AH.src] at hs
      split at hs
      · rename_i hsz
        cases hs
        simp [lenV] at hm
        subst hm
        rcases fz_ok hx with ⟨rfl, rfl, rfl | ⟨ad, cp, rfl⟩⟩ | ⟨b, o, cp, rfl, ⟨hlc, hlq⟩, hp⟩
        · exact .inl ⟨rfl, rfl, rfl⟩
        · exact .inr ⟨ad, cp, [], rfl, VRL.nil, by simp, fun j u hj => by simp at hj⟩
        · obtain ⟨b', o', us, he, h1, h2, h3⟩ := fp_ok hr hp
          cases he
          refine .inr ⟨_, cp, us, rfl, by simpa using h1, ?_, fun j u hj => by rw [add_none]; exact h3 j u hj⟩
          have := h1.1
          simp at this
          omega
      · cases hs
    | _ => simp [AH.src] at hs
  | _ => simp [AH.src] at hs
theorem r_app0 {t ty e : TypeId} {i : TypeInfo} (ht : P.underlying t = some (.slice e)) (hi : P.info? e = some i) (b : Option Addr) (n cp : Nat) (hn : n ≤ cp) (x : Value) (hx : x = .slice none 0 0 ∨ ∃ ad k, x = .slice (some ad) 0 k) :
    (Builtin.append_ #[t, t] ty #[.slice b n cp, x]).run P w = .ok (.slice b n cp) w := by
  have hf : (Builtin.firstCells i.size 0 x).run P w = .ok #[] w := by
    rcases hx with rfl | ⟨ad, k, rfl⟩
    · exact run_firstCells_none _ _ _ _ _
    · exact run_firstCells_some w i.size 0 ad 0 k [] (by simp) (fun j v hj => by simp at hj)
  have hlen : (Builtin.lenOf x : Sem Nat) = pure 0 := by
    rcases hx with rfl | ⟨ad, k, rfl⟩ <;> rfl
  cases b <;> simp [Builtin.append_, run_underlying ht, sizeOf, typeInfo, hi, hlen, hf, hn, storeCells]
theorem s_app0 {t ty e : TypeId} {i : TypeInfo} {s x cs cx : Value} {n n' : Nat} {a' : Option Addr} {news : List Value} (hr : HR base w0 φ h w) (hs : VR φ h.next s cs) (hx : VR φ h.next x cx) (ht : P.underlying t = some (.slice e)) (hi : P.info? e = some i)
    (hn : h.src i.size x = some news) (hm : lenV x = some 0) (hse : s = .slice a' n n') :
    OK base w0 φ h (((do pure (Next.value (← Builtin.append_ #[t, t] ty #[cs, cx]))) : Sem Next).run P w) s h := by
  have fin : ∀ {r : Value} {w' : World}, (Builtin.append_ #[t, t] ty #[cs, cx]).run P w = .ok r w' → ((do pure (Next.value (← Builtin.append_ #[t, t] ty #[cs, cx])) : Sem Next)).run P w = .ok (.value r) w' := by
    intro r w' hh; rw [Sem.run_bind, hh]; rfl
  have hsrc := hr.src_ok hx hn hm
  subst hse
  have hx0 : cx = .slice none 0 0 ∨ ∃ ad k, cx = .slice (some ad) 0 k := by
    rcases hsrc with ⟨rfl, _⟩ | ⟨ad, cp, _, rfl, _⟩
    · exact .inl rfl
    · exact .inr ⟨ad, cp, rfl⟩
  cases hs with
  | slice0 =>
    rw [fin (r_app0 ht hi none 0 0 (Nat.le_refl _) cx hx0)]
    exact OK.pure hr .slice0
  | slice B o _ cp ad hB hl hc =>
    rw [fin (r_app0 ht hi (some ad) n cp hl cx hx0)]
    exact OK.pure hr (.slice B o n cp ad hB hl hc)
theorem s_appN {t ty e : TypeId} {i : TypeInfo} {z : List Value} {cs cx x : Value} {m n' : Nat} {news : List Value} (hr : HR base w0 φ h w) (hs : VR φ h.next (.slice none 0 n') cs) (hx : VR φ h.next x cx) (ht : P.underlying t = some (.slice e)) (hi : P.info? e = some i) (hz : zeroT P e = some z) (hzl : z.length = i.size)
    (hn : h.src i.size x = some news) (hm : lenV x = some m) (hm0 : ¬ m = 0) (hby : (0 + m) * i.bytes ≤ 140737488355328) (h63 : 0 + m ≤ 9223372036854775807) (hone : news.all one = true) :
    OK base w0 φ h (((do pure (Next.value (← Builtin.append_ #[t, t] ty #[cs, cx]))) : Sem Next).run P w) (.slice (some ⟨h.next, 0, none⟩) m m) (h.new (.row e i.size news)) := by
  obtain ⟨i', z', hi', hz1, rfl, hpl, _⟩ := zeroT_some hz
  rw [hi] at hi'
  cases hi'
  have hcl : z'.cells.size = i.size := by simpa using hzl
  cases hs
  rcases hr.src_ok hx hn hm with ⟨_, rfl, _⟩ | ⟨ad, cp, us, rfl, hvr, hul, hcell⟩
  · exact absurd rfl hm0
  have hones := hvr.all_one hone
  have hap := run_append_nil (P := P) w t ty e i z' ht hi hz1 ad m cp us hul hcell (by omega) (by omega) (by simp at hby; omega)
  rw [Sem.run_bind, hap]
  have hgc := grownCap_ge w m 0 e
  have hsz : (us.toArray ++ Builtin.zeroCells z'.cells (grownCap w m 0 e - m)).size = grownCap w m 0 e * i.size := by
    simp only [Array.size_append, List.size_toArray, size_zeroCells, hcl, hul, ← Nat.add_mul]
    congr 1; omega
  have hnr := hr.drew.newRow (t := e) (e := i.size) (c := us.toArray ++ Builtin.zeroCells z'.cells (grownCap w m 0 e - m)) hvr hones (fun j u hj => by
    rw [Array.getElem?_append, if_pos (by simpa using (List.getElem?_eq_some_iff.1 hj).1)]; simpa using hj)
  refine OK.val (ext_agr _ _ _) (by simp) ?_ hnr
  exact VR.newSlice (x := ⟨w.heap.size, 0, _, i.size⟩) (by simp) hgc (by simp only [hsz]; exact Nat.le_refl _) rfl (ext_same _ _ _)
theorem s_appR {t ty e : TypeId} {i : TypeInfo} {z : List Value} {cs cx x : Value} {B m n n' : Nat} {cs' news : List Value} (hr : HR base w0 φ h w) (hs : VR φ h.next (.slice (some ⟨B, 0, none⟩) n n') cs) (hx : VR φ h.next x cx) (ht : P.underlying t = some (.slice e)) (hi : P.info? e = some i) (hz : zeroT P e = some z) (hzl : z.length = i.size)
    (hn : h.src i.size x = some news) (hm : lenV x = some m) (hm0 : ¬ m = 0) (hby : (n + m) * i.bytes ≤ 140737488355328) (h63 : n + m ≤ 9223372036854775807) (hone : news.all one = true)
    (hB : h.get B = some (.row e i.size cs')) (hro : h.ro ≤ B) (hlen : n * i.size ≤ cs'.length) :
    OK base w0 φ h (((do pure (Next.value (← Builtin.append_ #[t, t] ty #[cs, cx]))) : Sem Next).run P w) (.slice (some ⟨h.next, 0, none⟩) (n + m) (n + m)) ((h.new (.row e i.size (cs'.take (n * i.size) ++ news))).put B none) := by
  obtain ⟨i', z', hi', hz1, rfl, hpl, _⟩ := zeroT_some hz
  rw [hi] at hi'
  cases hi'
  have hcl : z'.cells.size = i.size := by simpa using hzl
  rcases hr.src_ok hx hn hm with ⟨_, rfl, _⟩ | ⟨ad, cp, us, rfl, hvr, hul, hcell⟩
  · exact absurd rfl hm0
  have hones := hvr.all_one hone
  obtain ⟨hb1, hb2, c, hw, hroom⟩ := hr.wr B e i.size cs' hro hB
  cases hs with
  | slice _ _ _ cps ads hBn hl hc =>
  obtain ⟨olds, o1, o2, o3, o4⟩ := hr.stretch hB 0 (n * i.size) (by omega)
  simp only [List.drop_zero] at o1
  have hBne : B ≠ h.next := by omega
  have hesz := (hr.rows B e i.size cs' hB).1
  have hall : VRL φ h.next (cs'.take (n * i.size) ++ news) (olds ++ us) := o1.append hvr
  have hallo : ∀ u ∈ olds ++ us, u.oneCell' = true := by
    intro u hu
    rcases List.mem_append.1 hu with hu | hu
    · exact o3 u hu
    · exact hones u hu
  have hnext : ((h.new (Blk.row e i.size (cs'.take (n * i.size) ++ news))).put B none).next = h.next + 1 := rfl
  by_cases hcap : n + m ≤ cps
  · obtain ⟨e1, e2⟩ := hc (by omega)
    rw [hb2] at e1
    rw [hesz] at e2
    simp only [Nat.zero_add] at e1 e2
    subst e1
    have hfit : n * i.size + us.length ≤ c.size := by
      rw [hul, ← Nat.add_mul, hroom]
      exact Nat.le_trans (Nat.mul_le_mul_right _ hcap) e2
    have hap := run_append_room (P := P) w t ty e i ht hi (φ B).blk n cps c hw ad m cp us hul hcell hones hcap hfit
    rw [Sem.run_bind, hap]
    have hold : olds = c.toList.take (n * i.size) := by
      apply List.ext_getElem?
      intro j
      by_cases hj : j < n * i.size
      · have h5 := o4 j _ (List.getElem?_eq_getElem (by omega : j < olds.length))
        rw [cell_of_row w _ _ c _ _ hw] at h5
        simp only [hb2, Nat.zero_add] at h5
        rw [List.getElem?_take, if_pos hj, List.getElem?_eq_getElem (by omega : j < olds.length)]
        simpa using h5.symm
      · rw [List.getElem?_eq_none (by omega), List.getElem?_eq_none (by simp; omega)]
    have hdr := hr.drop B
    have hwd : HR base w0 φ (h.put B none) (w.setRow (φ B).blk (c.toList.take (n * i.size) ++ us ++ c.toList.drop (n * i.size + us.length)).toArray) := by
      refine hdr.world ⟨rfl, rfl, rfl, by simp, fun k hk => setRow_other w _ k _ (by omega)⟩ (by simp; exact hr.bs) (fun C b hC => ?_) fun b C hb => setRow_other w _ _ _ ((hr.frz b C hb).2 B _ hro hB).symm
      rw [AH.get_put] at hC
      split at hC
      · cases hC
      · rename_i hCB
        refine setRow_other w _ _ _ fun heq => ?_
        rcases Nat.lt_or_ge C h.ro with hlt | hge
        · cases b with
          | row t2 e3 cs2 => have := hr.old C t2 e3 cs2 hlt hC; omega
          | map es => have := (hr.maps C es hC).2.1 hlt; omega
        · exact hCB (hr.inj C B b _ hge hro hC hB heq)
    have had := hwd.adopt (t := e) (e := i.size) (g := (φ B).blk) (c := (c.toList.take (n * i.size) ++ us ++ c.toList.drop (n * i.size + us.length)).toArray) (cs := cs'.take (n * i.size) ++ news) (us := olds ++ us) hb1 (by rw [setRow_heap w _ c _ _ _ hw]) (fun C b hroC hC => by
      rw [AH.get_put] at hC
      split at hC
      · cases hC
      · rename_i hCB
        exact fun heq => hCB (hr.inj C B b _ hroC hro hC hB heq)) (fun C hC => (hr.frz _ C hC).2 B _ hro hB rfl) hall hallo (fun j u hj => by
      rw [hold] at hj
      simp only [List.getElem?_toArray]
      rw [List.getElem?_append, if_pos (by have := (List.getElem?_eq_some_iff.1 hj).1; simpa using this)]
      exact hj)
    have hfin := had.congr (h' := (h.new (Blk.row e i.size (cs'.take (n * i.size) ++ news))).put B none) (new_put_comm h _ B hBne) rfl rfl
    refine OK.val (ext_agr _ _ _) (by simp) ?_ hfin
    rw [hnext]
    refine VR.newSlice (x := ⟨(φ B).blk, 0, _, i.size⟩) (by omega) hcap ?_ rfl (ext_same _ _ _)
    simp only [List.size_toArray, List.length_append, List.length_take, List.length_drop, Array.length_toList]
    rw [Nat.min_eq_left (by omega)]
    omega
  · have holdc : ∀ (j : Nat) (u : Value), olds[j]? = some u → w.cell? (ads.add j) = some u := by
      intro j u hj
      have hjl : j < n * i.size := by have := (List.getElem?_eq_some_iff.1 hj).1; omega
      have hcp : 0 < cps := by
        rcases Nat.eq_zero_or_pos cps with h00 | h00
        · have : n = 0 := by omega
          subst this
          simp at hjl
        · exact h00
      obtain ⟨e1, _⟩ := hc hcp
      rw [e1, add_none]
      simpa using o4 j u hj
    have hap := run_append_grow (P := P) w t ty e i z' ht hi hz1 ads n cps olds o2 holdc ad m cp us hul hcell (by omega) (by omega) (growslice_fits (by omega) hby)
    rw [Sem.run_bind, hap]
    have hgc := grownCap_ge w (n + m) cps e
    have hsz : (olds.toArray ++ us.toArray ++ Builtin.zeroCells z'.cells (grownCap w (n + m) cps e - (n + m))).size = grownCap w (n + m) cps e * i.size := by
      simp only [Array.size_append, List.size_toArray, size_zeroCells, hcl, hul, o2, ← Nat.add_mul]
      congr 1; omega
    have hnr := hr.drew.newRow (t := e) (e := i.size) (c := olds.toArray ++ us.toArray ++ Builtin.zeroCells z'.cells (grownCap w (n + m) cps e - (n + m))) hall hallo (fun j u hj => by
      rw [Array.getElem?_append, if_pos (by have := (List.getElem?_eq_some_iff.1 hj).1; simpa using this)]
      simpa using hj)
    have hdr := hnr.drop B
    refine OK.val (ext_agr _ _ _) (by simp) ?_ hdr
    rw [hnext]
    exact VR.newSlice (x := ⟨w.heap.size, 0, _, i.size⟩) (by omega) hgc (by simp only [hsz]; exact Nat.le_refl _) rfl (ext_same _ _ _)
end
end Go.Proofs.Ythofdojknjhpgaa
