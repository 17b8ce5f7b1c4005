/- bson.Copy: the same value, in memory that is new. -/
import Derived.Test.YtpbmnjmagdacbaaWVa1
import Derived.Test.YtpbmnjmagdacbaaSl6
set_option linter.unusedVariables false
set_option linter.unusedSimpArgs false
set_option maxRecDepth 100000
set_option maxHeartbeats 8000000
namespace Go.Proofs.Sw
open Go Go.Eng Go.Eng.HP Go.RowKit Go.Proofs
attribute [local irreducible] St New Drew Prim PrimU CallR CallV CallI CallX Meet Eng.Loop withSome HP.blk HP.mp Calls Holds Ret

theorem vr_one (r : Vr) : ∀ v ∈ r.cells, oneCell v = true := by
  intro v hv
  simp only [Vr.cells, List.mem_cons, List.not_mem_nil, or_false] at hv
  rcases hv with rfl | rfl | rfl | rfl | rfl | rfl <;> rfl

theorem wt_pos {G : Gh} : ∀ {d : Nat} {t : VT} {r : Vr}, VC G d t r → 1 ≤ wt d t
  | 0, _, _, h => h.elim
  | d + 1, .mk _ _ _ _ _ _, _, _ => by simp only [wt]; omega

theorem sum_ge {α : Type} {g : α → Nat} : ∀ {l : List α} {x : α}, x ∈ l → g x ≤ (l.map g).sum
  | y :: l, x, h => by
    simp only [List.map_cons, List.sum_cons]
    rcases List.mem_cons.1 h with rfl | h
    · omega
    · have := sum_ge (g := g) h
      omega

theorem sum_len {α : Type} {g : α → Nat} : ∀ {l : List α}, (∀ x ∈ l, 1 ≤ g x) → l.length ≤ (l.map g).sum
  | [], _ => by simp
  | y :: l, h => by
    have h1 := h y List.mem_cons_self
    have h2 := sum_len (g := g) (l := l) (fun x hx => h x (List.mem_cons_of_mem _ hx))
    simp only [List.map_cons, List.sum_cons, List.length_cons]
    omega

section
variable {G : Gh} {w : World} {L : List HP}

theorem bytes_Clone_ok {a : Option Addr} {n c : Nat} {l : List UInt8} (hb : Bs G a n l) (hn : n ≤ 1000000000) (h : Holds G w (all L)) :
    Calls pg f_bytes_Clone #[.slice a n c] w (Ret fun v w' => ∃ a' c' G', v = .slice a' n c' ∧ G ≤ G' ∧ Bs G' a' n l ∧ Holds G' w' (all L)) := by
  have hl := hb.1
  subst hl
  apply of_bytes_Clone
  unfold c_bytes_Clone
  cases a with
  | none =>
    have : l = [] := by
      cases l with
      | nil => rfl
      | cons x r => obtain ⟨b, off, e, _⟩ := hb.2 0 x rfl; cases e
    subst this
    exact Ret.mk ⟨none, 0, G, rfl, Gh.refl G, Bs.nil, h⟩
  | some ad =>
    refine cff rfl ?_
    refine New.at h (fun b0 w h => ?_)
    have h2 := Holds.own_of (sz := 1) (n := 0) h rfl
    refine append_b tok rfl (.inl ⟨_, rfl⟩) rfl rfl rfl rfl rfl (l := []) h2 0 rfl (hb.src h _) (by simp; omega) (fun a' c' w h => ?_)
    refine ⟨_, _, _, rfl, ?_⟩
    simp only [List.eraseIdx_cons_zero, List.nil_append] at h
    obtain ⟨G', hG, hB, h⟩ := h.byt_freeze
    exact Ret.mk ⟨a', c', G', rfl, hG, hB, h⟩

/-- What a clone of a row's cells is. -/
def Els {α : Type} (sz : Nat) (C : α → List Value → Prop) (ts : List α) (els : List (List Value)) : Prop :=
  els.length = ts.length ∧ (∀ e ∈ els, e.length = sz) ∧ (∀ (i : Nat) (t : α), ts[i]? = some t → ∃ cs, els[i]? = some cs ∧ C t cs) ∧ ∀ v ∈ els.flatten, oneCell v = true

theorem fields_Clone_ok {C : ByteArray × VT → List Value → Prop} {ts : List (ByteArray × VT)} {a : Option Addr} {c : Nat} (hv : VsAt G 7 C ts a) (hC : ∀ t cs, C t cs → ∀ v ∈ cs, oneCell v = true) (hn : ts.length ≤ 1000000000) (h : Holds G w (all L)) :
    Calls pg f_slices_Clone_Sapi_Field_api_Field #[.slice a ts.length c] w (Ret fun v w' => ∃ a' c' els, v = .slice a' ts.length c' ∧ Els 7 C ts els ∧ Holds G w' (all (own t_api_Field 7 a' ts.length c' els.flatten :: L))) := by
  apply of_slices_Clone_Sapi_Field_api_Field
  unfold c_slices_Clone_Sapi_Field_api_Field
  cases a with
  | none =>
    have : ts = [] := by
      cases ts with
      | nil => rfl
      | cons x r => obtain ⟨b, off, cs, e, _⟩ := hv 0 x rfl; cases e
    subst this
    exact Ret.mk ⟨none, 0, [], rfl, ⟨rfl, (by simp), (by simp), (by simp)⟩, h.own_nil⟩
  | some ad =>
    refine cff rfl ?_
    refine New.at h (fun b0 w h => ?_)
    have h2 := Holds.own_of (sz := 7) (n := 0) h rfl
    obtain ⟨els, e1, e2, e3, e4, e5⟩ := src_of_vs (P := pg) (c := c) h2 hv hC (by decide) (fun _ => .inr trivial)
    refine append_at tok rfl (.inl ⟨_, rfl⟩) rfl rfl rfl h2 0 rfl e5 (by show (2 * (0 + ts.length) + 1000) * 120 ≤ 2 ^ 48; omega) (by omega) (fun a' c' w h => ?_)
    refine ⟨_, _, _, rfl, ?_⟩
    simp only [List.eraseIdx_cons_zero, List.nil_append, Nat.zero_add] at h ⊢
    exact Ret.mk ⟨a', c', els, rfl, ⟨e1, e2, e3, e4⟩, h⟩

theorem values_Clone_ok {C : VT → List Value → Prop} {ts : List VT} {a : Option Addr} {c : Nat} (hv : VsAt G 6 C ts a) (hC : ∀ t cs, C t cs → ∀ v ∈ cs, oneCell v = true) (hn : ts.length ≤ 1000000000) (h : Holds G w (all L)) :
    Calls pg f_slices_Clone_Sapi_Value_api_Value #[.slice a ts.length c] w (Ret fun v w' => ∃ a' c' els, v = .slice a' ts.length c' ∧ Els 6 C ts els ∧ Holds G w' (all (own t_api_Value 6 a' ts.length c' els.flatten :: L))) := by
  apply of_slices_Clone_Sapi_Value_api_Value
  unfold c_slices_Clone_Sapi_Value_api_Value
  cases a with
  | none =>
    have : ts = [] := by
      cases ts with
      | nil => rfl
      | cons x r => obtain ⟨b, off, cs, e, _⟩ := hv 0 x rfl; cases e
    subst this
    exact Ret.mk ⟨none, 0, [], rfl, ⟨rfl, (by simp), (by simp), (by simp)⟩, h.own_nil⟩
  | some ad =>
    refine cff rfl ?_
    refine New.at h (fun b0 w h => ?_)
    have h2 := Holds.own_of (sz := 6) (n := 0) h rfl
    obtain ⟨els, e1, e2, e3, e4, e5⟩ := src_of_vs (P := pg) (c := c) h2 hv hC (by decide) (fun _ => .inr trivial)
    refine append_at tok rfl (.inl ⟨_, rfl⟩) rfl rfl rfl h2 0 rfl e5 (by show (2 * (0 + ts.length) + 1000) * 104 ≤ 2 ^ 48; omega) (by omega) (fun a' c' w h => ?_)
    refine ⟨_, _, _, rfl, ?_⟩
    simp only [List.eraseIdx_cons_zero, List.nil_append, Nat.zero_add] at h ⊢
    exact Ret.mk ⟨a', c', els, rfl, ⟨e1, e2, e3, e4⟩, h⟩

end

/-- One element put in place of another of the same content. -/
theorem Els.put {α : Type} {sz : Nat} {C C' : α → List Value → Prop} {ts : List α} {els : List (List Value)} (h : Els sz C ts els) {i : Nat} (hi : i < ts.length) {e : List Value} (hl : e.length = sz) (hone : ∀ v ∈ e, oneCell v = true)
    (hC : ∀ t cs, C t cs → C' t cs) (he : C' ts[i] e) : Els sz C' ts (els.set i e) := by
  obtain ⟨h1, h2, h3, h4⟩ := h
  refine ⟨by simpa using h1, fun x hx => ?_, fun m t hm => ?_, fun v hv => ?_⟩
  · rcases List.mem_or_eq_of_mem_set hx with hx | rfl
    · exact h2 x hx
    · exact hl
  · by_cases hmi : i = m
    · subst hmi
      rw [List.getElem?_eq_getElem hi] at hm
      cases hm
      exact ⟨e, List.getElem?_set_self (by omega), he⟩
    · obtain ⟨cs, hcs, hc⟩ := h3 m t hm
      exact ⟨cs, by rw [List.getElem?_set_ne hmi]; exact hcs, hC _ _ hc⟩
  · obtain ⟨x, hx, hvx⟩ := List.mem_flatten.1 hv
    rcases List.mem_or_eq_of_mem_set hx with hx | rfl
    · exact h4 v (List.mem_flatten.2 ⟨x, hx, hvx⟩)
    · exact hone v hvx

theorem Copy_ok : ∀ (d : Nat) (t : VT) (r : Vr) {G : Gh} {w : World} {L : List HP}, VC G d t r → wt d t ≤ 100000000 → Holds G w (all L) →
    Calls pg f_bson_Copy #[r.val] w (Ret fun v w' => ∃ (r' : Vr) (G' : Gh), v = r'.val ∧ G ≤ G' ∧ VC G' d t r' ∧ Holds G' w' (all L))
  | 0, _, _, _, _, _, hv, _, _ => hv.elim
  | d + 1, .mk k n s b f l, ⟨rk, rn, rs, rb, rbl, rbc, rf, rfl', rfc, rl, rll, rlc⟩, G, w, L, hv, hwt, h => by
    obtain ⟨hk, hn, hs, hb, hfl, hll, hf, hl, ik, iN, bs, bb, bf, bl⟩ := hv
    simp only at hk hn hs hb hfl hll hf hl
    subst hk hn hs hfl hll
    have hbl := hb.1
    subst hbl
    simp only [wt] at hwt
    have hfx : ∀ x ∈ f, x.1.size + wt d x.2 ≤ 100000000 := fun x hx => by
      have := sum_ge (g := fun x : ByteArray × VT => x.1.size + wt d x.2) hx
      omega
    have hlx : ∀ x ∈ l, wt d x ≤ 100000000 := fun x hx => by
      have := sum_ge (g := wt d) hx
      omega
    have hfn : f.length ≤ 100000000 := by
      have := sum_len (g := fun x : ByteArray × VT => x.1.size + wt d x.2) (l := f) (fun x hx => by
        obtain ⟨i, hi, rfl⟩ := List.getElem_of_mem hx
        obtain ⟨_, _, _, _, ⟨r', _, _, hr⟩, _⟩ := hf i _ (List.getElem?_eq_getElem hi)
        have := wt_pos hr
        omega)
      omega
    have hln : l.length ≤ 100000000 := by
      have := sum_len (g := wt d) (l := l) (fun x hx => by
        obtain ⟨i, hi, rfl⟩ := List.getElem_of_mem hx
        obtain ⟨_, _, _, _, ⟨r', _, hr⟩, _⟩ := hl i _ (List.getElem?_eq_getElem hi)
        exact wt_pos hr)
      omega
    apply of_bson_Copy
    unfold c_bson_Copy
    dsimp only
    refine New.at h (fun b0 w h => ?_)
    refine New.at h (fun b2 w h => ?_)
    refine ⟨_, _, _, h.lda 1 3 rfl rfl, ?_⟩
    refine CallR.of (bytes_Clone_ok hb (by omega) h) ?_
    rintro _ w ⟨ba, bc, G1, rfl, hG1, hB, h⟩
    refine ⟨_, _, _, rfl, ?_⟩
    refine St.at h 1 3 rfl rfl rfl (fun w h => ?_)
    simp only [List.set_cons_zero, List.set_cons_succ] at h
    refine ⟨_, _, _, h.lda 1 4 rfl rfl, ?_⟩
    have hf1 := hf.mono hG1 (C' := fun (x : ByteArray × VT) cs => ∃ r' : Vr, cs = .string x.1 :: r'.cells ∧ x.1.size ≤ big ∧ VC G1 d x.2 r') (fun x cs ⟨r', q1, q2, q3⟩ => ⟨r', q1, q2, q3.mono hG1 (Nat.le_refl _)⟩)
    refine CallR.of (fields_Clone_ok hf1 (fun x cs ⟨r', q1, _⟩ v hv => by
      subst q1
      rcases List.mem_cons.1 hv with rfl | hv
      · rfl
      · exact vr_one r' v hv) (by omega) h) ?_
    rintro _ w ⟨fa, fc, els, rfl, hels, h⟩
    refine ⟨_, _, _, rfl, ?_⟩
    refine St.at h 2 4 rfl rfl rfl (fun w h => ?_)
    simp only [List.set_cons_zero, List.set_cons_succ] at h
    refine ⟨_, _, _, h.lda 2 4 rfl rfl, ?_⟩
    refine Loop.inv (I := fun (s' : Int) w => ∃ (i : Nat) (G2 : Gh) (els : List (List Value)), s' = (i : Int) ∧ i ≤ f.length ∧ G1 ≤ G2 ∧ Els 7 (fun (x : ByteArray × VT) cs => ∃ r' : Vr, cs = .string x.1 :: r'.cells ∧ x.1.size ≤ big ∧ VC G2 d x.2 r') f els ∧
        Holds G2 w (all (own t_api_Field 7 fa f.length fc els.flatten :: blk b2 t_api_Value [.int .i64 0, .int .i64 0, .string ⟨#[]⟩, .slice none 0 0, .slice none 0 0, .slice none 0 0] :: blk b0 t_api_Value [.int .i64 rk, .int .i64 rn, .string rs, .slice ba b.length bc, .slice fa f.length fc, .slice rl l.length rlc] :: L)))
      (fun s' _ => f.length - s'.toNat) ?_ ⟨0, G1, els, rfl, Nat.zero_le _, Gh.refl G1, hels, h⟩
    clear h hels
    rintro X s' w ⟨i, G2, els, rfl, hi, hG2, hels, h⟩ hX
    intro j
    by_cases hi' : i < f.length
    · refine ctt (decide_eq_true (by omega)) ?_
      obtain ⟨cs, hcs, r', rfl, hns, hr'⟩ := hels.2.2.1 i _ (List.getElem?_eq_getElem hi')
      have hil : i < els.length := by rw [hels.1]; exact hi'
      have hb2 : 0 ≤ ((i : Nat) : Int) ∧ ((i : Nat) : Int) < ((f.length : Nat) : Int) := ⟨by omega, by omega⟩
      obtain ⟨fb, foff, rfl⟩ := Holds.own_addr' h (by rw [Nat.blt_eq, flat_len els hels.2.1]; omega)
      simp only [ws, add_mk, Int.toNat_natCast]
      refine And.intro hb2 ?_
      have h7 := hels.2.1
      refine ⟨_, h.els_rd 0 rfl h7 hcs 0 rfl, _, h.els_rd 0 rfl h7 hcs 1 rfl, _, h.els_rd 0 rfl h7 hcs 2 rfl, _, h.els_rd 0 rfl h7 hcs 3 rfl, _, _, _, h.els_rd 0 rfl h7 hcs 4 rfl, _, _, _, h.els_rd 0 rfl h7 hcs 5 rfl, _, _, _, h.els_rd 0 rfl h7 hcs 6 rfl, ?_⟩
      refine New.at h (fun b43 w h => ?_)
      refine St.at h 0 0 rfl rfl rfl (fun w h => ?_)
      refine St.at h 0 1 rfl rfl rfl (fun w h => ?_)
      refine St.at h 0 2 rfl rfl rfl (fun w h => ?_)
      refine St.at h 0 3 rfl rfl rfl (fun w h => ?_)
      refine St.at h 0 4 rfl rfl rfl (fun w h => ?_)
      refine St.at h 0 5 rfl rfl rfl (fun w h => ?_)
      refine St.at h 0 6 rfl rfl rfl (fun w h => ?_)
      simp only [List.set_cons_zero, List.set_cons_succ] at h
      refine Drew.of h (fun w h => ?_)
      refine ⟨_, _, _, h.lda 3 4 rfl rfl, ?_⟩
      refine ⟨_, h.lda 0 1 rfl rfl, _, h.lda 0 2 rfl rfl, _, h.lda 0 3 rfl rfl, _, _, _, h.lda 0 4 rfl rfl, _, _, _, h.lda 0 5 rfl rfl, _, _, _, h.lda 0 6 rfl rfl, ?_⟩
      refine CallR.of (Copy_ok d _ r' hr' (by have := hfx _ (List.getElem_mem hi'); omega) h) ?_
      rintro _ w ⟨r2, G3, rfl, hG3, hr2, h⟩
      refine ⟨_, _, _, _, _, _, _, _, _, _, _, _, rfl, ?_⟩
      refine ⟨h.lda 3 4 rfl rfl, ?_⟩
      have h := h.tail
      have hei : els[i] = .string f[i].1 :: r'.cells := by
        rw [List.getElem?_eq_getElem hil] at hcs
        exact Option.some.inj hcs
      have hfs : els.flatten = ((els.take i).flatten ++ [.string f[i].1]) ++ (.int .i64 r'.k :: .int .i64 r'.n :: .string r'.s :: .slice r'.b r'.bl r'.bc :: .slice r'.f r'.fl r'.fc :: .slice r'.l r'.ll r'.lc :: (els.drop (i + 1)).flatten) := by
        rw [flat_split els i hil, hei]
        simp
      rw [hfs] at h
      simp only [ws, add_mk]
      refine And.intro hb2 ?_
      refine St.six h 0 rfl ?_ rfl rfl rfl rfl rfl rfl (fun w h => ?_)
      · rw [List.length_append, flat_len _ (fun e he => h7 e (List.mem_of_mem_take he)), List.length_take, Nat.min_eq_left (by omega)]
        rfl
      have hput : ((els.take i).flatten ++ [Value.string f[i].1]) ++ (.int .i64 r2.k :: .int .i64 r2.n :: .string r2.s :: .slice r2.b r2.bl r2.bc :: .slice r2.f r2.fl r2.fc :: .slice r2.l r2.ll r2.lc :: (els.drop (i + 1)).flatten) = (els.set i (.string f[i].1 :: r2.cells)).flatten := by
        rw [flat_put els i hil]
        simp
      simp only [List.set_cons_zero] at h
      rw [hput] at h
      rw [wrap64_id (x := (i : Int) + 1) ⟨by omega, by omega⟩]
      refine hX _ _ ⟨i + 1, G3, _, rfl, by omega, Gh.trans hG2 hG3, hels.put hi' rfl ?_ (fun x cs ⟨r', q1, q2, q3⟩ => ⟨r', q1, q2, q3.mono hG3 (Nat.le_refl _)⟩) ⟨r2, rfl, hns, hr2⟩, h⟩ (by omega)
      intro v hv
      rcases List.mem_cons.1 hv with rfl | hv
      · rfl
      · exact vr_one r2 v hv
    · refine cff (decide_eq_false (by omega)) ?_
      refine ⟨_, _, _, h.lda 2 5 rfl rfl, ?_⟩
      obtain ⟨G3, hG3, hcell, h⟩ := Holds.own_freeze2 h
      have hfv : VsAt G3 7 (fun (x : ByteArray × VT) cs => ∃ r' : Vr, cs = .string x.1 :: r'.cells ∧ x.1.size ≤ big ∧ VC G3 d x.2 r') f fa :=
        vs_of_frozen hcell hels.2.1 (by decide) (fun m t hm => by
          obtain ⟨cs, q0, r', q1, q2, q3⟩ := hels.2.2.1 m t hm
          exact ⟨cs, q0, r', q1, q2, q3.mono hG3 (Nat.le_refl _)⟩)
      clear hcell hels hX hf1
      have hGG := Gh.trans hG1 (Gh.trans hG2 hG3)
      have hl1 := hl.mono hGG (C' := fun (x : VT) cs => ∃ r' : Vr, cs = r'.cells ∧ VC G3 d x r') (fun x cs ⟨r', q1, q3⟩ => ⟨r', q1, q3.mono hGG (Nat.le_refl _)⟩)
      refine CallR.of (values_Clone_ok hl1 (fun x cs ⟨r', q1, _⟩ v hv => by
        subst q1
        exact vr_one r' v hv) (by omega) h) ?_
      rintro _ w ⟨la, lc, els, rfl, hels, h⟩
      refine ⟨_, _, _, rfl, ?_⟩
      refine St.at h 2 5 rfl rfl rfl (fun w h => ?_)
      simp only [List.set_cons_zero, List.set_cons_succ] at h
      refine ⟨_, _, _, h.lda 2 5 rfl rfl, ?_⟩
      refine Loop.inv (I := fun (s' : Int) w => ∃ (i : Nat) (G4 : Gh) (els : List (List Value)), s' = (i : Int) ∧ i ≤ l.length ∧ G3 ≤ G4 ∧ Els 6 (fun (x : VT) cs => ∃ r' : Vr, cs = r'.cells ∧ VC G4 d x r') l els ∧
          Holds G4 w (all (own t_api_Value 6 la l.length lc els.flatten :: blk b2 t_api_Value [.int .i64 0, .int .i64 0, .string ⟨#[]⟩, .slice none 0 0, .slice none 0 0, .slice none 0 0] :: blk b0 t_api_Value [.int .i64 rk, .int .i64 rn, .string rs, .slice ba b.length bc, .slice fa f.length fc, .slice la l.length lc] :: L)))
        (fun s' _ => l.length - s'.toNat) ?_ ⟨0, G3, els, rfl, Nat.zero_le _, Gh.refl G3, hels, h⟩
      clear h hels
      rintro X s' w ⟨i, G4, els, rfl, hi, hG4, hels, h⟩ hX
      intro j
      by_cases hi' : i < l.length
      · refine ctt (decide_eq_true (by omega)) ?_
        obtain ⟨cs, hcs, r', rfl, hr'⟩ := hels.2.2.1 i _ (List.getElem?_eq_getElem hi')
        have hil : i < els.length := by rw [hels.1]; exact hi'
        have hb2 : 0 ≤ ((i : Nat) : Int) ∧ ((i : Nat) : Int) < ((l.length : Nat) : Int) := ⟨by omega, by omega⟩
        obtain ⟨fb, foff, rfl⟩ := Holds.own_addr' h (by rw [Nat.blt_eq, flat_len els hels.2.1]; omega)
        simp only [ws, add_mk, Int.toNat_natCast]
        refine And.intro hb2 ?_
        have h7 := hels.2.1
        refine ⟨_, h.els_rd 0 rfl h7 hcs 0 rfl, _, h.els_rd 0 rfl h7 hcs 1 rfl, _, h.els_rd 0 rfl h7 hcs 2 rfl, _, _, _, h.els_rd 0 rfl h7 hcs 3 rfl, _, _, _, h.els_rd 0 rfl h7 hcs 4 rfl, _, _, _, h.els_rd 0 rfl h7 hcs 5 rfl, ?_⟩
        refine New.at h (fun b43 w h => ?_)
        refine St.at h 0 0 rfl rfl rfl (fun w h => ?_)
        refine St.at h 0 1 rfl rfl rfl (fun w h => ?_)
        refine St.at h 0 2 rfl rfl rfl (fun w h => ?_)
        refine St.at h 0 3 rfl rfl rfl (fun w h => ?_)
        refine St.at h 0 4 rfl rfl rfl (fun w h => ?_)
        refine St.at h 0 5 rfl rfl rfl (fun w h => ?_)
        simp only [List.set_cons_zero, List.set_cons_succ] at h
        refine Drew.of h (fun w h => ?_)
        refine ⟨_, _, _, h.lda 3 5 rfl rfl, ?_⟩
        refine ⟨_, h.lda 0 0 rfl rfl, _, h.lda 0 1 rfl rfl, _, h.lda 0 2 rfl rfl, _, _, _, h.lda 0 3 rfl rfl, _, _, _, h.lda 0 4 rfl rfl, _, _, _, h.lda 0 5 rfl rfl, ?_⟩
        refine CallR.of (Copy_ok d _ r' hr' (hlx _ (List.getElem_mem hi')) h) ?_
        rintro _ w ⟨r2, G5, rfl, hG5, hr2, h⟩
        refine ⟨_, _, _, _, _, _, _, _, _, _, _, _, rfl, ?_⟩
        refine ⟨h.lda 3 5 rfl rfl, ?_⟩
        have h := h.tail
        have hei : els[i] = r'.cells := by
          rw [List.getElem?_eq_getElem hil] at hcs
          exact Option.some.inj hcs
        have hfs : els.flatten = (els.take i).flatten ++ (.int .i64 r'.k :: .int .i64 r'.n :: .string r'.s :: .slice r'.b r'.bl r'.bc :: .slice r'.f r'.fl r'.fc :: .slice r'.l r'.ll r'.lc :: (els.drop (i + 1)).flatten) := by
          rw [flat_split els i hil, hei]
          simp
        rw [hfs] at h
        simp only [ws, add_mk]
        refine And.intro hb2 ?_
        refine St.six h 0 rfl ?_ rfl rfl rfl rfl rfl rfl (fun w h => ?_)
        · rw [flat_len _ (fun e he => h7 e (List.mem_of_mem_take he)), List.length_take, Nat.min_eq_left (by omega)]
        have hput : (els.take i).flatten ++ (.int .i64 r2.k :: .int .i64 r2.n :: .string r2.s :: .slice r2.b r2.bl r2.bc :: .slice r2.f r2.fl r2.fc :: .slice r2.l r2.ll r2.lc :: (els.drop (i + 1)).flatten) = (els.set i r2.cells).flatten := by
          rw [flat_put els i hil]
          simp
        simp only [List.set_cons_zero] at h
        rw [hput] at h
        rw [wrap64_id (x := (i : Int) + 1) ⟨by omega, by omega⟩]
        exact hX _ _ ⟨i + 1, G5, _, rfl, by omega, Gh.trans hG4 hG5, hels.put hi' rfl (vr_one r2) (fun x cs ⟨r', q1, q3⟩ => ⟨r', q1, q3.mono hG5 (Nat.le_refl _)⟩) ⟨r2, rfl, hr2⟩, h⟩ (by omega)
      · refine cff (decide_eq_false (by omega)) ?_
        obtain ⟨G5, hG5, hcell, h⟩ := Holds.own_freeze2 h
        have hlv : VsAt G5 6 (fun (x : VT) cs => ∃ r' : Vr, cs = r'.cells ∧ VC G5 d x r') l la :=
          vs_of_frozen hcell hels.2.1 (by decide) (fun m t hm => by
            obtain ⟨cs, q0, r', q1, q3⟩ := hels.2.2.1 m t hm
            exact ⟨cs, q0, r', q1, q3.mono hG5 (Nat.le_refl _)⟩)
        have hG35 := Gh.trans hG4 hG5
        repeat' (first
          | (refine New.at h (fun b w hh => ?_); clear h; have h := hh; clear hh)
          | (refine Drew.of h (fun w hh => ?_); clear h; have h := hh; clear hh)
          | (refine St.at h 0 _ rfl rfl rfl (fun w hh => ?_); clear h; have h := hh; clear hh; simp only [List.set_cons_zero, List.set_cons_succ] at h)
          | (refine St.at h 1 _ rfl rfl rfl (fun w hh => ?_); clear h; have h := hh; clear hh; simp only [List.set_cons_zero, List.set_cons_succ] at h)
          | refine ⟨_, h.lda 0 _ rfl rfl, ?_⟩
          | refine ⟨_, _, _, h.lda 0 _ rfl rfl, ?_⟩
          | refine ⟨h.lda 0 _ rfl rfl, ?_⟩
          | refine ⟨_, h.lda 1 _ rfl rfl, ?_⟩
          | refine ⟨_, _, _, h.lda 1 _ rfl rfl, ?_⟩
          | refine ⟨h.lda 1 _ rfl rfl, ?_⟩
          | exact h.lda 0 _ rfl rfl
          | exact h.lda 1 _ rfl rfl
          | refine ⟨_, rfl, ?_⟩
          | refine ⟨_, _, rfl, ?_⟩
          | refine ⟨_, _, _, rfl, ?_⟩
          | refine ⟨_, _, _, _, _, _, _, _, _, _, _, _, rfl, ?_⟩
          | refine ⟨_, _, _, _, _, _, _, _, _, _, _, _, _, rfl, ?_⟩
          | refine ctt rfl ?_
          | refine cff rfl ?_
          | refine Meet.dup ?_
          | intro j
          | rw [ws]
          | simp only [ws, add_mk]
          | refine And.intro ?_ ?_)
        refine Ret.mk ⟨⟨rk, rn, rs, ba, b.length, bc, fa, f.length, fc, la, l.length, lc⟩, G5, rfl, Gh.trans hGG hG35, ⟨rfl, rfl, rfl, hB.mono (Gh.trans (Gh.trans hG2 hG3) hG35), rfl, rfl, ?_, hlv, ik, iN, bs, bb, bf, bl⟩, h.tail.tail⟩
        exact hfv.mono hG35 (fun x cs ⟨r', q1, q2, q3⟩ => ⟨r', q1, q2, q3.mono hG35 (Nat.le_refl _)⟩)

end Go.Proofs.Sw
