/- What the laws do with sources: made, told, at their end. -/
import Derived.Test.YtpbmnjmagdacbaaWc
set_option linter.unusedVariables false
set_option linter.unusedSimpArgs false
set_option maxRecDepth 100000
set_option maxHeartbeats 8000000
namespace Go.Proofs.Sw
open Go Go.Eng Go.Eng.HP Go.RowKit Go.Proofs

theorem isNil_iface {t : TypeId} {v : Value} {K : Bool → Prop} (h : K false) : isNilIf (.iface t v) K := h
theorem one_iface {t : TypeId} {v : Value} {K : Prop} (h : K) : one (.iface t v) K := h
attribute [local irreducible] St New Drew Prim PrimU CallR CallV CallI CallX Meet Eng.Loop withSome HP.blk HP.mp Calls Holds Ret

section
variable {G G0 : Gh} {w : World} {L : List HP}

theorem Own.iface : ∀ {s : SS} {v : Value}, Holds G w (all (Own G0 s v :: L)) → ∃ t p, v = .iface t p
  | .row _ _, v, h => by obtain ⟨b, _, _, _, e, _⟩ := Own.row_open h; exact ⟨_, _, e⟩
  | .lim _ _, v, h => by obtain ⟨b, _, e, _⟩ := win_open h; exact ⟨_, _, e⟩
  | .skp _ _, v, h => by obtain ⟨b, _, e, _⟩ := win_open h; exact ⟨_, _, e⟩
  | .cnt _ _ _, v, h => by obtain ⟨b, _, e, _⟩ := win_open h; exact ⟨_, _, e⟩
  | .dead, v, h => by obtain ⟨b, _, _, _, _, e, _⟩ := Own.dead_open h; exact ⟨_, _, e⟩

theorem Limit_ok {s : SS} {v : Value} {n : Int} (hn : in64 n) (h : Holds G w (all (Own G0 s v :: L))) :
    Calls pg f_window_Limit #[v, .int .i64 n] w (Ret fun r w' => Holds G w' (all (Own G0 (.lim n s) r :: L))) := by
  obtain ⟨t, p, rfl⟩ := Own.iface h
  apply of_window_Limit
  unfold c_window_Limit
  refine isNil_iface (one_iface ?_)
  refine New.at h (fun b w h => ?_)
  exact Ret.mk (win_mk rfl hn h)

theorem Skip_ok {s : SS} {v : Value} {n : Int} (hn : in64 n) (h : Holds G w (all (Own G0 s v :: L))) :
    Calls pg f_window_Skip #[v, .int .i64 n] w (Ret fun r w' => Holds G w' (all (Own G0 (.skp n s) r :: L))) := by
  obtain ⟨t, p, rfl⟩ := Own.iface h
  apply of_window_Skip
  unfold c_window_Skip
  refine isNil_iface (one_iface ?_)
  refine New.at h (fun b w h => ?_)
  exact Ret.mk (win_mk rfl hn h)

theorem Count_ok {s : SS} {v : Value} {nm : ByteArray} (hl : s.out.1.length ≤ 1000000) (hnm : nm.size ≤ big) (h : Holds G w (all (Own G0 s v :: L))) :
    Calls pg f_window_Count #[v, .string nm] w (Ret fun r w' => Holds G w' (all (Own G0 (.cnt nm 0 s) r :: L))) := by
  obtain ⟨t, p, rfl⟩ := Own.iface h
  apply of_window_Count
  unfold c_window_Count
  refine isNil_iface (one_iface ?_)
  refine New.at h (fun b w h => ?_)
  exact Ret.mk (win_mk rfl ⟨Int.le_refl 0, by omega, hnm⟩ h)

theorem Els.snoc {α : Type} {sz : Nat} {C C' : α → List Value → Prop} {ts : List α} {els : List (List Value)} {i : Nat} (h : Els sz C (ts.take i) els) (hi : i < ts.length) {e : List Value} (hl : e.length = sz) (hone : ∀ v ∈ e, oneCell v = true)
    (hC : ∀ t cs, C t cs → C' t cs) (he : C' ts[i] e) : Els sz C' (ts.take (i + 1)) (els ++ [e]) := by
  obtain ⟨h1, h2, h3, h4⟩ := h
  have hl1 : els.length = i := by rw [h1, List.length_take]; omega
  refine ⟨by simp; omega, fun x hx => ?_, fun m t hm => ?_, fun v hv => ?_⟩
  · rcases List.mem_append.1 hx with hx | hx
    · exact h2 x hx
    · cases List.mem_singleton.1 hx
      exact hl
  · rw [List.getElem?_take] at hm
    split at hm
    · next hlt =>
      by_cases hmi : m < i
      · obtain ⟨cs, hcs, hc⟩ := h3 m t (by rw [List.getElem?_take, if_pos hmi]; exact hm)
        exact ⟨cs, by rw [List.getElem?_append_left (by omega)]; exact hcs, hC _ _ hc⟩
      · obtain rfl : m = i := by omega
        rw [List.getElem?_eq_getElem hi] at hm
        cases hm
        exact ⟨e, by rw [List.getElem?_append_right (by omega), hl1]; simp, he⟩
    · cases hm
  · rw [List.flatten_append] at hv
    rcases List.mem_append.1 hv with hv | hv
    · exact h4 v hv
    · simp only [List.flatten_cons, List.flatten_nil, List.append_nil] at hv
      exact hone v hv

theorem Els.nil {α : Type} {sz : Nat} {C : α → List Value → Prop} {ts : List α} : Els sz C (ts.take 0) [] := ⟨rfl, (by simp), (by simp), (by simp)⟩

abbrev VE (G : Gh) : VT → List Value → Prop := fun x cs => ∃ r' : Vr, cs = r'.cells ∧ VC G DD x r'

theorem VE.mono {G1 : Gh} (hG : G ≤ G1) : ∀ t cs, VE G t cs → VE G1 t cs := fun t cs ⟨r', q1, q3⟩ => ⟨r', q1, q3.mono hG (Nat.le_refl _)⟩

theorem Vs.of_own {ts : List VT} {a : Option Addr} {c : Nat} {els : List (List Value)} (hels : Els 6 (VE G) ts els) (hb : ts.length ≤ big) (h : Holds G w (all (own t_api_Value 6 a ts.length c els.flatten :: L))) :
    ∃ G', G ≤ G' ∧ Vs G' DD ts a ts.length ∧ ts.length ≤ c ∧ Holds G' w (all L) := by
  have hc := (Holds.own_len h).2
  obtain ⟨G', hG, hcell, h⟩ := Holds.own_freeze2 h
  exact ⟨G', hG, ⟨rfl, hb, vs_of_frozen hcell hels.2.1 (by decide) (fun m t hm => by
    obtain ⟨cs, q0, q1⟩ := hels.2.2.1 m t hm
    exact ⟨cs, q0, VE.mono hG _ _ q1⟩)⟩, hc, h⟩

/-- What Told tells. -/
theorem Told_ok {s : SS} {v : Value} {m : Int} (hm : (s.out.1.length : Int) ≤ m) (hl : s.out.1.length ≤ 1000000) (h : Holds G w (all (Own G s v :: L))) :
    Calls pg f_aqueductlaw17_Told #[v, .int .i64 m] w (Ret fun r w' => ∃ a c s' G', r = .tuple #[.slice a s.out.1.length c, .int .i64 s.out.2] ∧ Vs G' DD s.out.1 a s.out.1.length ∧ s.out.1.length ≤ c ∧ s'.out = ([], 0) ∧ G ≤ G' ∧ Holds G' w' (all (Own G' s' v :: L))) := by
  obtain ⟨t, p, rfl⟩ := Own.iface h
  apply of_aqueductlaw17_Told
  unfold c_aqueductlaw17_Told
  refine isNil_iface ?_
  refine cff rfl ?_
  refine Loop.inv (I := fun st w => ∃ (q1 : Option Addr × Nat × Nat) (q2 : Int) (i : Nat) (a : Option Addr) (c : Nat) (els : List (List Value)) (s' : SS) (G1 : Gh), st = (q1, q2, (a, i, c), (i : Int)) ∧ i ≤ s.out.1.length ∧ Els 6 (VE G1) (s.out.1.take i) els ∧ s'.out = (s.out.1.drop i, s.out.2) ∧ G ≤ G1 ∧
      Holds G1 w (all (own t_api_Value 6 a i c els.flatten :: Own G1 s' (.iface t p) :: L)))
    (fun st _ => s.out.1.length - st.2.2.2.toNat) ?_ ⟨_, _, 0, none, 0, [], s, G, rfl, Nat.zero_le _, Els.nil, rfl, Gh.refl G, h.own_nil⟩
  clear h
  rintro X st w ⟨q1, q2, i, a, c, els, s1, G1, rfl, hi, hels, hs1, hG1, h⟩ hX
  intro j
  dsimp only
  refine ctt (decide_eq_true (by omega)) ?_
  refine Next_all s1 (h.bring 1 rfl) ?_
  rintro res w ⟨r, s2, G2, hG2, hrk, h, ⟨x, xs, hx1, rfl, hx2, hs'⟩ | ⟨hx1, rfl, hs'⟩⟩
  · have hlt : i < s.out.1.length := by
      rw [hs1] at hx1
      by_cases hc : i < s.out.1.length
      · exact hc
      · rw [List.drop_of_length_le (by omega)] at hx1
        cases hx1
    have hdrop : x = s.out.1[i] ∧ xs = s.out.1.drop (i + 1) := by
      rw [hs1] at hx1
      simp only at hx1
      rw [List.drop_eq_getElem_cons hlt] at hx1
      simp only [List.cons.injEq] at hx1
      exact ⟨hx1.1.symm, hx1.2.symm⟩
    refine ⟨_, _, _, _, _, _, _, _, _, _, _, _, _, _, rfl, ?_⟩
    simp only [List.eraseIdx_cons_zero, List.eraseIdx_cons_succ] at h
    refine New.at h (fun b1 w h => ?_)
    refine St.at h 0 0 rfl rfl rfl (fun w h => ?_)
    refine St.at h 0 1 rfl rfl rfl (fun w h => ?_)
    refine St.at h 0 2 rfl rfl rfl (fun w h => ?_)
    refine St.at h 0 3 rfl rfl rfl (fun w h => ?_)
    refine St.at h 0 4 rfl rfl rfl (fun w h => ?_)
    refine St.at h 0 5 rfl rfl rfl (fun w h => ?_)
    simp only [List.set_cons_zero, List.set_cons_succ] at h
    refine cff rfl ?_
    refine cff rfl ?_
    refine ⟨_, h.lda 0 0 rfl rfl, _, h.lda 0 1 rfl rfl, _, h.lda 0 2 rfl rfl, _, _, _, h.lda 0 3 rfl rfl, _, _, _, h.lda 0 4 rfl rfl, _, _, _, h.lda 0 5 rfl rfl, ?_⟩
    refine New.at h (fun b2 w h => ?_)
    refine append_at tok rfl (.inl ⟨_, rfl⟩) rfl rfl rfl h 3 rfl (Src.blk_at (m := 1) h 0 rfl rfl rfl) (by show (2 * (i + 1) + 1000) * 104 ≤ 2 ^ 48; omega) (by omega) (fun a' c' w h => ?_)
    refine ⟨_, _, _, rfl, ?_⟩
    simp only [List.eraseIdx_cons_zero, List.eraseIdx_cons_succ] at h
    have h := h.skip.skip
    rw [wrap64_id (x := (i : Int) + 1) ⟨by omega, by omega⟩]
    refine hX _ _ ⟨_, _, i + 1, a', c', els ++ [r.cells], s2, G2, rfl, by omega, hels.snoc hlt rfl (vr_one r) (VE.mono hG2) ⟨r, rfl, by rw [← hdrop.1]; exact hx2⟩, ?_, Gh.trans hG1 hG2, ?_⟩ (by dsimp only; omega)
    · rw [hs', hs1, hdrop.2]
    · rw [List.flatten_append]
      exact h
  · have hlen : i = s.out.1.length := by
      rw [hs1] at hx1
      have := congrArg List.length hx1
      simp at this
      omega
    subst hlen
    have he : s1.out.2 = s.out.2 := by rw [hs1]
    rw [he]
    refine ⟨_, _, _, _, _, _, _, _, _, _, _, _, _, _, rfl, ?_⟩
    simp only [List.eraseIdx_cons_zero, List.eraseIdx_cons_succ] at h
    refine New.at h (fun b1 w h => ?_)
    refine St.at h 0 0 rfl rfl rfl (fun w h => ?_)
    refine St.at h 0 1 rfl rfl rfl (fun w h => ?_)
    refine St.at h 0 2 rfl rfl rfl (fun w h => ?_)
    refine St.at h 0 3 rfl rfl rfl (fun w h => ?_)
    refine St.at h 0 4 rfl rfl rfl (fun w h => ?_)
    refine St.at h 0 5 rfl rfl rfl (fun w h => ?_)
    simp only [List.set_cons_zero, List.set_cons_succ] at h
    have h := h.bring 2 rfl
    simp only [List.eraseIdx_cons_zero, List.eraseIdx_cons_succ] at h
    rw [List.take_length] at hels
    obtain ⟨els0, els1, els2, els3⟩ := hels
    obtain ⟨G3, hG3, hV, hc, h⟩ := Vs.of_own ⟨els0, els1, (fun m t hm => by obtain ⟨cs, q0, q1⟩ := els2 m t hm; exact ⟨cs, q0, VE.mono hG2 _ _ q1⟩), els3⟩ (by unfold big; omega) h
    have h := Holds.hmap (h.tail) (Own.mono hG3 s2 _)
    have hGG := Gh.trans hG1 (Gh.trans hG2 hG3)
    by_cases he0 : s.out.2 = 0
    · refine cff (by simp [he0]) ?_
      refine ctt rfl ?_
      refine Ret.mk ⟨a, c, s2, G3, ?_, hV, hc, hs', hGG, h⟩
      rw [he0]
    · refine ctt (b2_ne he0) ?_
      exact Ret.mk ⟨a, c, s2, G3, rfl, hV, hc, hs', hGG, h⟩

/-- At its end it is at its end. -/
theorem Ends_ok {s : SS} {v : Value} (hs : s.out = ([], 0)) (h : Holds G w (all (Own G s v :: L))) :
    Calls pg f_aqueductlaw17_Ends #[v] w (Ret fun r w' => r = .bool true ∧ ∃ G', G ≤ G' ∧ Holds G' w' (all L)) := by
  apply of_aqueductlaw17_Ends
  unfold c_aqueductlaw17_Ends
  refine Next_all s h ?_
  rintro res w ⟨r, s2, G2, hG2, hrk, h, ⟨x, xs, hx1, rfl, hx2, hs'⟩ | ⟨hx1, rfl, hs'⟩⟩
  · rw [hs] at hx1
    cases hx1
  rw [hs]
  refine ⟨_, _, _, _, _, _, _, _, _, _, _, _, _, _, rfl, ?_⟩
  refine New.at h (fun b1 w h => ?_)
  refine St.at h 0 0 rfl rfl rfl (fun w h => ?_)
  refine St.at h 0 1 rfl rfl rfl (fun w h => ?_)
  refine St.at h 0 2 rfl rfl rfl (fun w h => ?_)
  refine St.at h 0 3 rfl rfl rfl (fun w h => ?_)
  refine St.at h 0 4 rfl rfl rfl (fun w h => ?_)
  refine St.at h 0 5 rfl rfl rfl (fun w h => ?_)
  simp only [List.set_cons_zero, List.set_cons_succ] at h
  refine Close_all s2 (h.bring 1 rfl) (fun s3 w hs3 h => ?_)
  refine ⟨rfl, ?_⟩
  refine Next_all s3 h ?_
  rintro res w ⟨r2, s4, G3, hG3, hrk3, h, ⟨x, xs, hx1, rfl, hx2, hs'⟩ | ⟨hx1, rfl, hs'⟩⟩
  · rw [hs3] at hx1
    cases hx1
  rw [hs3]
  refine ⟨_, _, _, _, _, _, _, _, _, _, _, _, _, _, rfl, ?_⟩
  refine New.at h (fun b2 w h => ?_)
  refine St.at h 0 0 rfl rfl rfl (fun w h => ?_)
  refine St.at h 0 1 rfl rfl rfl (fun w h => ?_)
  refine St.at h 0 2 rfl rfl rfl (fun w h => ?_)
  refine St.at h 0 3 rfl rfl rfl (fun w h => ?_)
  refine St.at h 0 4 rfl rfl rfl (fun w h => ?_)
  refine St.at h 0 5 rfl rfl rfl (fun w h => ?_)
  simp only [List.set_cons_zero, List.set_cons_succ] at h
  refine Close_all s4 (h.bring 1 rfl) (fun s5 w hs5 h => ?_)
  refine ⟨rfl, ?_⟩
  refine Meet.dup ?_
  refine ctt rfl (ctt rfl (ctt rfl ?_))
  intro j
  simp only [List.eraseIdx_cons_zero, List.eraseIdx_cons_succ] at h
  exact Ret.mk ⟨rfl, G3, Gh.trans hG2 hG3, h.tail.tail.tail⟩

/-- Documents as a source. -/
theorem Of_ok {d : Nat} {l : List VT} {a : Option Addr} {n c : Nat} {e : Int} (hd : d ≤ DD) (hv : Vs G d l a n) (hw : ∀ t ∈ l, wt d t ≤ 100000000) (hn : l.length ≤ 1000000) (h : Holds G w (all L)) :
    Calls pg f_source_Of #[.slice a n c, .int .i64 e] w (Ret fun r w' => ∃ G', G ≤ G' ∧ Holds G' w' (all (Own G' (.row l e) r :: L))) := by
  obtain ⟨rfl, hbig, hts⟩ := hv
  apply of_source_Of
  unfold c_source_Of
  refine New.at h (fun b0 w h => ?_)
  refine Loop.inv (I := fun (s' : Int) w => ∃ (i : Nat) (oa : Option Addr) (oc : Nat) (els : List (List Value)) (G1 : Gh), s' = (i : Int) ∧ i ≤ l.length ∧ Els 6 (VE G1) (l.take i) els ∧ G ≤ G1 ∧ Holds G1 w (all (own t_api_Value 6 oa i oc els.flatten :: blk b0 t_source_row [.slice oa i oc, .int .i64 e] :: L)))
    (fun s' _ => l.length - s'.toNat) ?_ ⟨0, none, 0, [], G, rfl, Nat.zero_le _, Els.nil, Gh.refl G, h.own_nil⟩
  clear h
  rintro X st w ⟨i, oa, oc, els, G1, rfl, hi, hels, hG1, h⟩ hX
  intro j
  by_cases hi' : i < l.length
  · refine ctt (decide_eq_true (by omega)) ?_
    obtain ⟨fb, foff, cs, rfl, ⟨r', rfl, hr'⟩, hlen, hc⟩ := hts i _ (List.getElem?_eq_getElem hi')
    have hb2 : 0 ≤ ((i : Nat) : Int) ∧ ((i : Nat) : Int) < ((l.length : Nat) : Int) := ⟨by omega, by omega⟩
    have hc1 := fun j v hj => Gh.cell_mono hG1 (hc j v hj)
    simp only [ws, add_mk, Int.toNat_natCast]
    refine And.intro hb2 ?_
    refine ⟨_, h.rd (hc1 0 _ rfl), _, h.rd (hc1 1 _ rfl), _, h.rd (hc1 2 _ rfl), _, _, _, h.rd (hc1 3 _ rfl), _, _, _, h.rd (hc1 4 _ rfl), _, _, _, h.rd (hc1 5 _ rfl), ?_⟩
    refine New.at h (fun b1 w h => ?_)
    refine St.at h 0 0 rfl rfl rfl (fun w h => ?_)
    refine St.at h 0 1 rfl rfl rfl (fun w h => ?_)
    refine St.at h 0 2 rfl rfl rfl (fun w h => ?_)
    refine St.at h 0 3 rfl rfl rfl (fun w h => ?_)
    refine St.at h 0 4 rfl rfl rfl (fun w h => ?_)
    refine St.at h 0 5 rfl rfl rfl (fun w h => ?_)
    simp only [List.set_cons_zero, List.set_cons_succ] at h
    refine Drew.of h (fun w h => ?_)
    refine ⟨_, _, _, h.lda 2 0 rfl rfl, ?_⟩
    refine ⟨_, h.lda 0 0 rfl rfl, _, h.lda 0 1 rfl rfl, _, h.lda 0 2 rfl rfl, _, _, _, h.lda 0 3 rfl rfl, _, _, _, h.lda 0 4 rfl rfl, _, _, _, h.lda 0 5 rfl rfl, ?_⟩
    have hel : els.length = i := by rw [hels.1, List.length_take]; omega
    have hfl : els.flatten.length = i * 6 := by rw [flat_len els hels.2.1, hel]
    rw [wrap64_id (x := (i : Int) + 1) ⟨by omega, by omega⟩]
    have fin : ∀ (w : World) (oa : Option Addr) (oc : Nat) (r2 : Vr) (G2 : Gh), G1 ≤ G2 → VC G2 d l[i] r2 → Holds G2 w (all (own t_api_Value 6 oa (i + 1) oc (els.flatten ++ r2.cells) :: blk b0 t_source_row [.slice oa (i + 1) oc, .int .i64 e] :: L)) → X ((i : Int) + 1) w := by
      intro w oa oc r2 G2 hG2 hr2 h
      refine hX _ _ ⟨i + 1, oa, oc, els ++ [r2.cells], G2, rfl, by omega, hels.snoc hi' rfl (vr_one r2) (VE.mono hG2) ⟨r2, rfl, hr2.mono (Gh.refl _) hd⟩, Gh.trans hG1 hG2, ?_⟩ (by omega)
      rw [List.flatten_append]
      simp only [List.flatten_cons, List.flatten_nil, List.append_nil]
      exact h
    have hidx : 0 ≤ ((i : Nat) : Int) ∧ ((i : Nat) : Int) < ((i + 1 : Nat) : Int) := ⟨by omega, by omega⟩
    have hwi := hw _ (List.getElem_mem hi')
    refine ⟨?_, ?_⟩
    · refine CallR.of (Copy_ok d _ r' (hr'.mono hG1 (Nat.le_refl _)) hwi h) ?_
      rintro _ w ⟨r2, G2, rfl, hG2, hr2, h⟩
      refine ⟨_, _, _, _, _, _, _, _, _, _, _, _, rfl, ?_⟩
      refine ⟨h.lda 2 0 rfl rfl, ?_⟩
      refine New.at h (fun b2 w h => ?_)
      refine ⟨h.lda 3 0 rfl rfl, ?_⟩
      refine append_at tok rfl (.inl ⟨_, rfl⟩) rfl rfl rfl h 2 rfl (Src.blk_at (m := 1) h 0 rfl rfl rfl) (by show (2 * (i + 1) + 1000) * 104 ≤ 2 ^ 48; omega) (by omega) (fun a' c' w h => ?_)
      refine ⟨_, _, _, rfl, ?_⟩
      simp only [List.eraseIdx_cons_zero, List.eraseIdx_cons_succ] at h
      have h := h.skip.skip
      obtain ⟨ob, ooff, rfl⟩ := Holds.own_addr' h (by rw [Nat.blt_eq]; simp)
      simp only [ws, add_mk, Int.toNat_natCast]
      refine And.intro hidx ⟨?_, ?_⟩
      · refine St.six h 0 rfl (by rw [hfl]) rfl rfl rfl rfl rfl rfl (fun w h => ?_)
        refine St.at h 1 0 rfl rfl rfl (fun w h => ?_)
        simp only [List.set_cons_zero, List.set_cons_succ] at h
        exact fin w _ _ r2 G2 hG2 hr2 h
      · refine St.at h 1 0 rfl rfl rfl (fun w h => ?_)
        simp only [List.set_cons_zero, List.set_cons_succ] at h
        refine St.six h 0 rfl (by rw [hfl]) rfl rfl rfl rfl rfl rfl (fun w h => ?_)
        exact fin w _ _ r2 G2 hG2 hr2 h
    · refine New.at h (fun b2 w h => ?_)
      refine ⟨⟨h.lda 1 0 rfl rfl, h.lda 1 1 rfl rfl, h.lda 1 2 rfl rfl, h.lda 1 3 rfl rfl, h.lda 1 4 rfl rfl, h.lda 1 5 rfl rfl⟩, ?_⟩
      refine ⟨h.lda 3 0 rfl rfl, ?_⟩
      refine CallR.of (Copy_ok d _ r' (hr'.mono hG1 (Nat.le_refl _)) hwi h) ?_
      rintro _ w ⟨r2, G2, rfl, hG2, hr2, h⟩
      refine ⟨_, _, _, _, _, _, _, _, _, _, _, _, rfl, ?_⟩
      refine ⟨h.lda 3 0 rfl rfl, ?_⟩
      refine append_at tok rfl (.inl ⟨_, rfl⟩) rfl rfl rfl h 2 rfl (Src.blk_at (m := 1) h 0 rfl rfl rfl) (by show (2 * (i + 1) + 1000) * 104 ≤ 2 ^ 48; omega) (by omega) (fun a' c' w h => ?_)
      refine ⟨_, _, _, rfl, ?_⟩
      simp only [List.eraseIdx_cons_zero, List.eraseIdx_cons_succ] at h
      have h := h.skip.skip
      obtain ⟨ob, ooff, rfl⟩ := Holds.own_addr' h (by rw [Nat.blt_eq]; simp)
      simp only [ws, add_mk, Int.toNat_natCast]
      refine And.intro hidx ⟨?_, ?_⟩
      · refine St.six h 0 rfl (by rw [hfl]) rfl rfl rfl rfl rfl rfl (fun w h => ?_)
        refine St.at h 1 0 rfl rfl rfl (fun w h => ?_)
        simp only [List.set_cons_zero, List.set_cons_succ] at h
        exact fin w _ _ r2 G2 hG2 hr2 h
      · refine St.at h 1 0 rfl rfl rfl (fun w h => ?_)
        simp only [List.set_cons_zero, List.set_cons_succ] at h
        refine St.six h 0 rfl (by rw [hfl]) rfl rfl rfl rfl rfl rfl (fun w h => ?_)
        exact fin w _ _ r2 G2 hG2 hr2 h
  · refine cff (decide_eq_false (by omega)) ?_
    obtain rfl : i = l.length := by omega
    rw [List.take_length] at hels
    obtain ⟨G2, hG2, hV, hcc, h⟩ := Vs.of_own hels hbig h
    exact Ret.mk ⟨G2, Gh.trans hG1 hG2, Own.row_mk hV hcc h⟩

end
end Go.Proofs.Sw
