/- Windows: what Next tells. -/
import Derived.Test.YtpbmnjmagdacbaaWb
set_option linter.unusedVariables false
set_option linter.unusedSimpArgs false
set_option maxRecDepth 100000
set_option maxHeartbeats 8000000
namespace Go.Proofs.Sw
open Go Go.Eng Go.Eng.HP Go.RowKit Go.Proofs
attribute [local irreducible] St New Drew Prim PrimU CallR CallV CallI CallX Meet Eng.Loop withSome HP.blk HP.mp Calls Holds Ret

/-- What a window's own function tells. -/
def WPost (G : Gh) (st : SS) (b : Nat) (sv : Value) (fn : Nat) (L : List HP) (res : Value) (w : World) : Prop :=
  ∃ (r : Vr) (G' : Gh), G ≤ G' ∧
    ((∃ x xs s', st.out.1 = x :: xs ∧ res = .tuple #[r.val, .bool true, .int .i64 0] ∧ VC G' DD x r ∧ s'.out = (xs, st.out.2) ∧ s'.rank ≤ st.rank ∧ Holds G' w (all (Own G' s' (.iface t_Pwindow_window (ptr b)) :: L))) ∨
     (st.out.1 = [] ∧ res = .tuple #[r.val, .bool false, .int .i64 st.out.2] ∧
      ((∃ s' n' nm', Holds G' w (all (blk b t_window_window (wcells sv n' nm' false fn) :: Own G' s' sv :: L))) ∨ ∃ n' nm', Holds G' w (all (blk b t_window_window (wcells sv n' nm' true fn) :: L)))))

section
variable {G : Gh} {w : World} {L : List HP}

theorem b2_ne {e : Int} (h : e ≠ 0) : (e != 0) = true := by simp [h]

theorem win_Next {st : SS} {b : Nat} {sv : Value} {n : Int} {nm : ByteArray} {fn : Nat} {A : HP} (hb : bl fn = false)
    (hf : ∀ {w : World} {L : List HP}, Holds G w (all (blk b t_window_window (wcells sv n nm false fn) :: A :: L)) → Calls pg fn #[ptr b] w (Ret (WPost G st b sv fn L)))
    (h : Holds G w (all (blk b t_window_window (wcells sv n nm false fn) :: A :: L))) :
    Calls pg f_Pwindow_window_Next #[ptr b] w (Ret (NextPost G st (.iface t_Pwindow_window (ptr b)) L)) := by
  apply of_Pwindow_window_Next
  unfold c_Pwindow_window_Next
  refine New.at h (fun b0 w h => ?_)
  simp only [ws, add_mk]
  refine ⟨_, h.lda 1 3 rfl rfl, cff rfl ?_⟩
  refine ⟨_, h.lda 1 4 rfl rfl, ?_⟩
  refine CallV.of hb (CallR.of (hf ((h.bring 2 rfl).bring 2 rfl)) ?_)
  rintro res w ⟨r, G', hG, ⟨x, xs, s', h1, rfl, hx, hs', hrk, h⟩ | ⟨h1, rfl, ⟨s', n', nm', h⟩ | ⟨n', nm', h⟩⟩⟩
  · refine ⟨_, _, _, _, _, _, _, _, _, _, _, _, _, _, rfl, ?_⟩
    refine New.at h (fun b1 w h => ?_)
    refine St.at h 0 0 rfl rfl rfl (fun w h => ?_)
    refine St.at h 0 1 rfl rfl rfl (fun w h => ?_)
    refine St.at h 0 2 rfl rfl rfl (fun w h => ?_)
    refine St.at h 0 3 rfl rfl rfl (fun w h => ?_)
    refine St.at h 0 4 rfl rfl rfl (fun w h => ?_)
    refine St.at h 0 5 rfl rfl rfl (fun w h => ?_)
    simp only [List.set_cons_zero, List.set_cons_succ] at h
    refine Meet.dup ?_
    refine cff rfl ?_
    intro j
    refine cff rfl ?_
    refine ⟨_, h.lda 0 0 rfl rfl, _, h.lda 0 1 rfl rfl, _, h.lda 0 2 rfl rfl, _, _, _, h.lda 0 3 rfl rfl, _, _, _, h.lda 0 4 rfl rfl, _, _, _, h.lda 0 5 rfl rfl, ?_⟩
    refine St.at h 2 0 rfl rfl rfl (fun w h => ?_)
    refine St.at h 2 1 rfl rfl rfl (fun w h => ?_)
    refine St.at h 2 2 rfl rfl rfl (fun w h => ?_)
    refine St.at h 2 3 rfl rfl rfl (fun w h => ?_)
    refine St.at h 2 4 rfl rfl rfl (fun w h => ?_)
    refine St.at h 2 5 rfl rfl rfl (fun w h => ?_)
    simp only [List.set_cons_zero, List.set_cons_succ] at h
    refine ⟨_, h.lda 2 0 rfl rfl, _, h.lda 2 1 rfl rfl, _, h.lda 2 2 rfl rfl, _, _, _, h.lda 2 3 rfl rfl, _, _, _, h.lda 2 4 rfl rfl, _, _, _, h.lda 2 5 rfl rfl, ?_⟩
    exact Ret.mk ⟨r, s', G', hG, hrk, h.tail.skip, .inl ⟨x, xs, h1, rfl, hx, hs'⟩⟩
  · refine ⟨_, _, _, _, _, _, _, _, _, _, _, _, _, _, rfl, ?_⟩
    refine New.at h (fun b1 w h => ?_)
    refine St.at h 0 0 rfl rfl rfl (fun w h => ?_)
    refine St.at h 0 1 rfl rfl rfl (fun w h => ?_)
    refine St.at h 0 2 rfl rfl rfl (fun w h => ?_)
    refine St.at h 0 3 rfl rfl rfl (fun w h => ?_)
    refine St.at h 0 4 rfl rfl rfl (fun w h => ?_)
    refine St.at h 0 5 rfl rfl rfl (fun w h => ?_)
    simp only [List.set_cons_zero, List.set_cons_succ] at h
    refine Meet.mk (fun bb w => bb = true ∧ Holds G' w (all (blk b1 t_api_Value r.cells :: blk b t_window_window (wcells sv n' nm' false fn) :: Own G' s' sv :: blk b0 t_api_Value zr.cells :: L))) ?_ ?_
    · refine cif (fun _ => ?_) (fun _ => ?_)
      · exact ⟨rfl, h⟩
      · exact ⟨rfl, h⟩
    rintro bb w ⟨rfl, h⟩ j
    refine ctt rfl ?_
    refine CallR.of (win_Close_live (Close_all s') ((h.bring 2 rfl).bring 2 rfl)) ?_
    rintro _ w ⟨rfl, h⟩
    refine ⟨rfl, ?_⟩
    simp only [List.eraseIdx_cons_zero, List.eraseIdx_cons_succ] at h
    refine St.at h 2 0 rfl rfl rfl (fun w h => ?_)
    refine St.at h 2 1 rfl rfl rfl (fun w h => ?_)
    refine St.at h 2 2 rfl rfl rfl (fun w h => ?_)
    refine St.at h 2 3 rfl rfl rfl (fun w h => ?_)
    refine St.at h 2 4 rfl rfl rfl (fun w h => ?_)
    refine St.at h 2 5 rfl rfl rfl (fun w h => ?_)
    simp only [List.set_cons_zero, List.set_cons_succ] at h
    refine ⟨_, h.lda 2 0 rfl rfl, _, h.lda 2 1 rfl rfl, _, h.lda 2 2 rfl rfl, _, _, _, h.lda 2 3 rfl rfl, _, _, _, h.lda 2 4 rfl rfl, _, _, _, h.lda 2 5 rfl rfl, ?_⟩
    exact Ret.mk ⟨zr, .dead, G', hG, Nat.zero_le _, Own.dead_mk h.skip.skip, .inr ⟨h1, rfl, rfl⟩⟩
  · refine ⟨_, _, _, _, _, _, _, _, _, _, _, _, _, _, rfl, ?_⟩
    refine New.at h (fun b1 w h => ?_)
    refine St.at h 0 0 rfl rfl rfl (fun w h => ?_)
    refine St.at h 0 1 rfl rfl rfl (fun w h => ?_)
    refine St.at h 0 2 rfl rfl rfl (fun w h => ?_)
    refine St.at h 0 3 rfl rfl rfl (fun w h => ?_)
    refine St.at h 0 4 rfl rfl rfl (fun w h => ?_)
    refine St.at h 0 5 rfl rfl rfl (fun w h => ?_)
    simp only [List.set_cons_zero, List.set_cons_succ] at h
    refine Meet.mk (fun bb w => bb = true ∧ Holds G' w (all (blk b1 t_api_Value r.cells :: blk b t_window_window (wcells sv n' nm' true fn) :: blk b0 t_api_Value zr.cells :: L))) ?_ ?_
    · refine cif (fun _ => ?_) (fun _ => ?_)
      · exact ⟨rfl, h⟩
      · exact ⟨rfl, h⟩
    rintro bb w ⟨rfl, h⟩ j
    refine ctt rfl ?_
    refine CallR.of (win_Close_over (h.bring 1 rfl)) ?_
    rintro _ w ⟨rfl, h⟩
    refine ⟨rfl, ?_⟩
    simp only [List.eraseIdx_cons_zero, List.eraseIdx_cons_succ] at h
    refine St.at h 2 0 rfl rfl rfl (fun w h => ?_)
    refine St.at h 2 1 rfl rfl rfl (fun w h => ?_)
    refine St.at h 2 2 rfl rfl rfl (fun w h => ?_)
    refine St.at h 2 3 rfl rfl rfl (fun w h => ?_)
    refine St.at h 2 4 rfl rfl rfl (fun w h => ?_)
    refine St.at h 2 5 rfl rfl rfl (fun w h => ?_)
    simp only [List.set_cons_zero, List.set_cons_succ] at h
    refine ⟨_, h.lda 2 0 rfl rfl, _, h.lda 2 1 rfl rfl, _, h.lda 2 2 rfl rfl, _, _, _, h.lda 2 3 rfl rfl, _, _, _, h.lda 2 4 rfl rfl, _, _, _, h.lda 2 5 rfl rfl, ?_⟩
    exact Ret.mk ⟨zr, .dead, G', hG, Nat.zero_le _, Own.dead_mk h.skip.skip, .inr ⟨h1, rfl, rfl⟩⟩

theorem first_ok {s : SS} {n : Int} {b : Nat} {sv : Value} (hs : NextSpec s) (hn : in64 n) (ho : oneCell sv = true) (h : Holds G w (all (blk b t_window_window (wcells sv n em false f_Pwindow_window_first) :: Own G s sv :: L))) :
    Calls pg f_Pwindow_window_first #[ptr b] w (Ret (WPost G (.lim n s) b sv f_Pwindow_window_first L)) := by
  obtain ⟨hn1, hn2⟩ := hn
  apply of_Pwindow_window_first
  unfold c_Pwindow_window_first
  refine New.at h (fun b0 w h => ?_)
  simp only [ws, add_mk]
  refine ⟨_, h.lda 1 1 rfl rfl, ?_⟩
  by_cases h1 : n < 1
  · refine ctt (decide_eq_true h1) ?_
    refine St.at h 0 0 rfl rfl rfl (fun w h => ?_)
    refine St.at h 0 1 rfl rfl rfl (fun w h => ?_)
    refine St.at h 0 2 rfl rfl rfl (fun w h => ?_)
    refine St.at h 0 3 rfl rfl rfl (fun w h => ?_)
    refine St.at h 0 4 rfl rfl rfl (fun w h => ?_)
    refine St.at h 0 5 rfl rfl rfl (fun w h => ?_)
    simp only [List.set_cons_zero, List.set_cons_succ] at h
    refine ⟨_, h.lda 0 0 rfl rfl, _, h.lda 0 1 rfl rfl, _, h.lda 0 2 rfl rfl, _, _, _, h.lda 0 3 rfl rfl, _, _, _, h.lda 0 4 rfl rfl, _, _, _, h.lda 0 5 rfl rfl, ?_⟩
    have h0 : n.toNat = 0 := by omega
    refine Ret.mk ⟨zr, G, Gh.refl G, .inr ⟨by simp [SS.out, h0], by simp [SS.out, h0], .inl ⟨s, n, em, h.tail⟩⟩⟩
  · refine cff (decide_eq_false h1) ?_
    refine ⟨_, h.lda 1 1 rfl rfl, ?_⟩
    rw [wrap64_id (x := n - 1) ⟨by omega, by omega⟩]
    refine St.at h 1 1 rfl rfl rfl (fun w h => ?_)
    simp only [List.set_cons_zero, List.set_cons_succ] at h
    refine ⟨_, h.lda 1 0 rfl rfl, ?_⟩
    refine hs (h.bring 2 rfl) ?_
    rintro res w ⟨r, s', G', hG, hrk, h, ⟨x, xs, hx1, rfl, hx2, hs'⟩ | ⟨hx1, rfl, hs'⟩⟩
    · refine ⟨_, _, _, _, _, _, _, _, _, _, _, _, _, _, rfl, ?_⟩
      simp only [List.eraseIdx_cons_zero, List.eraseIdx_cons_succ] at h
      refine New.at h (fun b1 w h => ?_)
      refine St.at h 0 0 rfl rfl rfl (fun w h => ?_)
      refine St.at h 0 1 rfl rfl rfl (fun w h => ?_)
      refine St.at h 0 2 rfl rfl rfl (fun w h => ?_)
      refine St.at h 0 3 rfl rfl rfl (fun w h => ?_)
      refine St.at h 0 4 rfl rfl rfl (fun w h => ?_)
      refine St.at h 0 5 rfl rfl rfl (fun w h => ?_)
      simp only [List.set_cons_zero, List.set_cons_succ] at h
      refine Meet.dup ?_
      refine Meet.dup ?_
      refine ctt rfl ?_
      refine ⟨_, h.lda 3 1 rfl rfl, ?_⟩
      intro j
      by_cases h2 : n - 1 < 1
      · refine ctt (decide_eq_true h2) ?_
        have h := ((h.bring 3 rfl).bring 2 rfl).bring 1 rfl
        simp only [List.eraseIdx_cons_zero, List.eraseIdx_cons_succ] at h
        refine CallR.of (win_Close_live (Close_all s') h) ?_
        rintro _ w ⟨rfl, h⟩
        refine ⟨rfl, ?_⟩
        intro j
        refine ⟨_, h.lda 1 0 rfl rfl, _, h.lda 1 1 rfl rfl, _, h.lda 1 2 rfl rfl, _, _, _, h.lda 1 3 rfl rfl, _, _, _, h.lda 1 4 rfl rfl, _, _, _, h.lda 1 5 rfl rfl, ?_⟩
        refine St.at h 2 0 rfl rfl rfl (fun w h => ?_)
        refine St.at h 2 1 rfl rfl rfl (fun w h => ?_)
        refine St.at h 2 2 rfl rfl rfl (fun w h => ?_)
        refine St.at h 2 3 rfl rfl rfl (fun w h => ?_)
        refine St.at h 2 4 rfl rfl rfl (fun w h => ?_)
        refine St.at h 2 5 rfl rfl rfl (fun w h => ?_)
        simp only [List.set_cons_zero, List.set_cons_succ] at h
        refine ⟨_, h.lda 2 0 rfl rfl, _, h.lda 2 1 rfl rfl, _, h.lda 2 2 rfl rfl, _, _, _, h.lda 2 3 rfl rfl, _, _, _, h.lda 2 4 rfl rfl, _, _, _, h.lda 2 5 rfl rfl, ?_⟩
        obtain rfl : n = 1 := by omega
        exact Ret.mk ⟨r, G', hG, .inl ⟨x, [], .dead, by simp [SS.out, hx1], rfl, hx2, by simp [SS.out, hx1], Nat.zero_le _, Own.dead_mk h.skip.skip⟩⟩
      · refine cff (decide_eq_false h2) ?_
        intro j
        refine ⟨_, h.lda 0 0 rfl rfl, _, h.lda 0 1 rfl rfl, _, h.lda 0 2 rfl rfl, _, _, _, h.lda 0 3 rfl rfl, _, _, _, h.lda 0 4 rfl rfl, _, _, _, h.lda 0 5 rfl rfl, ?_⟩
        refine St.at h 2 0 rfl rfl rfl (fun w h => ?_)
        refine St.at h 2 1 rfl rfl rfl (fun w h => ?_)
        refine St.at h 2 2 rfl rfl rfl (fun w h => ?_)
        refine St.at h 2 3 rfl rfl rfl (fun w h => ?_)
        refine St.at h 2 4 rfl rfl rfl (fun w h => ?_)
        refine St.at h 2 5 rfl rfl rfl (fun w h => ?_)
        simp only [List.set_cons_zero, List.set_cons_succ] at h
        refine ⟨_, h.lda 2 0 rfl rfl, _, h.lda 2 1 rfl rfl, _, h.lda 2 2 rfl rfl, _, _, _, h.lda 2 3 rfl rfl, _, _, _, h.lda 2 4 rfl rfl, _, _, _, h.lda 2 5 rfl rfl, ?_⟩
        have h := ((h.bring 3 rfl).skip.bring 2 rfl).tail
        simp only [List.eraseIdx_cons_zero, List.eraseIdx_cons_succ] at h
        obtain ⟨k, hk⟩ : ∃ k, n.toNat = k + 1 := ⟨n.toNat - 1, by omega⟩
        have hk2 : (n - 1).toNat = k := by omega
        refine Ret.mk ⟨r, G', hG, .inl ⟨x, xs.take k, .lim (n - 1) s', by simp [SS.out, hx1, hk], rfl, hx2, ?_, Nat.succ_le_succ hrk, win_mk ho ⟨by omega, by omega⟩ h⟩⟩
        simp only [SS.out, hs', hk2, hk, hx1, List.length_cons, Nat.add_le_add_iff_right]
    · refine ⟨_, _, _, _, _, _, _, _, _, _, _, _, _, _, rfl, ?_⟩
      simp only [List.eraseIdx_cons_zero, List.eraseIdx_cons_succ] at h
      refine New.at h (fun b1 w h => ?_)
      refine St.at h 0 0 rfl rfl rfl (fun w h => ?_)
      refine St.at h 0 1 rfl rfl rfl (fun w h => ?_)
      refine St.at h 0 2 rfl rfl rfl (fun w h => ?_)
      refine St.at h 0 3 rfl rfl rfl (fun w h => ?_)
      refine St.at h 0 4 rfl rfl rfl (fun w h => ?_)
      refine St.at h 0 5 rfl rfl rfl (fun w h => ?_)
      simp only [List.set_cons_zero, List.set_cons_succ] at h
      refine Meet.dup ?_
      refine Meet.dup ?_
      refine cff rfl ?_
      intro j
      refine cff rfl ?_
      intro j
      refine ⟨_, h.lda 0 0 rfl rfl, _, h.lda 0 1 rfl rfl, _, h.lda 0 2 rfl rfl, _, _, _, h.lda 0 3 rfl rfl, _, _, _, h.lda 0 4 rfl rfl, _, _, _, h.lda 0 5 rfl rfl, ?_⟩
      refine St.at h 2 0 rfl rfl rfl (fun w h => ?_)
      refine St.at h 2 1 rfl rfl rfl (fun w h => ?_)
      refine St.at h 2 2 rfl rfl rfl (fun w h => ?_)
      refine St.at h 2 3 rfl rfl rfl (fun w h => ?_)
      refine St.at h 2 4 rfl rfl rfl (fun w h => ?_)
      refine St.at h 2 5 rfl rfl rfl (fun w h => ?_)
      simp only [List.set_cons_zero, List.set_cons_succ] at h
      refine ⟨_, h.lda 2 0 rfl rfl, _, h.lda 2 1 rfl rfl, _, h.lda 2 2 rfl rfl, _, _, _, h.lda 2 3 rfl rfl, _, _, _, h.lda 2 4 rfl rfl, _, _, _, h.lda 2 5 rfl rfl, ?_⟩
      have h := ((h.bring 3 rfl).skip.bring 2 rfl).tail
      simp only [List.eraseIdx_cons_zero, List.eraseIdx_cons_succ] at h
      have hk : ¬ n.toNat ≤ 0 := by omega
      refine Ret.mk ⟨r, G', hG, .inr ⟨by simp [SS.out, hx1], ?_, .inl ⟨s', n - 1, em, h⟩⟩⟩
      simp only [SS.out, hx1, List.length_nil, if_neg hk]

theorem rest_ok {s : SS} {n : Int} {b : Nat} {sv : Value} (hs : ∀ s', s'.rank ≤ s.rank → NextSpec s') (hn : in64 n) (ho : oneCell sv = true) (h : Holds G w (all (blk b t_window_window (wcells sv n em false f_Pwindow_window_rest) :: Own G s sv :: L))) :
    Calls pg f_Pwindow_window_rest #[ptr b] w (Ret (WPost G (.skp n s) b sv f_Pwindow_window_rest L)) := by
  apply of_Pwindow_window_rest
  unfold c_Pwindow_window_rest
  refine New.at h (fun b0 w h => ?_)
  refine Loop.inv (I := fun _ w => ∃ (k : Int) (s' : SS) (G1 : Gh), in64 k ∧ SS.out (.skp k s') = SS.out (.skp n s) ∧ s'.rank ≤ s.rank ∧ G ≤ G1 ∧ Holds G1 w (all (blk b0 t_api_Value zr.cells :: blk b t_window_window (wcells sv k em false f_Pwindow_window_rest) :: Own G1 s' sv :: L)))
    (fun _ w => match w.cell? ⟨b, 1, none⟩ with | some (.int _ k) => k.toNat | _ => 0) ?_ ⟨n, s, G, hn, rfl, Nat.le_refl _, Gh.refl G, h⟩
  clear h
  rintro X ⟨q, q2⟩ w ⟨k, s', G1, hk, hout, hrs, hG1, h⟩ hX
  intro j
  simp only [ws, add_mk]
  have hμ : w.cell? ⟨b, 1, none⟩ = some (.int .i64 k) := h.lda 1 1 rfl rfl
  refine ⟨_, h.lda 1 1 rfl rfl, ?_⟩
  by_cases h0 : k > 0
  · refine ctt (decide_eq_true h0) ?_
    refine ⟨_, h.lda 1 0 rfl rfl, ?_⟩
    refine hs s' hrs (h.bring 2 rfl) ?_
    rintro res w ⟨r, s2, G2, hG2, hrk, h, ⟨x, xs, hx1, rfl, hx2, hs'⟩ | ⟨hx1, rfl, hs'⟩⟩
    · refine ⟨_, _, _, _, _, _, _, _, _, _, _, _, _, _, rfl, ?_⟩
      simp only [List.eraseIdx_cons_zero, List.eraseIdx_cons_succ] at h
      refine New.at h (fun b1 w h => ?_)
      refine St.at h 0 0 rfl rfl rfl (fun w h => ?_)
      refine St.at h 0 1 rfl rfl rfl (fun w h => ?_)
      refine St.at h 0 2 rfl rfl rfl (fun w h => ?_)
      refine St.at h 0 3 rfl rfl rfl (fun w h => ?_)
      refine St.at h 0 4 rfl rfl rfl (fun w h => ?_)
      refine St.at h 0 5 rfl rfl rfl (fun w h => ?_)
      simp only [List.set_cons_zero, List.set_cons_succ] at h
      refine Meet.dup ?_
      refine cff rfl ?_
      intro j
      refine cff rfl ?_
      refine ⟨_, h.lda 3 1 rfl rfl, ?_⟩
      have hk2 : in64 (k - 1) := ⟨by have := hk.1; omega, by have := hk.2; omega⟩
      rw [wrap64_id hk2]
      refine St.at h 3 1 rfl rfl rfl (fun w h => ?_)
      simp only [List.set_cons_zero, List.set_cons_succ] at h
      have h := (h.tail.bring 2 rfl).bring 2 rfl
      simp only [List.eraseIdx_cons_zero, List.eraseIdx_cons_succ] at h
      refine hX _ _ ⟨k - 1, s2, G2, hk2, ?_, Nat.le_trans hrk hrs, Gh.trans hG1 hG2, h⟩ ?_
      · rw [← hout]
        simp only [SS.out, hs', hx1]
        obtain ⟨m, hm⟩ : ∃ m, k.toNat = m + 1 := ⟨k.toNat - 1, by omega⟩
        have hm2 : (k - 1).toNat = m := by omega
        rw [hm, hm2]
        rfl
      · have hμ' : w.cell? ⟨b, 1, none⟩ = some (.int .i64 (k - 1)) := h.lda 1 1 rfl rfl
        rw [hμ, hμ']
        simp only
        omega
    · refine ⟨_, _, _, _, _, _, _, _, _, _, _, _, _, _, rfl, ?_⟩
      simp only [List.eraseIdx_cons_zero, List.eraseIdx_cons_succ] at h
      refine New.at h (fun b1 w h => ?_)
      refine St.at h 0 0 rfl rfl rfl (fun w h => ?_)
      refine St.at h 0 1 rfl rfl rfl (fun w h => ?_)
      refine St.at h 0 2 rfl rfl rfl (fun w h => ?_)
      refine St.at h 0 3 rfl rfl rfl (fun w h => ?_)
      refine St.at h 0 4 rfl rfl rfl (fun w h => ?_)
      refine St.at h 0 5 rfl rfl rfl (fun w h => ?_)
      simp only [List.set_cons_zero, List.set_cons_succ] at h
      refine Meet.mk (fun bb w => bb = true ∧ Holds G2 w (all (blk b1 t_api_Value r.cells :: Own G2 s2 sv :: blk b0 t_api_Value zr.cells :: blk b t_window_window (wcells sv k em false f_Pwindow_window_rest) :: L))) ?_ ?_
      · refine cif (fun _ => ?_) (fun _ => ?_)
        · exact ⟨rfl, h⟩
        · exact ⟨rfl, h⟩
      rintro bb w ⟨rfl, h⟩ j
      refine ctt rfl ?_
      refine St.at h 2 0 rfl rfl rfl (fun w h => ?_)
      refine St.at h 2 1 rfl rfl rfl (fun w h => ?_)
      refine St.at h 2 2 rfl rfl rfl (fun w h => ?_)
      refine St.at h 2 3 rfl rfl rfl (fun w h => ?_)
      refine St.at h 2 4 rfl rfl rfl (fun w h => ?_)
      refine St.at h 2 5 rfl rfl rfl (fun w h => ?_)
      simp only [List.set_cons_zero, List.set_cons_succ] at h
      refine ⟨_, h.lda 2 0 rfl rfl, _, h.lda 2 1 rfl rfl, _, h.lda 2 2 rfl rfl, _, _, _, h.lda 2 3 rfl rfl, _, _, _, h.lda 2 4 rfl rfl, _, _, _, h.lda 2 5 rfl rfl, ?_⟩
      have h := ((h.bring 3 rfl).skip.bring 2 rfl).tail
      simp only [List.eraseIdx_cons_zero, List.eraseIdx_cons_succ] at h
      refine Ret.mk ⟨zr, G2, Gh.trans hG1 hG2, .inr ⟨?_, ?_, .inl ⟨s2, k, em, h⟩⟩⟩
      · rw [← hout]
        simp [SS.out, hx1]
      · rw [← hout]
        rfl
  · refine cff (decide_eq_false h0) ?_
    refine ⟨_, h.lda 1 0 rfl rfl, ?_⟩
    have hk0 : k.toNat = 0 := by omega
    refine hs s' hrs (h.bring 2 rfl) ?_
    rintro res w ⟨r, s2, G2, hG2, hrk, h, ⟨x, xs, hx1, rfl, hx2, hs'⟩ | ⟨hx1, rfl, hs'⟩⟩
    · refine ⟨_, _, _, _, _, _, _, _, _, _, _, _, _, _, rfl, ?_⟩
      simp only [List.eraseIdx_cons_zero, List.eraseIdx_cons_succ] at h
      refine St.at h 1 0 rfl rfl rfl (fun w h => ?_)
      refine St.at h 1 1 rfl rfl rfl (fun w h => ?_)
      refine St.at h 1 2 rfl rfl rfl (fun w h => ?_)
      refine St.at h 1 3 rfl rfl rfl (fun w h => ?_)
      refine St.at h 1 4 rfl rfl rfl (fun w h => ?_)
      refine St.at h 1 5 rfl rfl rfl (fun w h => ?_)
      simp only [List.set_cons_zero, List.set_cons_succ] at h
      refine ⟨_, h.lda 1 0 rfl rfl, _, h.lda 1 1 rfl rfl, _, h.lda 1 2 rfl rfl, _, _, _, h.lda 1 3 rfl rfl, _, _, _, h.lda 1 4 rfl rfl, _, _, _, h.lda 1 5 rfl rfl, ?_⟩
      have h := ((h.bring 2 rfl).bring 2 rfl).tail.bring 1 rfl
      simp only [List.eraseIdx_cons_zero, List.eraseIdx_cons_succ] at h
      have h := h.bring 1 rfl
      simp only [List.eraseIdx_cons_zero, List.eraseIdx_cons_succ] at h
      refine Ret.mk ⟨r, G2, Gh.trans hG1 hG2, .inl ⟨x, xs, .skp k s2, ?_, rfl, hx2, ?_, Nat.succ_le_succ (Nat.le_trans hrk hrs), win_mk ho hk h⟩⟩
      · rw [← hout]
        simp [SS.out, hx1, hk0]
      · rw [← hout]
        simp [SS.out, hx1, hk0, hs']
    · refine ⟨_, _, _, _, _, _, _, _, _, _, _, _, _, _, rfl, ?_⟩
      simp only [List.eraseIdx_cons_zero, List.eraseIdx_cons_succ] at h
      refine St.at h 1 0 rfl rfl rfl (fun w h => ?_)
      refine St.at h 1 1 rfl rfl rfl (fun w h => ?_)
      refine St.at h 1 2 rfl rfl rfl (fun w h => ?_)
      refine St.at h 1 3 rfl rfl rfl (fun w h => ?_)
      refine St.at h 1 4 rfl rfl rfl (fun w h => ?_)
      refine St.at h 1 5 rfl rfl rfl (fun w h => ?_)
      simp only [List.set_cons_zero, List.set_cons_succ] at h
      refine ⟨_, h.lda 1 0 rfl rfl, _, h.lda 1 1 rfl rfl, _, h.lda 1 2 rfl rfl, _, _, _, h.lda 1 3 rfl rfl, _, _, _, h.lda 1 4 rfl rfl, _, _, _, h.lda 1 5 rfl rfl, ?_⟩
      have h := (h.bring 2 rfl).bring 2 rfl
      simp only [List.eraseIdx_cons_zero, List.eraseIdx_cons_succ] at h
      have h := h.tail
      refine Ret.mk ⟨r, G2, Gh.trans hG1 hG2, .inr ⟨?_, ?_, .inl ⟨s2, k, em, h⟩⟩⟩
      · rw [← hout]
        simp [SS.out, hx1]
      · rw [← hout]
        rfl

theorem num_Of_small (n : Int) (h0 : 0 ≤ n) (h1 : n < 2147483648) (h : Holds G w (all L)) :
    Calls pg f_num_Of #[.int .i64 n] w (Ret fun v w' => v = (⟨3, n, em, none, 0, 0, none, 0, 0, none, 0, 0⟩ : Vr).val ∧ Holds G w' (all L)) := by
  apply of_num_Of
  unfold c_num_Of
  refine New.at h (fun b0 w h => ?_)
  have e1 : IntKind.i32.wrap n = n := by
    unfold IntKind.wrap
    simp only [IntKind.signed, IntKind.bits, Bool.true_and]
    simp only [Int.reducePow, Nat.reduceSub]
    split
    · next h =>
      have h := of_decide_eq_true h
      omega
    · next h =>
      have h : ¬ _ := fun hp => h (decide_eq_true hp)
      omega
  rw [e1, wrap64_id ⟨by omega, by omega⟩]
  refine ctt (by simp) ?_
  refine St.at h 0 0 rfl rfl rfl (fun w h => ?_)
  refine St.at h 0 1 rfl rfl rfl (fun w h => ?_)
  refine St.at h 0 2 rfl rfl rfl (fun w h => ?_)
  refine St.at h 0 3 rfl rfl rfl (fun w h => ?_)
  refine St.at h 0 4 rfl rfl rfl (fun w h => ?_)
  refine St.at h 0 5 rfl rfl rfl (fun w h => ?_)
  simp only [List.set_cons_zero, List.set_cons_succ] at h
  refine ⟨_, h.lda 0 0 rfl rfl, _, h.lda 0 1 rfl rfl, _, h.lda 0 2 rfl rfl, _, _, _, h.lda 0 3 rfl rfl, _, _, _, h.lda 0 4 rfl rfl, _, _, _, h.lda 0 5 rfl rfl, ?_⟩
  exact Ret.mk ⟨rfl, h.tail⟩

theorem all_ok {s : SS} {m : Int} {nm : ByteArray} {b : Nat} {sv : Value} (hs : ∀ s', s'.rank ≤ s.rank → NextSpec s') (hm0 : 0 ≤ m) (hm1 : m + s.out.1.length ≤ 1000000) (hnm : nm.size ≤ big) (ho : oneCell sv = true)
    (h : Holds G w (all (blk b t_window_window (wcells sv m nm false f_Pwindow_window_all) :: Own G s sv :: L))) :
    Calls pg f_Pwindow_window_all #[ptr b] w (Ret (WPost G (.cnt nm m s) b sv f_Pwindow_window_all L)) := by
  apply of_Pwindow_window_all
  unfold c_Pwindow_window_all
  refine New.at h (fun b0 w h => ?_)
  refine Loop.inv (I := fun _ w => ∃ (k : Int) (s' : SS) (G1 : Gh), 0 ≤ k ∧ k + s'.out.1.length = m + s.out.1.length ∧ s'.out.2 = s.out.2 ∧ s'.rank ≤ s.rank ∧ G ≤ G1 ∧ Holds G1 w (all (blk b0 t_api_Value zr.cells :: blk b t_window_window (wcells sv k nm false f_Pwindow_window_all) :: Own G1 s' sv :: L)))
    (fun _ w => match w.cell? ⟨b, 1, none⟩ with | some (.int _ k) => (1000000 - k).toNat | _ => 0) ?_ ⟨m, s, G, hm0, rfl, rfl, Nat.le_refl _, Gh.refl G, h⟩
  clear h
  rintro X ⟨q, q2⟩ w ⟨k, s', G1, hk0, hk1, he, hrs, hG1, h⟩ hX
  intro j
  simp only [ws, add_mk]
  have hμ : w.cell? ⟨b, 1, none⟩ = some (.int .i64 k) := h.lda 1 1 rfl rfl
  refine ⟨_, h.lda 1 0 rfl rfl, ?_⟩
  refine hs s' hrs (h.bring 2 rfl) ?_
  rintro res w ⟨r, s2, G2, hG2, hrk, h, ⟨x, xs, hx1, rfl, hx2, hs'⟩ | ⟨hx1, rfl, hs'⟩⟩
  · refine ⟨_, _, _, _, _, _, _, _, _, _, _, _, _, _, rfl, ?_⟩
    simp only [List.eraseIdx_cons_zero, List.eraseIdx_cons_succ] at h
    have hl : s'.out.1.length = xs.length + 1 := by rw [hx1]; rfl
    refine New.at h (fun b1 w h => ?_)
    refine St.at h 0 0 rfl rfl rfl (fun w h => ?_)
    refine St.at h 0 1 rfl rfl rfl (fun w h => ?_)
    refine St.at h 0 2 rfl rfl rfl (fun w h => ?_)
    refine St.at h 0 3 rfl rfl rfl (fun w h => ?_)
    refine St.at h 0 4 rfl rfl rfl (fun w h => ?_)
    refine St.at h 0 5 rfl rfl rfl (fun w h => ?_)
    simp only [List.set_cons_zero, List.set_cons_succ] at h
    refine cff rfl ?_
    refine cff rfl ?_
    refine ⟨_, h.lda 3 1 rfl rfl, ?_⟩
    rw [wrap64_id (x := k + 1) ⟨by omega, by omega⟩]
    refine St.at h 3 1 rfl rfl rfl (fun w h => ?_)
    simp only [List.set_cons_zero, List.set_cons_succ] at h
    have h := (h.tail.bring 2 rfl).bring 2 rfl
    simp only [List.eraseIdx_cons_zero, List.eraseIdx_cons_succ] at h
    refine hX _ _ ⟨k + 1, s2, G2, by omega, ?_, ?_, Nat.le_trans hrk hrs, Gh.trans hG1 hG2, h⟩ ?_
    · rw [hs']
      simp only
      omega
    · rw [hs']
      exact he
    · have hμ' : w.cell? ⟨b, 1, none⟩ = some (.int .i64 (k + 1)) := h.lda 1 1 rfl rfl
      rw [hμ, hμ']
      simp only
      omega
  · refine ⟨_, _, _, _, _, _, _, _, _, _, _, _, _, _, rfl, ?_⟩
    simp only [List.eraseIdx_cons_zero, List.eraseIdx_cons_succ] at h
    have hl : s'.out.1.length = 0 := by rw [hx1]; rfl
    rw [he]
    refine New.at h (fun b1 w h => ?_)
    refine St.at h 0 0 rfl rfl rfl (fun w h => ?_)
    refine St.at h 0 1 rfl rfl rfl (fun w h => ?_)
    refine St.at h 0 2 rfl rfl rfl (fun w h => ?_)
    refine St.at h 0 3 rfl rfl rfl (fun w h => ?_)
    refine St.at h 0 4 rfl rfl rfl (fun w h => ?_)
    refine St.at h 0 5 rfl rfl rfl (fun w h => ?_)
    simp only [List.set_cons_zero, List.set_cons_succ] at h
    by_cases he0 : s.out.2 = 0
    · have hkm : k = m + s.out.1.length := by omega
      refine cff (by simp [he0]) ?_
      refine ctt rfl ?_
      have h := ((h.bring 3 rfl).bring 2 rfl).bring 1 rfl
      simp only [List.eraseIdx_cons_zero, List.eraseIdx_cons_succ] at h
      refine CallR.of (win_Close_live (Close_all s2) h) ?_
      rintro _ w ⟨rfl, h⟩
      refine ⟨rfl, ?_⟩
      refine Drew.of h (fun w h => ?_)
      refine ⟨_, h.lda 0 2 rfl rfl, ?_⟩
      refine ⟨_, h.lda 0 1 rfl rfl, ?_⟩
      refine CallR.of (num_Of_small k (by omega) (by omega) h) ?_
      rintro _ w ⟨rfl, h⟩
      refine ⟨_, _, _, _, _, _, _, _, _, _, _, _, rfl, ?_⟩
      refine ⟨h.lda 0 2 rfl rfl, ?_⟩
      refine New.at h (fun b2 w h => ?_)
      refine Drew.of h (fun w h => ?_)
      refine ⟨_, h.lda 1 1 rfl rfl, ?_⟩
      refine St.at h 3 0 rfl rfl rfl (fun w h => ?_)
      refine St.at h 3 1 rfl rfl rfl (fun w h => ?_)
      refine St.at h 3 2 rfl rfl rfl (fun w h => ?_)
      refine St.at h 3 3 rfl rfl rfl (fun w h => ?_)
      refine St.at h 3 4 rfl rfl rfl (fun w h => ?_)
      refine St.at h 3 5 rfl rfl rfl (fun w h => ?_)
      simp only [List.set_cons_zero, List.set_cons_succ] at h
      refine ⟨h.lda 1 1 rfl rfl, ?_⟩
      refine ⟨_, h.lda 3 0 rfl rfl, _, h.lda 3 1 rfl rfl, _, h.lda 3 2 rfl rfl, _, _, _, h.lda 3 3 rfl rfl, _, _, _, h.lda 3 4 rfl rfl, _, _, _, h.lda 3 5 rfl rfl, ?_⟩
      by_cases hk2 : 0 < k
      · obtain ⟨G3, hG3, hcell, h⟩ := Holds.blk_freeze h
        rw [decide_eq_true hk2]
        refine Ret.mk ⟨⟨6, 0, em, none, 0, 0, some ⟨b2, 0, none⟩, 1, 1, none, 0, 0⟩, G3, Gh.trans hG1 (Gh.trans hG2 hG3), .inl ⟨countDoc nm k, [], .dead, ?_, rfl, ?_, ?_, Nat.zero_le _, Own.dead_mk h.skip.skip⟩⟩
        · simp only [SS.out, if_pos he0]
          rw [if_pos (by omega), hkm]
        · refine ⟨rfl, rfl, rfl, Bs.nil, rfl, rfl, ?_, VsAt.nil, ⟨by omega, by omega⟩, ⟨by omega, by omega⟩, by decide, by decide, (show 1 ≤ big by decide), by decide⟩
          intro i t hi
          cases i with
          | succ i => simp at hi
          | zero =>
            simp only [List.getElem?_cons_zero, Option.some.injEq] at hi
            subst hi
            refine ⟨b2, 0, _, rfl, ⟨⟨3, k, em, none, 0, 0, none, 0, 0, none, 0, 0⟩, rfl, hnm, ?_⟩, rfl, fun j v hj => ?_⟩
            · exact ⟨rfl, rfl, rfl, Bs.nil, rfl, rfl, VsAt.nil, VsAt.nil, ⟨by omega, by omega⟩, ⟨by omega, by omega⟩, by decide, by decide, by decide, by decide⟩
            · have := hcell j
              rw [Nat.zero_mul, Nat.add_zero, Nat.zero_add]
              rw [this]
              exact hj
        · simp only [SS.out, if_pos he0]
          rw [if_pos (by omega)]
      · rw [decide_eq_false hk2]
        refine Ret.mk ⟨⟨6, 0, em, none, 0, 0, some ⟨b2, 0, none⟩, 1, 1, none, 0, 0⟩, G2, Gh.trans hG1 hG2, .inr ⟨?_, ?_, .inr ⟨k, nm, h.tail.skip.skip⟩⟩⟩
        · simp only [SS.out, if_pos he0]
          rw [if_neg (by omega)]
        · simp only [SS.out, if_pos he0]
          rw [if_neg (by omega)]
    · refine ctt (b2_ne he0) ?_
      refine St.at h 2 0 rfl rfl rfl (fun w h => ?_)
      refine St.at h 2 1 rfl rfl rfl (fun w h => ?_)
      refine St.at h 2 2 rfl rfl rfl (fun w h => ?_)
      refine St.at h 2 3 rfl rfl rfl (fun w h => ?_)
      refine St.at h 2 4 rfl rfl rfl (fun w h => ?_)
      refine St.at h 2 5 rfl rfl rfl (fun w h => ?_)
      simp only [List.set_cons_zero, List.set_cons_succ] at h
      refine ⟨_, h.lda 2 0 rfl rfl, _, h.lda 2 1 rfl rfl, _, h.lda 2 2 rfl rfl, _, _, _, h.lda 2 3 rfl rfl, _, _, _, h.lda 2 4 rfl rfl, _, _, _, h.lda 2 5 rfl rfl, ?_⟩
      have h := ((h.bring 3 rfl).skip.bring 2 rfl).tail
      simp only [List.eraseIdx_cons_zero, List.eraseIdx_cons_succ] at h
      refine Ret.mk ⟨zr, G2, Gh.trans hG1 hG2, .inr ⟨?_, ?_, .inl ⟨s2, k, nm, h⟩⟩⟩
      · simp only [SS.out, if_neg he0]
      · simp only [SS.out, if_neg he0]

theorem win_next {st s : SS} {v : Value} {fn : Nat} {n : Int} {nm : ByteArray} {p : Prop} {Kp : List PanicEntry → World → Prop} {K : Value → World → Prop} (hb : bl fn = false)
    (hf : ∀ {b : Nat} {sv : Value} {w : World} {L : List HP}, oneCell sv = true → p → Holds G w (all (blk b t_window_window (wcells sv n nm false fn) :: Own G s sv :: L)) → Calls pg fn #[ptr b] w (Ret (WPost G st b sv fn L)))
    (h : Holds G w (all (winHP v fn n nm p (Own G s) :: L))) (hK : ∀ res w', NextPost G st v L res w' → K res w') : CallI pg v "Next" [] w Kp K := by
  obtain ⟨b, sv, rfl, ho, hp, h⟩ := win_open h
  refine CallI.of (args := [ptr b]) (call_win_Next _ b) (CallR.of (win_Next hb (fun h => hf ho hp h) h) ?_)
  exact fun res w' hr => hK res w' hr

theorem dead_next {v : Value} {Kp : List PanicEntry → World → Prop} {K : Value → World → Prop} (h : Holds G w (all (Own G .dead v :: L))) (hK : ∀ res w', NextPost G .dead v L res w' → K res w') : CallI pg v "Next" [] w Kp K := by
  obtain ⟨b, sv, n, nm, fn, e1, h2⟩ := Own.dead_open h
  subst e1
  refine CallI.of (args := [ptr b]) (call_win_Next _ b) (CallR.of (Q := NextPost G .dead (.iface t_Pwindow_window (ptr b)) L) ?_ (fun res w' hr => hK res w' hr))
  apply of_Pwindow_window_Next
  unfold c_Pwindow_window_Next
  refine New.at h2 (fun b0 w h => ?_)
  simp only [ws, add_mk]
  refine ⟨_, h.lda 1 3 rfl rfl, ctt rfl ?_⟩
  refine St.at h 0 0 rfl rfl rfl (fun w h => ?_)
  refine St.at h 0 1 rfl rfl rfl (fun w h => ?_)
  refine St.at h 0 2 rfl rfl rfl (fun w h => ?_)
  refine St.at h 0 3 rfl rfl rfl (fun w h => ?_)
  refine St.at h 0 4 rfl rfl rfl (fun w h => ?_)
  refine St.at h 0 5 rfl rfl rfl (fun w h => ?_)
  simp only [List.set_cons_zero, List.set_cons_succ] at h
  refine ⟨_, h.lda 0 0 rfl rfl, _, h.lda 0 1 rfl rfl, _, h.lda 0 2 rfl rfl, _, _, _, h.lda 0 3 rfl rfl, _, _, _, h.lda 0 4 rfl rfl, _, _, _, h.lda 0 5 rfl rfl, ?_⟩
  exact Ret.mk ⟨zr, .dead, G, Gh.refl G, Nat.le_refl _, Own.dead_mk h.tail, .inr ⟨rfl, rfl, rfl⟩⟩

theorem Next_rank : ∀ (k : Nat) (s : SS), s.rank ≤ k → NextSpec s
  | k, .row l e, _ => by
    intro h hK
    obtain ⟨b, a, n, c, rfl, hv, hc, h⟩ := Own.row_open h
    refine CallI.of (args := [ptr b]) (call_row_Next _ b) (CallR.of (row_Next hv hc h) ?_)
    exact fun res w' hr => hK res w' hr
  | 0, .lim n s, hk => absurd hk (by simp [SS.rank])
  | 0, .skp n s, hk => absurd hk (by simp [SS.rank])
  | 0, .cnt nm m s, hk => absurd hk (by simp [SS.rank])
  | k + 1, .lim n s, hk => by
    intro h hK
    exact win_next rfl (fun ho hp h => first_ok (Next_rank k s (by simp only [SS.rank] at hk; omega)) hp ho h) h hK
  | k + 1, .skp n s, hk => by
    intro h hK
    exact win_next rfl (fun ho hp h => rest_ok (fun s' hs' => Next_rank k s' (by simp only [SS.rank] at hk; omega)) hp ho h) h hK
  | k + 1, .cnt nm m s, hk => by
    intro h hK
    exact win_next rfl (fun ho hp h => all_ok (fun s' hs' => Next_rank k s' (by simp only [SS.rank] at hk; omega)) hp.1 hp.2.1 hp.2.2 ho h) h hK
  | k, .dead, _ => by
    intro h hK
    exact dead_next h hK

theorem Next_all (s : SS) : NextSpec s := Next_rank _ s (Nat.le_refl _)

end
end Go.Proofs.Sw
