/- Sources: rows, windows; what they bring. -/
import Derived.Test.YtpbmnjmagdacbaaWa
import Derived.Test.YtpbmnjmagdacbaaWs
set_option linter.unusedVariables false
set_option linter.unusedSimpArgs false
set_option maxRecDepth 100000
set_option maxHeartbeats 8000000
namespace Go.Proofs.Sw
open Go Go.Eng Go.Eng.HP Go.RowKit Go.Proofs

abbrev ptr (s : Nat) : Value := .pointer (some ⟨s, 0, none⟩)

theorem call_row_Next (w : World) (s : Nat) : (callMethod (.iface t_Psource_row (ptr s)) "Next" #[]).run pg w = .ok (.enter f_Psource_row_Next #[ptr s]) w := by kernel_rfl
theorem call_row_Close (w : World) (s : Nat) : (callMethod (.iface t_Psource_row (ptr s)) "Close" #[]).run pg w = .ok (.enter f_Psource_row_Close #[ptr s]) w := by kernel_rfl
theorem call_win_Next (w : World) (s : Nat) : (callMethod (.iface t_Pwindow_window (ptr s)) "Next" #[]).run pg w = .ok (.enter f_Pwindow_window_Next #[ptr s]) w := by kernel_rfl
theorem call_win_Close (w : World) (s : Nat) : (callMethod (.iface t_Pwindow_window (ptr s)) "Close" #[]).run pg w = .ok (.enter f_Pwindow_window_Close #[ptr s]) w := by kernel_rfl

theorem CallI.of {v : Value} {name : String} {f : FuncId} {args : List Value} {w : World} {Kp : List PanicEntry → World → Prop} {K : Value → World → Prop}
    (h : (callMethod v name #[]).run pg w = .ok (.enter f args.toArray) w) (hk : CallR pg f args w Kp K) : CallI pg v name [] w Kp K := ⟨f, args, w, h, hk⟩

end Go.Proofs.Sw
namespace Go.Proofs.Sw
open Go Go.Eng Go.Eng.HP Go.RowKit Go.Proofs
attribute [local irreducible] St New Drew Prim PrimU CallR CallV CallI CallX Meet Eng.Loop withSome HP.blk HP.mp Calls Holds Ret

def DD : Nat := 100
abbrev em : ByteArray := ⟨#[]⟩

/-- The cells of a window. -/
abbrev wcells (sv : Value) (n : Int) (nm : ByteArray) (over : Bool) (fn : Nat) : List Value := [sv, .int .i64 n, .string nm, .bool over, .func (.func fn) #[] #[]]

/-- A window that is not over, and what is ahead of it. -/
def winHP (v : Value) (fn : Nat) (n : Int) (nm : ByteArray) (p : Prop) (A : Value → HP) : HP :=
  HP.ex fun (x : Nat × Value) => HP.star (HP.lift (v = .iface t_Pwindow_window (ptr x.1) ∧ oneCell x.2 = true ∧ p)) (HP.star (blk x.1 t_window_window (wcells x.2 n nm false fn)) (A x.2))

/-- What a source owns. -/
def Own (G : Gh) : SS → Value → HP
  | .row l e, v => HP.ex fun (x : Nat × Option Addr × Nat × Nat) => HP.star (HP.lift (v = .iface t_Psource_row (ptr x.1) ∧ Vs G DD l x.2.1 x.2.2.1 ∧ x.2.2.1 ≤ x.2.2.2)) (blk x.1 t_source_row [.slice x.2.1 x.2.2.1 x.2.2.2, .int .i64 e])
  | .lim n s, v => winHP v f_Pwindow_window_first n em (in64 n) (Own G s)
  | .skp n s, v => winHP v f_Pwindow_window_rest n em (in64 n) (Own G s)
  | .cnt nm m s, v => winHP v f_Pwindow_window_all m nm (0 ≤ m ∧ m + s.out.1.length ≤ 1000000 ∧ nm.size ≤ big) (Own G s)
  | .dead, v => HP.ex fun (x : Nat × Value × Int × ByteArray × Nat) => HP.star (HP.lift (v = .iface t_Pwindow_window (ptr x.1))) (blk x.1 t_window_window (wcells x.2.1 x.2.2.1 x.2.2.2.1 true x.2.2.2.2))

section
variable {G G0 : Gh} {w : World} {L : List HP}

theorem Own.row_open {l : List VT} {e : Int} {v : Value} (h : Holds G w (all (Own G0 (.row l e) v :: L))) :
    ∃ b a n c, v = .iface t_Psource_row (ptr b) ∧ Vs G0 DD l a n ∧ n ≤ c ∧ Holds G w (all (blk b t_source_row [.slice a n c, .int .i64 e] :: L)) := by
  obtain ⟨⟨b, a, n, c⟩, h⟩ := Holds.ex_iff.1 h
  rw [star_assoc] at h
  obtain ⟨⟨h1, h2, h3⟩, h⟩ := Holds.lift_iff.1 h
  exact ⟨b, a, n, c, h1, h2, h3, h⟩

theorem Own.row_mk {l : List VT} {e : Int} {b : Nat} {a : Option Addr} {n c : Nat} (hv : Vs G0 DD l a n) (hc : n ≤ c) (h : Holds G w (all (blk b t_source_row [.slice a n c, .int .i64 e] :: L))) : Holds G w (all (Own G0 (.row l e) (.iface t_Psource_row (ptr b)) :: L)) := by
  refine Holds.ex_iff.2 ⟨⟨b, a, n, c⟩, ?_⟩
  rw [star_assoc]
  exact Holds.lift_iff.2 ⟨⟨rfl, hv, hc⟩, h⟩

theorem win_open {v : Value} {fn : Nat} {n : Int} {nm : ByteArray} {p : Prop} {A : Value → HP} (h : Holds G w (all (winHP v fn n nm p A :: L))) :
    ∃ b sv, v = .iface t_Pwindow_window (ptr b) ∧ oneCell sv = true ∧ p ∧ Holds G w (all (blk b t_window_window (wcells sv n nm false fn) :: A sv :: L)) := by
  obtain ⟨⟨b, sv⟩, h⟩ := Holds.ex_iff.1 h
  rw [star_assoc] at h
  obtain ⟨⟨h1, h2, h3⟩, h⟩ := Holds.lift_iff.1 h
  rw [star_assoc] at h
  exact ⟨b, sv, h1, h2, h3, h⟩

theorem win_mk {fn : Nat} {n : Int} {nm : ByteArray} {p : Prop} {A : Value → HP} {b : Nat} {sv : Value} (ho : oneCell sv = true) (hp : p) (h : Holds G w (all (blk b t_window_window (wcells sv n nm false fn) :: A sv :: L))) :
    Holds G w (all (winHP (.iface t_Pwindow_window (ptr b)) fn n nm p A :: L)) := by
  refine Holds.ex_iff.2 ⟨⟨b, sv⟩, ?_⟩
  rw [star_assoc]
  refine Holds.lift_iff.2 ⟨⟨rfl, ho, hp⟩, ?_⟩
  rw [star_assoc]
  exact h

theorem Own.dead_open {v : Value} (h : Holds G w (all (Own G0 .dead v :: L))) : ∃ b sv n nm fn, v = .iface t_Pwindow_window (ptr b) ∧ Holds G w (all (blk b t_window_window (wcells sv n nm true fn) :: L)) := by
  obtain ⟨⟨b, sv, n, nm, fn⟩, h⟩ := Holds.ex_iff.1 h
  rw [star_assoc] at h
  obtain ⟨h1, h⟩ := Holds.lift_iff.1 h
  exact ⟨b, sv, n, nm, fn, h1, h⟩

theorem Own.dead_mk {b : Nat} {sv : Value} {n : Int} {nm : ByteArray} {fn : Nat} (h : Holds G w (all (blk b t_window_window (wcells sv n nm true fn) :: L))) : Holds G w (all (Own G0 .dead (.iface t_Pwindow_window (ptr b)) :: L)) := by
  refine Holds.ex_iff.2 ⟨⟨b, sv, n, nm, fn⟩, ?_⟩
  rw [star_assoc]
  exact Holds.lift_iff.2 ⟨rfl, h⟩

theorem Holds.hmap {A B : HP} (h : Holds G w (all (A :: L))) (hab : ∀ p, A p → B p) : Holds G w (all (B :: L)) := h.mono fun p ⟨h1, h2, hd, he, a, b⟩ => ⟨h1, h2, hd, he, hab _ a, b⟩

theorem Own.mono {G1 : Gh} (hG : G ≤ G1) : ∀ (s : SS) (v : Value) (p : PH), Own G s v p → Own G1 s v p
  | .row l e, v, p, ⟨x, h1, h2, hd, he, ⟨⟨q1, q2, q3⟩, q4⟩, b⟩ => ⟨x, h1, h2, hd, he, ⟨⟨q1, q2.mono hG (Nat.le_refl _), q3⟩, q4⟩, b⟩
  | .lim n s, v, p, ⟨x, h1, h2, hd, he, a, ⟨h3, h4, hd', he', b, c⟩⟩ => ⟨x, h1, h2, hd, he, a, ⟨h3, h4, hd', he', b, Own.mono hG s _ _ c⟩⟩
  | .skp n s, v, p, ⟨x, h1, h2, hd, he, a, ⟨h3, h4, hd', he', b, c⟩⟩ => ⟨x, h1, h2, hd, he, a, ⟨h3, h4, hd', he', b, Own.mono hG s _ _ c⟩⟩
  | .cnt nm m s, v, p, ⟨x, h1, h2, hd, he, a, ⟨h3, h4, hd', he', b, c⟩⟩ => ⟨x, h1, h2, hd, he, a, ⟨h3, h4, hd', he', b, Own.mono hG s _ _ c⟩⟩
  | .dead, v, p, h => h

/-- Closed: it brings nothing more. -/
def CloseSpec (s : SS) : Prop := ∀ {G G0 : Gh} {w : World} {L : List HP} {v : Value} {Kp : List PanicEntry → World → Prop} {K : Value → World → Prop}, Holds G w (all (Own G0 s v :: L)) →
  (∀ s' w', s'.out = ([], 0) → Holds G w' (all (Own G0 s' v :: L)) → K (.tuple #[]) w') → CallI pg v "Close" [] w Kp K

theorem row_Close {b : Nat} {a : Option Addr} {n c : Nat} {e : Int} (h : Holds G w (all (blk b t_source_row [.slice a n c, .int .i64 e] :: L))) :
    Calls pg f_Psource_row_Close #[ptr b] w (Ret fun v w' => v = .tuple #[] ∧ Holds G w' (all (blk b t_source_row [.slice none 0 0, .int .i64 0] :: L))) := by
  apply of_Psource_row_Close
  unfold c_Psource_row_Close
  simp only [ws, add_mk]
  refine St.at h 0 0 rfl rfl rfl (fun w h => ?_)
  refine St.at h 0 1 rfl rfl rfl (fun w h => ?_)
  exact Ret.mk ⟨rfl, h⟩

theorem Vs.nil : Vs G0 DD [] none 0 := ⟨rfl, Nat.zero_le _, VsAt.nil⟩

theorem win_Close_live {b : Nat} {sv : Value} {n : Int} {nm : ByteArray} {fn : Nat} {s : SS} (hs : CloseSpec s) (h : Holds G w (all (blk b t_window_window (wcells sv n nm false fn) :: Own G0 s sv :: L))) :
    Calls pg f_Pwindow_window_Close #[ptr b] w (Ret fun v w' => v = .tuple #[] ∧ Holds G w' (all (blk b t_window_window (wcells sv n nm true fn) :: L))) := by
  apply of_Pwindow_window_Close
  unfold c_Pwindow_window_Close
  simp only [ws, add_mk]
  refine ⟨_, h.lda 0 3 rfl rfl, cff rfl ?_⟩
  refine St.at h 0 3 rfl rfl rfl (fun w h => ?_)
  simp only [List.set_cons_zero, List.set_cons_succ] at h
  refine ⟨_, h.lda 0 0 rfl rfl, ?_⟩
  refine hs (h.bring 1 rfl) (fun s' w _ h => ?_)
  exact ⟨rfl, Ret.mk ⟨rfl, h.tail⟩⟩

theorem win_Close_over {b : Nat} {sv : Value} {n : Int} {nm : ByteArray} {fn : Nat} (h : Holds G w (all (blk b t_window_window (wcells sv n nm true fn) :: L))) :
    Calls pg f_Pwindow_window_Close #[ptr b] w (Ret fun v w' => v = .tuple #[] ∧ Holds G w' (all (blk b t_window_window (wcells sv n nm true fn) :: L))) := by
  apply of_Pwindow_window_Close
  unfold c_Pwindow_window_Close
  simp only [ws, add_mk]
  refine ⟨_, h.lda 0 3 rfl rfl, ctt rfl ?_⟩
  exact Ret.mk ⟨rfl, h⟩

theorem win_close {s : SS} (hs : CloseSpec s) {v : Value} {fn : Nat} {n : Int} {nm : ByteArray} {p : Prop} {Kp : List PanicEntry → World → Prop} {K : Value → World → Prop} (h : Holds G w (all (winHP v fn n nm p (Own G0 s) :: L)))
    (hK : ∀ s' w', s'.out = ([], 0) → Holds G w' (all (Own G0 s' v :: L)) → K (.tuple #[]) w') : CallI pg v "Close" [] w Kp K := by
  obtain ⟨b, sv, rfl, _, _, h⟩ := win_open h
  refine CallI.of (args := [ptr b]) (call_win_Close _ b) (CallR.of (win_Close_live hs h) ?_)
  rintro _ w ⟨rfl, h⟩
  exact hK .dead w rfl (Own.dead_mk h)

theorem Close_all : ∀ s, CloseSpec s
  | .row l e => by
    intro h hK
    obtain ⟨b, a, n, c, rfl, _, _, h⟩ := Own.row_open h
    refine CallI.of (args := [ptr b]) (call_row_Close _ b) (CallR.of (row_Close h) ?_)
    rintro _ w ⟨rfl, h⟩
    exact hK (.row [] 0) w rfl (Own.row_mk Vs.nil (Nat.le_refl _) h)
  | .lim n s => by
    intro h hK
    exact win_close (Close_all s) h hK
  | .skp n s => by
    intro h hK
    exact win_close (Close_all s) h hK
  | .cnt nm m s => by
    intro h hK
    exact win_close (Close_all s) h hK
  | .dead => by
    intro h hK
    obtain ⟨b, sv, n, nm, fn, e1, h2⟩ := Own.dead_open h
    subst e1
    refine CallI.of (args := [ptr b]) (call_win_Close _ b) (CallR.of (win_Close_over h2) ?_)
    rintro _ w ⟨rfl, h⟩
    exact hK .dead w rfl (Own.dead_mk h)

/-- What Next tells. -/
def NextPost (G : Gh) (s : SS) (v : Value) (L : List HP) (res : Value) (w : World) : Prop :=
  ∃ (r : Vr) (s' : SS) (G' : Gh), G ≤ G' ∧ s'.rank ≤ s.rank ∧ Holds G' w (all (Own G' s' v :: L)) ∧
    ((∃ x xs, s.out.1 = x :: xs ∧ res = .tuple #[r.val, .bool true, .int .i64 0] ∧ VC G' DD x r ∧ s'.out = (xs, s.out.2)) ∨ (s.out.1 = [] ∧ res = .tuple #[r.val, .bool false, .int .i64 s.out.2] ∧ s'.out = ([], 0)))

def NextSpec (s : SS) : Prop := ∀ {G : Gh} {w : World} {L : List HP} {v : Value} {Kp : List PanicEntry → World → Prop} {K : Value → World → Prop}, Holds G w (all (Own G s v :: L)) →
  (∀ res w', NextPost G s v L res w' → K res w') → CallI pg v "Next" [] w Kp K

abbrev zr : Vr := ⟨0, 0, em, none, 0, 0, none, 0, 0, none, 0, 0⟩

theorem row_Next {l : List VT} {e : Int} {b : Nat} {a : Option Addr} {n c : Nat} (hv : Vs G DD l a n) (hc : n ≤ c) (h : Holds G w (all (blk b t_source_row [.slice a n c, .int .i64 e] :: L))) :
    Calls pg f_Psource_row_Next #[ptr b] w (Ret (NextPost G (.row l e) (.iface t_Psource_row (ptr b)) L)) := by
  have hv0 := hv
  obtain ⟨rfl, hbig, hts⟩ := hv
  unfold big at hbig
  apply of_Psource_row_Next
  unfold c_Psource_row_Next
  refine New.at h (fun b0 w h => ?_)
  simp only [ws, add_mk]
  refine ⟨_, _, _, h.lda 1 0 rfl rfl, ?_⟩
  cases l with
  | nil =>
    refine ctt rfl ?_
    refine ⟨_, h.lda 1 1 rfl rfl, ?_⟩
    refine CallR.of (row_Close (h.bring 1 rfl)) ?_
    rintro _ w ⟨rfl, h⟩
    refine ⟨rfl, ?_⟩
    refine St.at h 1 0 rfl rfl rfl (fun w h => ?_)
    refine St.at h 1 1 rfl rfl rfl (fun w h => ?_)
    refine St.at h 1 2 rfl rfl rfl (fun w h => ?_)
    refine St.at h 1 3 rfl rfl rfl (fun w h => ?_)
    refine St.at h 1 4 rfl rfl rfl (fun w h => ?_)
    refine St.at h 1 5 rfl rfl rfl (fun w h => ?_)
    simp only [List.set_cons_zero, List.set_cons_succ] at h
    refine ⟨_, h.lda 1 0 rfl rfl, _, h.lda 1 1 rfl rfl, _, h.lda 1 2 rfl rfl, _, _, _, h.lda 1 3 rfl rfl, _, _, _, h.lda 1 4 rfl rfl, _, _, _, h.lda 1 5 rfl rfl, ?_⟩
    exact Ret.mk ⟨zr, .row [] 0, G, Gh.refl G, Nat.le_refl _, Own.row_mk Vs.nil (Nat.le_refl _) h.skip, .inr ⟨rfl, rfl, rfl⟩⟩
  | cons x xs =>
    refine cff (by simp; omega) ?_
    refine ⟨_, _, _, h.lda 1 0 rfl rfl, ?_⟩
    obtain ⟨fb, foff, cs, rfl, ⟨r', rfl, hr'⟩, hlen, hcc⟩ := hts 0 x rfl
    simp only [ws, add_mk]
    refine And.intro ⟨by omega, by simp <;> omega⟩ ?_
    refine ⟨_, h.rd (hcc 0 _ rfl), _, h.rd (hcc 1 _ rfl), _, h.rd (hcc 2 _ rfl), _, _, _, h.rd (hcc 3 _ rfl), _, _, _, h.rd (hcc 4 _ rfl), _, _, _, h.rd (hcc 5 _ rfl), ?_⟩
    refine New.at h (fun b1 w h => ?_)
    refine St.at h 0 0 rfl rfl rfl (fun w h => ?_)
    refine St.at h 0 1 rfl rfl rfl (fun w h => ?_)
    refine St.at h 0 2 rfl rfl rfl (fun w h => ?_)
    refine St.at h 0 3 rfl rfl rfl (fun w h => ?_)
    refine St.at h 0 4 rfl rfl rfl (fun w h => ?_)
    refine St.at h 0 5 rfl rfl rfl (fun w h => ?_)
    simp only [List.set_cons_zero, List.set_cons_succ] at h
    refine ⟨_, _, _, h.lda 2 0 rfl rfl, ?_⟩
    refine And.intro ⟨by omega, by simp <;> omega⟩ ?_
    refine St.at h 2 0 rfl rfl rfl (fun w h => ?_)
    simp only [List.set_cons_zero, List.set_cons_succ] at h
    refine ⟨_, h.lda 0 0 rfl rfl, _, h.lda 0 1 rfl rfl, _, h.lda 0 2 rfl rfl, _, _, _, h.lda 0 3 rfl rfl, _, _, _, h.lda 0 4 rfl rfl, _, _, _, h.lda 0 5 rfl rfl, ?_⟩
    refine St.at h 1 0 rfl rfl rfl (fun w h => ?_)
    refine St.at h 1 1 rfl rfl rfl (fun w h => ?_)
    refine St.at h 1 2 rfl rfl rfl (fun w h => ?_)
    refine St.at h 1 3 rfl rfl rfl (fun w h => ?_)
    refine St.at h 1 4 rfl rfl rfl (fun w h => ?_)
    refine St.at h 1 5 rfl rfl rfl (fun w h => ?_)
    simp only [List.set_cons_zero, List.set_cons_succ] at h
    refine ⟨_, h.lda 1 0 rfl rfl, _, h.lda 1 1 rfl rfl, _, h.lda 1 2 rfl rfl, _, _, _, h.lda 1 3 rfl rfl, _, _, _, h.lda 1 4 rfl rfl, _, _, _, h.lda 1 5 rfl rfl, ?_⟩
    have h := h.bring 2 rfl
    simp only [List.eraseIdx_cons_zero, List.eraseIdx_cons_succ] at h
    refine Ret.mk ⟨r', .row xs e, G, Gh.refl G, Nat.le_refl _, Own.row_mk ?_ ?_ h.skip.skip, .inl ⟨x, xs, rfl, rfl, hr', rfl⟩⟩
    · refine ⟨by simp, by simp at hbig; unfold big; omega, fun i t hi => ?_⟩
      obtain ⟨b', off', cs', e1, h1, h2, h3⟩ := hts (i + 1) t hi
      cases e1
      have hlt : i < xs.length := (List.getElem?_eq_some_iff.1 hi).1
      have hc1 : c ≠ (1 : Int).toNat := by
        simp at hc
        show c ≠ 1
        omega
      rw [if_neg hc1]
      refine ⟨fb, foff + 6, cs', ?_, h1, h2, fun j v hj => ?_⟩
      · simp only [Option.map_some, add_mk]
        rfl
      · have := h3 j v hj
        rw [Nat.add_mul] at this
        have e2 : foff + 6 + i * 6 + j = foff + (i * 6 + 1 * 6) + j := by omega
        rw [e2]
        exact this
    · simp at hc ⊢
      omega

end
end Go.Proofs.Sw
