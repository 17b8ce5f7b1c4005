/- set; Add and Value of lists. -/
import Derived.Test.YtnckkeefipaoeaaDoorAc7
set_option linter.unusedVariables false
set_option linter.unusedSimpArgs false
set_option maxRecDepth 100000
set_option maxHeartbeats 8000000
namespace Go.Proofs.Sd
open Go Go.Eng Go.Eng.HP Go.RowKit Go.Proofs
attribute [local irreducible] St New Drew Prim PrimU CallR CallV CallI CallX Meet Eng.Loop withSome HP.blk HP.mp Calls Holds Ret

section
variable {G : Gh} {w : World} {L : List HP}

theorem set_missing_0 (s : Nat) (f : Nat) (many : Int) (c : Nat) (h : Holds G w (all (stl s f many 5 none 0 c :: own t_api_Value 6 none 0 c [] :: L))) :
    Calls pg f_Paccum_State_set #[ptr s, vI 0 0] w (Ret fun v w' => v = .int .i64 0 ∧ Holds G w' (all (stl s f many 5 none 0 c :: own t_api_Value 6 none 0 c [] :: L))) := by
  apply of_Paccum_State_set
  unfold c_Paccum_State_set
  repeat' (first
    | (refine New.at h (fun b w hh => ?_); clear h; have h := hh; clear hh)
    | (refine Drew.of h (fun w hh => ?_); clear h; have h := hh; clear hh)
    | (refine St.at h 0 _ rfl rfl rfl (fun w hh => ?_); clear h; have h := hh; clear hh; simp only [List.set_cons_zero, List.set_cons_succ] at h)
    | (refine St.at h 1 _ rfl rfl rfl (fun w hh => ?_); clear h; have h := hh; clear hh; simp only [List.set_cons_zero, List.set_cons_succ] at h)
    | (refine St.at h 2 _ rfl rfl rfl (fun w hh => ?_); clear h; have h := hh; clear hh; simp only [List.set_cons_zero, List.set_cons_succ] at h)
    | refine ⟨_, h.lda 0 _ rfl rfl, ?_⟩
    | refine ⟨_, _, _, h.lda 0 _ rfl rfl, ?_⟩
    | refine ⟨h.lda 0 _ rfl rfl, ?_⟩
    | refine ⟨_, h.lda 1 _ rfl rfl, ?_⟩
    | refine ⟨_, _, _, h.lda 1 _ rfl rfl, ?_⟩
    | refine ⟨h.lda 1 _ rfl rfl, ?_⟩
    | refine ⟨_, h.lda 2 _ rfl rfl, ?_⟩
    | refine ⟨_, _, _, h.lda 2 _ rfl rfl, ?_⟩
    | refine ⟨h.lda 2 _ rfl rfl, ?_⟩
    | exact h.lda 0 _ rfl rfl
    | exact h.lda 1 _ rfl rfl
    | exact h.lda 2 _ rfl rfl
    | refine ⟨_, rfl, ?_⟩
    | refine ⟨_, _, rfl, ?_⟩
    | refine ⟨_, _, _, rfl, ?_⟩
    | refine ⟨_, _, _, _, _, _, _, _, _, _, _, _, rfl, ?_⟩
    | refine ⟨_, _, _, _, _, _, _, _, _, _, _, _, _, rfl, ?_⟩
    | refine ctt rfl ?_
    | refine cff rfl ?_
    | refine Meet.dup ?_
    | intro j
    | rw [ws]
    | simp only [ws, add_mk]
    | refine And.intro ?_ ?_)
  refine Loop.start (fun X hX => ?_)
  refine hX _ _ ?_
  dsimp only
  repeat' (first
    | (refine New.at h (fun b w hh => ?_); clear h; have h := hh; clear hh)
    | (refine Drew.of h (fun w hh => ?_); clear h; have h := hh; clear hh)
    | (refine St.at h 0 _ rfl rfl rfl (fun w hh => ?_); clear h; have h := hh; clear hh; simp only [List.set_cons_zero, List.set_cons_succ] at h)
    | (refine St.at h 1 _ rfl rfl rfl (fun w hh => ?_); clear h; have h := hh; clear hh; simp only [List.set_cons_zero, List.set_cons_succ] at h)
    | (refine St.at h 2 _ rfl rfl rfl (fun w hh => ?_); clear h; have h := hh; clear hh; simp only [List.set_cons_zero, List.set_cons_succ] at h)
    | (refine CallR.of (push_missing _ h) ?_; rintro _ w ⟨rfl, h⟩)
    | refine ⟨_, h.lda 0 _ rfl rfl, ?_⟩
    | refine ⟨_, _, _, h.lda 0 _ rfl rfl, ?_⟩
    | refine ⟨h.lda 0 _ rfl rfl, ?_⟩
    | refine ⟨_, h.lda 1 _ rfl rfl, ?_⟩
    | refine ⟨_, _, _, h.lda 1 _ rfl rfl, ?_⟩
    | refine ⟨h.lda 1 _ rfl rfl, ?_⟩
    | refine ⟨_, h.lda 2 _ rfl rfl, ?_⟩
    | refine ⟨_, _, _, h.lda 2 _ rfl rfl, ?_⟩
    | refine ⟨h.lda 2 _ rfl rfl, ?_⟩
    | exact h.lda 0 _ rfl rfl
    | exact h.lda 1 _ rfl rfl
    | exact h.lda 2 _ rfl rfl
    | refine ⟨_, rfl, ?_⟩
    | refine ⟨_, _, rfl, ?_⟩
    | refine ⟨_, _, _, rfl, ?_⟩
    | refine ⟨_, _, _, _, _, _, _, _, _, _, _, _, rfl, ?_⟩
    | refine ⟨_, _, _, _, _, _, _, _, _, _, _, _, _, rfl, ?_⟩
    | refine ctt rfl ?_
    | refine cff rfl ?_
    | refine Meet.dup ?_
    | intro j
    | rw [ws]
    | simp only [ws, add_mk]
    | refine And.intro ?_ ?_)
  exact Ret.mk ⟨rfl, h.tail⟩

theorem set_missing_2 (s : Nat) (f : Nat) (many : Int) (b off : Nat) (c : Nat) (h : Holds G w (all (stl s f many 19 (some ⟨b, off, none⟩) 2 c :: own t_api_Value 6 (some ⟨b, off, none⟩) 2 c [.int .i64 2, .int .i64 0, .string em, .slice none 0 0, .slice none 0 0, .slice none 0 0, .int .i64 4, .int .i64 3, .string em, .slice none 0 0, .slice none 0 0, .slice none 0 0] :: L))) :
    Calls pg f_Paccum_State_set #[ptr s, vI 0 0] w (Ret fun v w' => v = .int .i64 0 ∧ Holds G w' (all (stl s f many 19 (some ⟨b, off, none⟩) 2 c :: own t_api_Value 6 (some ⟨b, off, none⟩) 2 c [.int .i64 2, .int .i64 0, .string em, .slice none 0 0, .slice none 0 0, .slice none 0 0, .int .i64 4, .int .i64 3, .string em, .slice none 0 0, .slice none 0 0, .slice none 0 0] :: L))) := by
  apply of_Paccum_State_set
  unfold c_Paccum_State_set
  repeat' (first
    | (refine New.at h (fun b w hh => ?_); clear h; have h := hh; clear hh)
    | (refine Drew.of h (fun w hh => ?_); clear h; have h := hh; clear hh)
    | (refine St.at h 0 _ rfl rfl rfl (fun w hh => ?_); clear h; have h := hh; clear hh; simp only [List.set_cons_zero, List.set_cons_succ] at h)
    | (refine St.at h 1 _ rfl rfl rfl (fun w hh => ?_); clear h; have h := hh; clear hh; simp only [List.set_cons_zero, List.set_cons_succ] at h)
    | (refine St.at h 2 _ rfl rfl rfl (fun w hh => ?_); clear h; have h := hh; clear hh; simp only [List.set_cons_zero, List.set_cons_succ] at h)
    | refine ⟨_, h.lda 0 _ rfl rfl, ?_⟩
    | refine ⟨_, _, _, h.lda 0 _ rfl rfl, ?_⟩
    | refine ⟨h.lda 0 _ rfl rfl, ?_⟩
    | refine ⟨_, h.lda 1 _ rfl rfl, ?_⟩
    | refine ⟨_, _, _, h.lda 1 _ rfl rfl, ?_⟩
    | refine ⟨h.lda 1 _ rfl rfl, ?_⟩
    | refine ⟨_, h.lda 2 _ rfl rfl, ?_⟩
    | refine ⟨_, _, _, h.lda 2 _ rfl rfl, ?_⟩
    | refine ⟨h.lda 2 _ rfl rfl, ?_⟩
    | exact h.lda 0 _ rfl rfl
    | exact h.lda 1 _ rfl rfl
    | exact h.lda 2 _ rfl rfl
    | refine ⟨_, rfl, ?_⟩
    | refine ⟨_, _, rfl, ?_⟩
    | refine ⟨_, _, _, rfl, ?_⟩
    | refine ⟨_, _, _, _, _, _, _, _, _, _, _, _, rfl, ?_⟩
    | refine ⟨_, _, _, _, _, _, _, _, _, _, _, _, _, rfl, ?_⟩
    | refine ctt rfl ?_
    | refine cff rfl ?_
    | refine Meet.dup ?_
    | intro j
    | rw [ws]
    | simp only [ws, add_mk]
    | refine And.intro ?_ ?_)
  refine Loop.start (fun X hX => ?_)
  refine hX _ _ ?_
  dsimp only
  repeat' (first
    | (refine New.at h (fun b w hh => ?_); clear h; have h := hh; clear hh)
    | (refine Drew.of h (fun w hh => ?_); clear h; have h := hh; clear hh)
    | (refine St.at h 0 _ rfl rfl rfl (fun w hh => ?_); clear h; have h := hh; clear hh; simp only [List.set_cons_zero, List.set_cons_succ] at h)
    | (refine St.at h 1 _ rfl rfl rfl (fun w hh => ?_); clear h; have h := hh; clear hh; simp only [List.set_cons_zero, List.set_cons_succ] at h)
    | (refine St.at h 2 _ rfl rfl rfl (fun w hh => ?_); clear h; have h := hh; clear hh; simp only [List.set_cons_zero, List.set_cons_succ] at h)
    | refine ⟨_, h.own_rd 2 0 rfl rfl rfl, ?_⟩
    | refine ⟨_, _, _, h.own_rd 2 0 rfl rfl rfl, ?_⟩
    | exact h.own_rd 2 0 rfl rfl rfl
    | refine ⟨_, h.own_rd 2 1 rfl rfl rfl, ?_⟩
    | refine ⟨_, _, _, h.own_rd 2 1 rfl rfl rfl, ?_⟩
    | exact h.own_rd 2 1 rfl rfl rfl
    | refine ⟨_, h.own_rd 2 2 rfl rfl rfl, ?_⟩
    | refine ⟨_, _, _, h.own_rd 2 2 rfl rfl rfl, ?_⟩
    | exact h.own_rd 2 2 rfl rfl rfl
    | refine ⟨_, h.own_rd 2 3 rfl rfl rfl, ?_⟩
    | refine ⟨_, _, _, h.own_rd 2 3 rfl rfl rfl, ?_⟩
    | exact h.own_rd 2 3 rfl rfl rfl
    | refine ⟨_, h.own_rd 2 4 rfl rfl rfl, ?_⟩
    | refine ⟨_, _, _, h.own_rd 2 4 rfl rfl rfl, ?_⟩
    | exact h.own_rd 2 4 rfl rfl rfl
    | refine ⟨_, h.own_rd 2 5 rfl rfl rfl, ?_⟩
    | refine ⟨_, _, _, h.own_rd 2 5 rfl rfl rfl, ?_⟩
    | exact h.own_rd 2 5 rfl rfl rfl
    | refine ⟨_, h.own_rd 2 6 rfl rfl rfl, ?_⟩
    | refine ⟨_, _, _, h.own_rd 2 6 rfl rfl rfl, ?_⟩
    | exact h.own_rd 2 6 rfl rfl rfl
    | refine ⟨_, h.own_rd 2 7 rfl rfl rfl, ?_⟩
    | refine ⟨_, _, _, h.own_rd 2 7 rfl rfl rfl, ?_⟩
    | exact h.own_rd 2 7 rfl rfl rfl
    | refine ⟨_, h.own_rd 2 8 rfl rfl rfl, ?_⟩
    | refine ⟨_, _, _, h.own_rd 2 8 rfl rfl rfl, ?_⟩
    | exact h.own_rd 2 8 rfl rfl rfl
    | refine ⟨_, h.own_rd 2 9 rfl rfl rfl, ?_⟩
    | refine ⟨_, _, _, h.own_rd 2 9 rfl rfl rfl, ?_⟩
    | exact h.own_rd 2 9 rfl rfl rfl
    | refine ⟨_, h.own_rd 2 10 rfl rfl rfl, ?_⟩
    | refine ⟨_, _, _, h.own_rd 2 10 rfl rfl rfl, ?_⟩
    | exact h.own_rd 2 10 rfl rfl rfl
    | refine ⟨_, h.own_rd 2 11 rfl rfl rfl, ?_⟩
    | refine ⟨_, _, _, h.own_rd 2 11 rfl rfl rfl, ?_⟩
    | exact h.own_rd 2 11 rfl rfl rfl
    | refine ⟨⟨by decide, by decide⟩, ?_⟩
    | (refine CallR.of (Compare_null _ _ .inl rfl h) ?_; rintro _ w ⟨rfl, h⟩)
    | (refine CallR.of (Compare_num _ _ _ _ (.inr rfl) .inl rfl h) ?_; rintro _ w ⟨rfl, h⟩)
    | refine ⟨_, h.lda 0 _ rfl rfl, ?_⟩
    | refine ⟨_, _, _, h.lda 0 _ rfl rfl, ?_⟩
    | refine ⟨h.lda 0 _ rfl rfl, ?_⟩
    | refine ⟨_, h.lda 1 _ rfl rfl, ?_⟩
    | refine ⟨_, _, _, h.lda 1 _ rfl rfl, ?_⟩
    | refine ⟨h.lda 1 _ rfl rfl, ?_⟩
    | refine ⟨_, h.lda 2 _ rfl rfl, ?_⟩
    | refine ⟨_, _, _, h.lda 2 _ rfl rfl, ?_⟩
    | refine ⟨h.lda 2 _ rfl rfl, ?_⟩
    | exact h.lda 0 _ rfl rfl
    | exact h.lda 1 _ rfl rfl
    | exact h.lda 2 _ rfl rfl
    | refine ⟨_, rfl, ?_⟩
    | refine ⟨_, _, rfl, ?_⟩
    | refine ⟨_, _, _, rfl, ?_⟩
    | refine ⟨_, _, _, _, _, _, _, _, _, _, _, _, rfl, ?_⟩
    | refine ⟨_, _, _, _, _, _, _, _, _, _, _, _, _, rfl, ?_⟩
    | refine ctt rfl ?_
    | refine cff rfl ?_
    | refine Meet.dup ?_
    | intro j
    | rw [ws]
    | simp only [ws, add_mk]
    | refine And.intro ?_ ?_)
  refine hX _ _ ?_
  dsimp only
  replace h := h.tail
  repeat' (first
    | (refine New.at h (fun b w hh => ?_); clear h; have h := hh; clear hh)
    | (refine Drew.of h (fun w hh => ?_); clear h; have h := hh; clear hh)
    | (refine St.at h 0 _ rfl rfl rfl (fun w hh => ?_); clear h; have h := hh; clear hh; simp only [List.set_cons_zero, List.set_cons_succ] at h)
    | (refine St.at h 1 _ rfl rfl rfl (fun w hh => ?_); clear h; have h := hh; clear hh; simp only [List.set_cons_zero, List.set_cons_succ] at h)
    | (refine St.at h 2 _ rfl rfl rfl (fun w hh => ?_); clear h; have h := hh; clear hh; simp only [List.set_cons_zero, List.set_cons_succ] at h)
    | refine ⟨_, h.own_rd 2 0 rfl rfl rfl, ?_⟩
    | refine ⟨_, _, _, h.own_rd 2 0 rfl rfl rfl, ?_⟩
    | exact h.own_rd 2 0 rfl rfl rfl
    | refine ⟨_, h.own_rd 2 1 rfl rfl rfl, ?_⟩
    | refine ⟨_, _, _, h.own_rd 2 1 rfl rfl rfl, ?_⟩
    | exact h.own_rd 2 1 rfl rfl rfl
    | refine ⟨_, h.own_rd 2 2 rfl rfl rfl, ?_⟩
    | refine ⟨_, _, _, h.own_rd 2 2 rfl rfl rfl, ?_⟩
    | exact h.own_rd 2 2 rfl rfl rfl
    | refine ⟨_, h.own_rd 2 3 rfl rfl rfl, ?_⟩
    | refine ⟨_, _, _, h.own_rd 2 3 rfl rfl rfl, ?_⟩
    | exact h.own_rd 2 3 rfl rfl rfl
    | refine ⟨_, h.own_rd 2 4 rfl rfl rfl, ?_⟩
    | refine ⟨_, _, _, h.own_rd 2 4 rfl rfl rfl, ?_⟩
    | exact h.own_rd 2 4 rfl rfl rfl
    | refine ⟨_, h.own_rd 2 5 rfl rfl rfl, ?_⟩
    | refine ⟨_, _, _, h.own_rd 2 5 rfl rfl rfl, ?_⟩
    | exact h.own_rd 2 5 rfl rfl rfl
    | refine ⟨_, h.own_rd 2 6 rfl rfl rfl, ?_⟩
    | refine ⟨_, _, _, h.own_rd 2 6 rfl rfl rfl, ?_⟩
    | exact h.own_rd 2 6 rfl rfl rfl
    | refine ⟨_, h.own_rd 2 7 rfl rfl rfl, ?_⟩
    | refine ⟨_, _, _, h.own_rd 2 7 rfl rfl rfl, ?_⟩
    | exact h.own_rd 2 7 rfl rfl rfl
    | refine ⟨_, h.own_rd 2 8 rfl rfl rfl, ?_⟩
    | refine ⟨_, _, _, h.own_rd 2 8 rfl rfl rfl, ?_⟩
    | exact h.own_rd 2 8 rfl rfl rfl
    | refine ⟨_, h.own_rd 2 9 rfl rfl rfl, ?_⟩
    | refine ⟨_, _, _, h.own_rd 2 9 rfl rfl rfl, ?_⟩
    | exact h.own_rd 2 9 rfl rfl rfl
    | refine ⟨_, h.own_rd 2 10 rfl rfl rfl, ?_⟩
    | refine ⟨_, _, _, h.own_rd 2 10 rfl rfl rfl, ?_⟩
    | exact h.own_rd 2 10 rfl rfl rfl
    | refine ⟨_, h.own_rd 2 11 rfl rfl rfl, ?_⟩
    | refine ⟨_, _, _, h.own_rd 2 11 rfl rfl rfl, ?_⟩
    | exact h.own_rd 2 11 rfl rfl rfl
    | refine ⟨⟨by decide, by decide⟩, ?_⟩
    | (refine CallR.of (Compare_null _ _ .inl rfl h) ?_; rintro _ w ⟨rfl, h⟩)
    | (refine CallR.of (Compare_num _ _ _ _ (.inr rfl) .inl rfl h) ?_; rintro _ w ⟨rfl, h⟩)
    | refine ⟨_, h.lda 0 _ rfl rfl, ?_⟩
    | refine ⟨_, _, _, h.lda 0 _ rfl rfl, ?_⟩
    | refine ⟨h.lda 0 _ rfl rfl, ?_⟩
    | refine ⟨_, h.lda 1 _ rfl rfl, ?_⟩
    | refine ⟨_, _, _, h.lda 1 _ rfl rfl, ?_⟩
    | refine ⟨h.lda 1 _ rfl rfl, ?_⟩
    | refine ⟨_, h.lda 2 _ rfl rfl, ?_⟩
    | refine ⟨_, _, _, h.lda 2 _ rfl rfl, ?_⟩
    | refine ⟨h.lda 2 _ rfl rfl, ?_⟩
    | exact h.lda 0 _ rfl rfl
    | exact h.lda 1 _ rfl rfl
    | exact h.lda 2 _ rfl rfl
    | refine ⟨_, rfl, ?_⟩
    | refine ⟨_, _, rfl, ?_⟩
    | refine ⟨_, _, _, rfl, ?_⟩
    | refine ⟨_, _, _, _, _, _, _, _, _, _, _, _, rfl, ?_⟩
    | refine ⟨_, _, _, _, _, _, _, _, _, _, _, _, _, rfl, ?_⟩
    | refine ctt rfl ?_
    | refine cff rfl ?_
    | refine Meet.dup ?_
    | intro j
    | rw [ws]
    | simp only [ws, add_mk]
    | refine And.intro ?_ ?_)
  refine hX _ _ ?_
  dsimp only
  replace h := h.tail
  repeat' (first
    | (refine New.at h (fun b w hh => ?_); clear h; have h := hh; clear hh)
    | (refine Drew.of h (fun w hh => ?_); clear h; have h := hh; clear hh)
    | (refine St.at h 0 _ rfl rfl rfl (fun w hh => ?_); clear h; have h := hh; clear hh; simp only [List.set_cons_zero, List.set_cons_succ] at h)
    | (refine St.at h 1 _ rfl rfl rfl (fun w hh => ?_); clear h; have h := hh; clear hh; simp only [List.set_cons_zero, List.set_cons_succ] at h)
    | (refine St.at h 2 _ rfl rfl rfl (fun w hh => ?_); clear h; have h := hh; clear hh; simp only [List.set_cons_zero, List.set_cons_succ] at h)
    | (refine CallR.of (push_missing _ h) ?_; rintro _ w ⟨rfl, h⟩)
    | refine ⟨_, h.lda 0 _ rfl rfl, ?_⟩
    | refine ⟨_, _, _, h.lda 0 _ rfl rfl, ?_⟩
    | refine ⟨h.lda 0 _ rfl rfl, ?_⟩
    | refine ⟨_, h.lda 1 _ rfl rfl, ?_⟩
    | refine ⟨_, _, _, h.lda 1 _ rfl rfl, ?_⟩
    | refine ⟨h.lda 1 _ rfl rfl, ?_⟩
    | refine ⟨_, h.lda 2 _ rfl rfl, ?_⟩
    | refine ⟨_, _, _, h.lda 2 _ rfl rfl, ?_⟩
    | refine ⟨h.lda 2 _ rfl rfl, ?_⟩
    | exact h.lda 0 _ rfl rfl
    | exact h.lda 1 _ rfl rfl
    | exact h.lda 2 _ rfl rfl
    | refine ⟨_, rfl, ?_⟩
    | refine ⟨_, _, rfl, ?_⟩
    | refine ⟨_, _, _, rfl, ?_⟩
    | refine ⟨_, _, _, _, _, _, _, _, _, _, _, _, rfl, ?_⟩
    | refine ⟨_, _, _, _, _, _, _, _, _, _, _, _, _, rfl, ?_⟩
    | refine ctt rfl ?_
    | refine cff rfl ?_
    | refine Meet.dup ?_
    | intro j
    | rw [ws]
    | simp only [ws, add_mk]
    | refine And.intro ?_ ?_)
  exact Ret.mk ⟨rfl, h.tail⟩

theorem set_push_0 (s : Nat) (f : Nat) (many : Int) (c : Nat) (h : Holds G w (all (stl s f many 5 none 0 c :: own t_api_Value 6 none 0 c [] :: L))) :
    Calls pg f_Paccum_State_set #[ptr s, vI 2 0] w (Ret fun v w' => v = .int .i64 0 ∧ ∃ b off c', Holds G w' (all (stl s f many 8 (some ⟨b, off, none⟩) 1 c' :: own t_api_Value 6 (some ⟨b, off, none⟩) 1 c' [.int .i64 2, .int .i64 0, .string em, .slice none 0 0, .slice none 0 0, .slice none 0 0] :: L))) := by
  apply of_Paccum_State_set
  unfold c_Paccum_State_set
  repeat' (first
    | (refine New.at h (fun b w hh => ?_); clear h; have h := hh; clear hh)
    | (refine Drew.of h (fun w hh => ?_); clear h; have h := hh; clear hh)
    | (refine St.at h 0 _ rfl rfl rfl (fun w hh => ?_); clear h; have h := hh; clear hh; simp only [List.set_cons_zero, List.set_cons_succ] at h)
    | (refine St.at h 1 _ rfl rfl rfl (fun w hh => ?_); clear h; have h := hh; clear hh; simp only [List.set_cons_zero, List.set_cons_succ] at h)
    | (refine St.at h 2 _ rfl rfl rfl (fun w hh => ?_); clear h; have h := hh; clear hh; simp only [List.set_cons_zero, List.set_cons_succ] at h)
    | refine ⟨_, h.lda 0 _ rfl rfl, ?_⟩
    | refine ⟨_, _, _, h.lda 0 _ rfl rfl, ?_⟩
    | refine ⟨h.lda 0 _ rfl rfl, ?_⟩
    | refine ⟨_, h.lda 1 _ rfl rfl, ?_⟩
    | refine ⟨_, _, _, h.lda 1 _ rfl rfl, ?_⟩
    | refine ⟨h.lda 1 _ rfl rfl, ?_⟩
    | refine ⟨_, h.lda 2 _ rfl rfl, ?_⟩
    | refine ⟨_, _, _, h.lda 2 _ rfl rfl, ?_⟩
    | refine ⟨h.lda 2 _ rfl rfl, ?_⟩
    | exact h.lda 0 _ rfl rfl
    | exact h.lda 1 _ rfl rfl
    | exact h.lda 2 _ rfl rfl
    | refine ⟨_, rfl, ?_⟩
    | refine ⟨_, _, rfl, ?_⟩
    | refine ⟨_, _, _, rfl, ?_⟩
    | refine ⟨_, _, _, _, _, _, _, _, _, _, _, _, rfl, ?_⟩
    | refine ⟨_, _, _, _, _, _, _, _, _, _, _, _, _, rfl, ?_⟩
    | refine ctt rfl ?_
    | refine cff rfl ?_
    | refine Meet.dup ?_
    | intro j
    | rw [ws]
    | simp only [ws, add_mk]
    | refine And.intro ?_ ?_)
  refine Loop.start (fun X hX => ?_)
  refine hX _ _ ?_
  dsimp only
  repeat' (first
    | (refine New.at h (fun b w hh => ?_); clear h; have h := hh; clear hh)
    | (refine Drew.of h (fun w hh => ?_); clear h; have h := hh; clear hh)
    | (refine St.at h 0 _ rfl rfl rfl (fun w hh => ?_); clear h; have h := hh; clear hh; simp only [List.set_cons_zero, List.set_cons_succ] at h)
    | (refine St.at h 1 _ rfl rfl rfl (fun w hh => ?_); clear h; have h := hh; clear hh; simp only [List.set_cons_zero, List.set_cons_succ] at h)
    | (refine St.at h 2 _ rfl rfl rfl (fun w hh => ?_); clear h; have h := hh; clear hh; simp only [List.set_cons_zero, List.set_cons_succ] at h)
    | (refine CallR.of (push_0 _ _ _ _ _ h.tail) ?_; rintro _ w ⟨rfl, bb, oo, cc, h⟩)
    | refine ⟨_, h.lda 0 _ rfl rfl, ?_⟩
    | refine ⟨_, _, _, h.lda 0 _ rfl rfl, ?_⟩
    | refine ⟨h.lda 0 _ rfl rfl, ?_⟩
    | refine ⟨_, h.lda 1 _ rfl rfl, ?_⟩
    | refine ⟨_, _, _, h.lda 1 _ rfl rfl, ?_⟩
    | refine ⟨h.lda 1 _ rfl rfl, ?_⟩
    | refine ⟨_, h.lda 2 _ rfl rfl, ?_⟩
    | refine ⟨_, _, _, h.lda 2 _ rfl rfl, ?_⟩
    | refine ⟨h.lda 2 _ rfl rfl, ?_⟩
    | exact h.lda 0 _ rfl rfl
    | exact h.lda 1 _ rfl rfl
    | exact h.lda 2 _ rfl rfl
    | refine ⟨_, rfl, ?_⟩
    | refine ⟨_, _, rfl, ?_⟩
    | refine ⟨_, _, _, rfl, ?_⟩
    | refine ⟨_, _, _, _, _, _, _, _, _, _, _, _, rfl, ?_⟩
    | refine ⟨_, _, _, _, _, _, _, _, _, _, _, _, _, rfl, ?_⟩
    | refine ctt rfl ?_
    | refine cff rfl ?_
    | refine Meet.dup ?_
    | intro j
    | rw [ws]
    | simp only [ws, add_mk]
    | refine And.intro ?_ ?_)
  exact Ret.mk ⟨rfl, bb, oo, cc, h⟩

theorem set_push_1 (s : Nat) (f : Nat) (many : Int) (b off : Nat) (c : Nat) (h : Holds G w (all (stl s f many 8 (some ⟨b, off, none⟩) 1 c :: own t_api_Value 6 (some ⟨b, off, none⟩) 1 c [.int .i64 2, .int .i64 0, .string em, .slice none 0 0, .slice none 0 0, .slice none 0 0] :: L))) :
    Calls pg f_Paccum_State_set #[ptr s, vI 4 3] w (Ret fun v w' => v = .int .i64 0 ∧ ∃ b off c', Holds G w' (all (stl s f many 19 (some ⟨b, off, none⟩) 2 c' :: own t_api_Value 6 (some ⟨b, off, none⟩) 2 c' [.int .i64 2, .int .i64 0, .string em, .slice none 0 0, .slice none 0 0, .slice none 0 0, .int .i64 4, .int .i64 3, .string em, .slice none 0 0, .slice none 0 0, .slice none 0 0] :: L))) := by
  apply of_Paccum_State_set
  unfold c_Paccum_State_set
  repeat' (first
    | (refine New.at h (fun b w hh => ?_); clear h; have h := hh; clear hh)
    | (refine Drew.of h (fun w hh => ?_); clear h; have h := hh; clear hh)
    | (refine St.at h 0 _ rfl rfl rfl (fun w hh => ?_); clear h; have h := hh; clear hh; simp only [List.set_cons_zero, List.set_cons_succ] at h)
    | (refine St.at h 1 _ rfl rfl rfl (fun w hh => ?_); clear h; have h := hh; clear hh; simp only [List.set_cons_zero, List.set_cons_succ] at h)
    | (refine St.at h 2 _ rfl rfl rfl (fun w hh => ?_); clear h; have h := hh; clear hh; simp only [List.set_cons_zero, List.set_cons_succ] at h)
    | refine ⟨_, h.lda 0 _ rfl rfl, ?_⟩
    | refine ⟨_, _, _, h.lda 0 _ rfl rfl, ?_⟩
    | refine ⟨h.lda 0 _ rfl rfl, ?_⟩
    | refine ⟨_, h.lda 1 _ rfl rfl, ?_⟩
    | refine ⟨_, _, _, h.lda 1 _ rfl rfl, ?_⟩
    | refine ⟨h.lda 1 _ rfl rfl, ?_⟩
    | refine ⟨_, h.lda 2 _ rfl rfl, ?_⟩
    | refine ⟨_, _, _, h.lda 2 _ rfl rfl, ?_⟩
    | refine ⟨h.lda 2 _ rfl rfl, ?_⟩
    | exact h.lda 0 _ rfl rfl
    | exact h.lda 1 _ rfl rfl
    | exact h.lda 2 _ rfl rfl
    | refine ⟨_, rfl, ?_⟩
    | refine ⟨_, _, rfl, ?_⟩
    | refine ⟨_, _, _, rfl, ?_⟩
    | refine ⟨_, _, _, _, _, _, _, _, _, _, _, _, rfl, ?_⟩
    | refine ⟨_, _, _, _, _, _, _, _, _, _, _, _, _, rfl, ?_⟩
    | refine ctt rfl ?_
    | refine cff rfl ?_
    | refine Meet.dup ?_
    | intro j
    | rw [ws]
    | simp only [ws, add_mk]
    | refine And.intro ?_ ?_)
  refine Loop.start (fun X hX => ?_)
  refine hX _ _ ?_
  dsimp only
  repeat' (first
    | (refine New.at h (fun b w hh => ?_); clear h; have h := hh; clear hh)
    | (refine Drew.of h (fun w hh => ?_); clear h; have h := hh; clear hh)
    | (refine St.at h 0 _ rfl rfl rfl (fun w hh => ?_); clear h; have h := hh; clear hh; simp only [List.set_cons_zero, List.set_cons_succ] at h)
    | (refine St.at h 1 _ rfl rfl rfl (fun w hh => ?_); clear h; have h := hh; clear hh; simp only [List.set_cons_zero, List.set_cons_succ] at h)
    | (refine St.at h 2 _ rfl rfl rfl (fun w hh => ?_); clear h; have h := hh; clear hh; simp only [List.set_cons_zero, List.set_cons_succ] at h)
    | refine ⟨_, h.own_rd 2 0 rfl rfl rfl, ?_⟩
    | refine ⟨_, _, _, h.own_rd 2 0 rfl rfl rfl, ?_⟩
    | exact h.own_rd 2 0 rfl rfl rfl
    | refine ⟨_, h.own_rd 2 1 rfl rfl rfl, ?_⟩
    | refine ⟨_, _, _, h.own_rd 2 1 rfl rfl rfl, ?_⟩
    | exact h.own_rd 2 1 rfl rfl rfl
    | refine ⟨_, h.own_rd 2 2 rfl rfl rfl, ?_⟩
    | refine ⟨_, _, _, h.own_rd 2 2 rfl rfl rfl, ?_⟩
    | exact h.own_rd 2 2 rfl rfl rfl
    | refine ⟨_, h.own_rd 2 3 rfl rfl rfl, ?_⟩
    | refine ⟨_, _, _, h.own_rd 2 3 rfl rfl rfl, ?_⟩
    | exact h.own_rd 2 3 rfl rfl rfl
    | refine ⟨_, h.own_rd 2 4 rfl rfl rfl, ?_⟩
    | refine ⟨_, _, _, h.own_rd 2 4 rfl rfl rfl, ?_⟩
    | exact h.own_rd 2 4 rfl rfl rfl
    | refine ⟨_, h.own_rd 2 5 rfl rfl rfl, ?_⟩
    | refine ⟨_, _, _, h.own_rd 2 5 rfl rfl rfl, ?_⟩
    | exact h.own_rd 2 5 rfl rfl rfl
    | refine ⟨⟨by decide, by decide⟩, ?_⟩
    | (refine CallR.of (Compare_null _ _ (.inr rfl) h) ?_; rintro _ w ⟨rfl, h⟩)
    | (refine CallR.of (Compare_num _ _ _ _ (.inr rfl) (.inr rfl) h) ?_; rintro _ w ⟨rfl, h⟩)
    | refine ⟨_, h.lda 0 _ rfl rfl, ?_⟩
    | refine ⟨_, _, _, h.lda 0 _ rfl rfl, ?_⟩
    | refine ⟨h.lda 0 _ rfl rfl, ?_⟩
    | refine ⟨_, h.lda 1 _ rfl rfl, ?_⟩
    | refine ⟨_, _, _, h.lda 1 _ rfl rfl, ?_⟩
    | refine ⟨h.lda 1 _ rfl rfl, ?_⟩
    | refine ⟨_, h.lda 2 _ rfl rfl, ?_⟩
    | refine ⟨_, _, _, h.lda 2 _ rfl rfl, ?_⟩
    | refine ⟨h.lda 2 _ rfl rfl, ?_⟩
    | exact h.lda 0 _ rfl rfl
    | exact h.lda 1 _ rfl rfl
    | exact h.lda 2 _ rfl rfl
    | refine ⟨_, rfl, ?_⟩
    | refine ⟨_, _, rfl, ?_⟩
    | refine ⟨_, _, _, rfl, ?_⟩
    | refine ⟨_, _, _, _, _, _, _, _, _, _, _, _, rfl, ?_⟩
    | refine ⟨_, _, _, _, _, _, _, _, _, _, _, _, _, rfl, ?_⟩
    | refine ctt rfl ?_
    | refine cff rfl ?_
    | refine Meet.dup ?_
    | intro j
    | rw [ws]
    | simp only [ws, add_mk]
    | refine And.intro ?_ ?_)
  refine hX _ _ ?_
  dsimp only
  replace h := h.tail
  repeat' (first
    | (refine New.at h (fun b w hh => ?_); clear h; have h := hh; clear hh)
    | (refine Drew.of h (fun w hh => ?_); clear h; have h := hh; clear hh)
    | (refine St.at h 0 _ rfl rfl rfl (fun w hh => ?_); clear h; have h := hh; clear hh; simp only [List.set_cons_zero, List.set_cons_succ] at h)
    | (refine St.at h 1 _ rfl rfl rfl (fun w hh => ?_); clear h; have h := hh; clear hh; simp only [List.set_cons_zero, List.set_cons_succ] at h)
    | (refine St.at h 2 _ rfl rfl rfl (fun w hh => ?_); clear h; have h := hh; clear hh; simp only [List.set_cons_zero, List.set_cons_succ] at h)
    | (refine CallR.of (push_1 _ _ _ _ _ h.tail) ?_; rintro _ w ⟨rfl, bb, oo, cc, h⟩)
    | refine ⟨_, h.lda 0 _ rfl rfl, ?_⟩
    | refine ⟨_, _, _, h.lda 0 _ rfl rfl, ?_⟩
    | refine ⟨h.lda 0 _ rfl rfl, ?_⟩
    | refine ⟨_, h.lda 1 _ rfl rfl, ?_⟩
    | refine ⟨_, _, _, h.lda 1 _ rfl rfl, ?_⟩
    | refine ⟨h.lda 1 _ rfl rfl, ?_⟩
    | refine ⟨_, h.lda 2 _ rfl rfl, ?_⟩
    | refine ⟨_, _, _, h.lda 2 _ rfl rfl, ?_⟩
    | refine ⟨h.lda 2 _ rfl rfl, ?_⟩
    | exact h.lda 0 _ rfl rfl
    | exact h.lda 1 _ rfl rfl
    | exact h.lda 2 _ rfl rfl
    | refine ⟨_, rfl, ?_⟩
    | refine ⟨_, _, rfl, ?_⟩
    | refine ⟨_, _, _, rfl, ?_⟩
    | refine ⟨_, _, _, _, _, _, _, _, _, _, _, _, rfl, ?_⟩
    | refine ⟨_, _, _, _, _, _, _, _, _, _, _, _, _, rfl, ?_⟩
    | refine ctt rfl ?_
    | refine cff rfl ?_
    | refine Meet.dup ?_
    | intro j
    | rw [ws]
    | simp only [ws, add_mk]
    | refine And.intro ?_ ?_)
  exact Ret.mk ⟨rfl, bb, oo, cc, h⟩

theorem set_same_2 (s : Nat) (f : Nat) (many : Int) (b off : Nat) (c : Nat) (h : Holds G w (all (stl s f many 19 (some ⟨b, off, none⟩) 2 c :: own t_api_Value 6 (some ⟨b, off, none⟩) 2 c [.int .i64 2, .int .i64 0, .string em, .slice none 0 0, .slice none 0 0, .slice none 0 0, .int .i64 4, .int .i64 3, .string em, .slice none 0 0, .slice none 0 0, .slice none 0 0] :: L))) :
    Calls pg f_Paccum_State_set #[ptr s, vI 3 3] w (Ret fun v w' => v = .int .i64 0 ∧ Holds G w' (all (stl s f many 19 (some ⟨b, off, none⟩) 2 c :: own t_api_Value 6 (some ⟨b, off, none⟩) 2 c [.int .i64 2, .int .i64 0, .string em, .slice none 0 0, .slice none 0 0, .slice none 0 0, .int .i64 4, .int .i64 3, .string em, .slice none 0 0, .slice none 0 0, .slice none 0 0] :: L))) := by
  apply of_Paccum_State_set
  unfold c_Paccum_State_set
  repeat' (first
    | (refine New.at h (fun b w hh => ?_); clear h; have h := hh; clear hh)
    | (refine Drew.of h (fun w hh => ?_); clear h; have h := hh; clear hh)
    | (refine St.at h 0 _ rfl rfl rfl (fun w hh => ?_); clear h; have h := hh; clear hh; simp only [List.set_cons_zero, List.set_cons_succ] at h)
    | (refine St.at h 1 _ rfl rfl rfl (fun w hh => ?_); clear h; have h := hh; clear hh; simp only [List.set_cons_zero, List.set_cons_succ] at h)
    | (refine St.at h 2 _ rfl rfl rfl (fun w hh => ?_); clear h; have h := hh; clear hh; simp only [List.set_cons_zero, List.set_cons_succ] at h)
    | refine ⟨_, h.lda 0 _ rfl rfl, ?_⟩
    | refine ⟨_, _, _, h.lda 0 _ rfl rfl, ?_⟩
    | refine ⟨h.lda 0 _ rfl rfl, ?_⟩
    | refine ⟨_, h.lda 1 _ rfl rfl, ?_⟩
    | refine ⟨_, _, _, h.lda 1 _ rfl rfl, ?_⟩
    | refine ⟨h.lda 1 _ rfl rfl, ?_⟩
    | refine ⟨_, h.lda 2 _ rfl rfl, ?_⟩
    | refine ⟨_, _, _, h.lda 2 _ rfl rfl, ?_⟩
    | refine ⟨h.lda 2 _ rfl rfl, ?_⟩
    | exact h.lda 0 _ rfl rfl
    | exact h.lda 1 _ rfl rfl
    | exact h.lda 2 _ rfl rfl
    | refine ⟨_, rfl, ?_⟩
    | refine ⟨_, _, rfl, ?_⟩
    | refine ⟨_, _, _, rfl, ?_⟩
    | refine ⟨_, _, _, _, _, _, _, _, _, _, _, _, rfl, ?_⟩
    | refine ⟨_, _, _, _, _, _, _, _, _, _, _, _, _, rfl, ?_⟩
    | refine ctt rfl ?_
    | refine cff rfl ?_
    | refine Meet.dup ?_
    | intro j
    | rw [ws]
    | simp only [ws, add_mk]
    | refine And.intro ?_ ?_)
  refine Loop.start (fun X hX => ?_)
  refine hX _ _ ?_
  dsimp only
  repeat' (first
    | (refine New.at h (fun b w hh => ?_); clear h; have h := hh; clear hh)
    | (refine Drew.of h (fun w hh => ?_); clear h; have h := hh; clear hh)
    | (refine St.at h 0 _ rfl rfl rfl (fun w hh => ?_); clear h; have h := hh; clear hh; simp only [List.set_cons_zero, List.set_cons_succ] at h)
    | (refine St.at h 1 _ rfl rfl rfl (fun w hh => ?_); clear h; have h := hh; clear hh; simp only [List.set_cons_zero, List.set_cons_succ] at h)
    | (refine St.at h 2 _ rfl rfl rfl (fun w hh => ?_); clear h; have h := hh; clear hh; simp only [List.set_cons_zero, List.set_cons_succ] at h)
    | refine ⟨_, h.own_rd 2 0 rfl rfl rfl, ?_⟩
    | refine ⟨_, _, _, h.own_rd 2 0 rfl rfl rfl, ?_⟩
    | exact h.own_rd 2 0 rfl rfl rfl
    | refine ⟨_, h.own_rd 2 1 rfl rfl rfl, ?_⟩
    | refine ⟨_, _, _, h.own_rd 2 1 rfl rfl rfl, ?_⟩
    | exact h.own_rd 2 1 rfl rfl rfl
    | refine ⟨_, h.own_rd 2 2 rfl rfl rfl, ?_⟩
    | refine ⟨_, _, _, h.own_rd 2 2 rfl rfl rfl, ?_⟩
    | exact h.own_rd 2 2 rfl rfl rfl
    | refine ⟨_, h.own_rd 2 3 rfl rfl rfl, ?_⟩
    | refine ⟨_, _, _, h.own_rd 2 3 rfl rfl rfl, ?_⟩
    | exact h.own_rd 2 3 rfl rfl rfl
    | refine ⟨_, h.own_rd 2 4 rfl rfl rfl, ?_⟩
    | refine ⟨_, _, _, h.own_rd 2 4 rfl rfl rfl, ?_⟩
    | exact h.own_rd 2 4 rfl rfl rfl
    | refine ⟨_, h.own_rd 2 5 rfl rfl rfl, ?_⟩
    | refine ⟨_, _, _, h.own_rd 2 5 rfl rfl rfl, ?_⟩
    | exact h.own_rd 2 5 rfl rfl rfl
    | refine ⟨_, h.own_rd 2 6 rfl rfl rfl, ?_⟩
    | refine ⟨_, _, _, h.own_rd 2 6 rfl rfl rfl, ?_⟩
    | exact h.own_rd 2 6 rfl rfl rfl
    | refine ⟨_, h.own_rd 2 7 rfl rfl rfl, ?_⟩
    | refine ⟨_, _, _, h.own_rd 2 7 rfl rfl rfl, ?_⟩
    | exact h.own_rd 2 7 rfl rfl rfl
    | refine ⟨_, h.own_rd 2 8 rfl rfl rfl, ?_⟩
    | refine ⟨_, _, _, h.own_rd 2 8 rfl rfl rfl, ?_⟩
    | exact h.own_rd 2 8 rfl rfl rfl
    | refine ⟨_, h.own_rd 2 9 rfl rfl rfl, ?_⟩
    | refine ⟨_, _, _, h.own_rd 2 9 rfl rfl rfl, ?_⟩
    | exact h.own_rd 2 9 rfl rfl rfl
    | refine ⟨_, h.own_rd 2 10 rfl rfl rfl, ?_⟩
    | refine ⟨_, _, _, h.own_rd 2 10 rfl rfl rfl, ?_⟩
    | exact h.own_rd 2 10 rfl rfl rfl
    | refine ⟨_, h.own_rd 2 11 rfl rfl rfl, ?_⟩
    | refine ⟨_, _, _, h.own_rd 2 11 rfl rfl rfl, ?_⟩
    | exact h.own_rd 2 11 rfl rfl rfl
    | refine ⟨⟨by decide, by decide⟩, ?_⟩
    | (refine CallR.of (Compare_null _ _ (.inl rfl) h) ?_; rintro _ w ⟨rfl, h⟩)
    | (refine CallR.of (Compare_num _ _ _ _ (.inr rfl) (.inl rfl) h) ?_; rintro _ w ⟨rfl, h⟩)
    | refine ⟨_, h.lda 0 _ rfl rfl, ?_⟩
    | refine ⟨_, _, _, h.lda 0 _ rfl rfl, ?_⟩
    | refine ⟨h.lda 0 _ rfl rfl, ?_⟩
    | refine ⟨_, h.lda 1 _ rfl rfl, ?_⟩
    | refine ⟨_, _, _, h.lda 1 _ rfl rfl, ?_⟩
    | refine ⟨h.lda 1 _ rfl rfl, ?_⟩
    | refine ⟨_, h.lda 2 _ rfl rfl, ?_⟩
    | refine ⟨_, _, _, h.lda 2 _ rfl rfl, ?_⟩
    | refine ⟨h.lda 2 _ rfl rfl, ?_⟩
    | exact h.lda 0 _ rfl rfl
    | exact h.lda 1 _ rfl rfl
    | exact h.lda 2 _ rfl rfl
    | refine ⟨_, rfl, ?_⟩
    | refine ⟨_, _, rfl, ?_⟩
    | refine ⟨_, _, _, rfl, ?_⟩
    | refine ⟨_, _, _, _, _, _, _, _, _, _, _, _, rfl, ?_⟩
    | refine ⟨_, _, _, _, _, _, _, _, _, _, _, _, _, rfl, ?_⟩
    | refine ctt rfl ?_
    | refine cff rfl ?_
    | refine Meet.dup ?_
    | intro j
    | rw [ws]
    | simp only [ws, add_mk]
    | refine And.intro ?_ ?_)
  refine hX _ _ ?_
  dsimp only
  replace h := h.tail
  repeat' (first
    | (refine New.at h (fun b w hh => ?_); clear h; have h := hh; clear hh)
    | (refine Drew.of h (fun w hh => ?_); clear h; have h := hh; clear hh)
    | (refine St.at h 0 _ rfl rfl rfl (fun w hh => ?_); clear h; have h := hh; clear hh; simp only [List.set_cons_zero, List.set_cons_succ] at h)
    | (refine St.at h 1 _ rfl rfl rfl (fun w hh => ?_); clear h; have h := hh; clear hh; simp only [List.set_cons_zero, List.set_cons_succ] at h)
    | (refine St.at h 2 _ rfl rfl rfl (fun w hh => ?_); clear h; have h := hh; clear hh; simp only [List.set_cons_zero, List.set_cons_succ] at h)
    | refine ⟨_, h.own_rd 2 0 rfl rfl rfl, ?_⟩
    | refine ⟨_, _, _, h.own_rd 2 0 rfl rfl rfl, ?_⟩
    | exact h.own_rd 2 0 rfl rfl rfl
    | refine ⟨_, h.own_rd 2 1 rfl rfl rfl, ?_⟩
    | refine ⟨_, _, _, h.own_rd 2 1 rfl rfl rfl, ?_⟩
    | exact h.own_rd 2 1 rfl rfl rfl
    | refine ⟨_, h.own_rd 2 2 rfl rfl rfl, ?_⟩
    | refine ⟨_, _, _, h.own_rd 2 2 rfl rfl rfl, ?_⟩
    | exact h.own_rd 2 2 rfl rfl rfl
    | refine ⟨_, h.own_rd 2 3 rfl rfl rfl, ?_⟩
    | refine ⟨_, _, _, h.own_rd 2 3 rfl rfl rfl, ?_⟩
    | exact h.own_rd 2 3 rfl rfl rfl
    | refine ⟨_, h.own_rd 2 4 rfl rfl rfl, ?_⟩
    | refine ⟨_, _, _, h.own_rd 2 4 rfl rfl rfl, ?_⟩
    | exact h.own_rd 2 4 rfl rfl rfl
    | refine ⟨_, h.own_rd 2 5 rfl rfl rfl, ?_⟩
    | refine ⟨_, _, _, h.own_rd 2 5 rfl rfl rfl, ?_⟩
    | exact h.own_rd 2 5 rfl rfl rfl
    | refine ⟨_, h.own_rd 2 6 rfl rfl rfl, ?_⟩
    | refine ⟨_, _, _, h.own_rd 2 6 rfl rfl rfl, ?_⟩
    | exact h.own_rd 2 6 rfl rfl rfl
    | refine ⟨_, h.own_rd 2 7 rfl rfl rfl, ?_⟩
    | refine ⟨_, _, _, h.own_rd 2 7 rfl rfl rfl, ?_⟩
    | exact h.own_rd 2 7 rfl rfl rfl
    | refine ⟨_, h.own_rd 2 8 rfl rfl rfl, ?_⟩
    | refine ⟨_, _, _, h.own_rd 2 8 rfl rfl rfl, ?_⟩
    | exact h.own_rd 2 8 rfl rfl rfl
    | refine ⟨_, h.own_rd 2 9 rfl rfl rfl, ?_⟩
    | refine ⟨_, _, _, h.own_rd 2 9 rfl rfl rfl, ?_⟩
    | exact h.own_rd 2 9 rfl rfl rfl
    | refine ⟨_, h.own_rd 2 10 rfl rfl rfl, ?_⟩
    | refine ⟨_, _, _, h.own_rd 2 10 rfl rfl rfl, ?_⟩
    | exact h.own_rd 2 10 rfl rfl rfl
    | refine ⟨_, h.own_rd 2 11 rfl rfl rfl, ?_⟩
    | refine ⟨_, _, _, h.own_rd 2 11 rfl rfl rfl, ?_⟩
    | exact h.own_rd 2 11 rfl rfl rfl
    | refine ⟨⟨by decide, by decide⟩, ?_⟩
    | (refine CallR.of (Compare_null _ _ (.inl rfl) h) ?_; rintro _ w ⟨rfl, h⟩)
    | (refine CallR.of (Compare_num _ _ _ _ (.inr rfl) (.inl rfl) h) ?_; rintro _ w ⟨rfl, h⟩)
    | refine ⟨_, h.lda 0 _ rfl rfl, ?_⟩
    | refine ⟨_, _, _, h.lda 0 _ rfl rfl, ?_⟩
    | refine ⟨h.lda 0 _ rfl rfl, ?_⟩
    | refine ⟨_, h.lda 1 _ rfl rfl, ?_⟩
    | refine ⟨_, _, _, h.lda 1 _ rfl rfl, ?_⟩
    | refine ⟨h.lda 1 _ rfl rfl, ?_⟩
    | refine ⟨_, h.lda 2 _ rfl rfl, ?_⟩
    | refine ⟨_, _, _, h.lda 2 _ rfl rfl, ?_⟩
    | refine ⟨h.lda 2 _ rfl rfl, ?_⟩
    | exact h.lda 0 _ rfl rfl
    | exact h.lda 1 _ rfl rfl
    | exact h.lda 2 _ rfl rfl
    | refine ⟨_, rfl, ?_⟩
    | refine ⟨_, _, rfl, ?_⟩
    | refine ⟨_, _, _, rfl, ?_⟩
    | refine ⟨_, _, _, _, _, _, _, _, _, _, _, _, rfl, ?_⟩
    | refine ⟨_, _, _, _, _, _, _, _, _, _, _, _, _, rfl, ?_⟩
    | refine ctt rfl ?_
    | refine cff rfl ?_
    | refine Meet.dup ?_
    | intro j
    | rw [ws]
    | simp only [ws, add_mk]
    | refine And.intro ?_ ?_)
  exact Ret.mk ⟨rfl, h.tail.tail⟩

/-- Add where the state keeps a list. -/
theorem Add_list (s : Nat) (f : Nat) (many size size' : Int) (a : Option Addr) (l c l' : Nat) (cs cs' : List Value) (k n : Int) (hf : bl f = false)
    (hb : ∀ {w : World} {L : List HP}, Holds G w (all (stl s f many size a l c :: own t_api_Value 6 a l c cs :: L)) →
      Calls pg f #[ptr s, vI k n] w (Ret fun v w' => v = .int .i64 0 ∧ ∃ b off c', Holds G w' (all (stl s f many size' (some ⟨b, off, none⟩) l' c' :: own t_api_Value 6 (some ⟨b, off, none⟩) l' c' cs' :: L))))
    (h : Holds G w (all (stl s f many size a l c :: own t_api_Value 6 a l c cs :: L))) :
    Calls pg f_Paccum_State_Add #[ptr s, vI k n] w (Ret fun v w' => v = .int .i64 0 ∧ ∃ b off c', Holds G w' (all (stl s f (IntKind.i64.wrap (many + 1)) size' (some ⟨b, off, none⟩) l' c' :: own t_api_Value 6 (some ⟨b, off, none⟩) l' c' cs' :: L))) := by
  apply of_Paccum_State_Add
  unfold c_Paccum_State_Add
  repeat' (first
    | (refine New.at h (fun b w hh => ?_); clear h; have h := hh; clear hh)
    | (refine Drew.of h (fun w hh => ?_); clear h; have h := hh; clear hh)
    | (refine St.at h 0 _ rfl rfl rfl (fun w hh => ?_); clear h; have h := hh; clear hh; simp only [List.set_cons_zero, List.set_cons_succ] at h)
    | (refine St.at h 1 _ rfl rfl rfl (fun w hh => ?_); clear h; have h := hh; clear hh; simp only [List.set_cons_zero, List.set_cons_succ] at h)
    | (refine St.at h 2 _ rfl rfl rfl (fun w hh => ?_); clear h; have h := hh; clear hh; simp only [List.set_cons_zero, List.set_cons_succ] at h)
    | refine isNil_fn ?_
    | (refine CallV.of2 hf (CallR.of (hb ((h.bring 2 rfl).bring 2 rfl)) ?_); rintro _ w ⟨rfl, bb, oo, cc, h⟩; simp only [List.eraseIdx_cons_zero, List.eraseIdx_cons_succ] at h)
    | refine ⟨_, h.lda 0 _ rfl rfl, ?_⟩
    | refine ⟨_, _, _, h.lda 0 _ rfl rfl, ?_⟩
    | refine ⟨h.lda 0 _ rfl rfl, ?_⟩
    | refine ⟨_, h.lda 1 _ rfl rfl, ?_⟩
    | refine ⟨_, _, _, h.lda 1 _ rfl rfl, ?_⟩
    | refine ⟨h.lda 1 _ rfl rfl, ?_⟩
    | refine ⟨_, h.lda 2 _ rfl rfl, ?_⟩
    | refine ⟨_, _, _, h.lda 2 _ rfl rfl, ?_⟩
    | refine ⟨h.lda 2 _ rfl rfl, ?_⟩
    | exact h.lda 0 _ rfl rfl
    | exact h.lda 1 _ rfl rfl
    | exact h.lda 2 _ rfl rfl
    | refine ⟨_, rfl, ?_⟩
    | refine ⟨_, _, rfl, ?_⟩
    | refine ⟨_, _, _, rfl, ?_⟩
    | refine ⟨_, _, _, _, _, _, _, _, _, _, _, _, rfl, ?_⟩
    | refine ⟨_, _, _, _, _, _, _, _, _, _, _, _, _, rfl, ?_⟩
    | refine ctt rfl ?_
    | refine cff rfl ?_
    | refine Meet.dup ?_
    | intro j
    | rw [ws]
    | simp only [ws, add_mk]
    | refine And.intro ?_ ?_)
  exact Ret.mk ⟨rfl, bb, oo, cc, (h.bring 2 rfl).tail⟩

/-- .. and takes nothing. -/
theorem Add_skip (s : Nat) (f : Nat) (many size : Int) (a : Option Addr) (l c : Nat) (cs : List Value) (k n : Int) (hf : bl f = false)
    (hb : ∀ {w : World} {L : List HP}, Holds G w (all (stl s f many size a l c :: own t_api_Value 6 a l c cs :: L)) →
      Calls pg f #[ptr s, vI k n] w (Ret fun v w' => v = .int .i64 0 ∧ Holds G w' (all (stl s f many size a l c :: own t_api_Value 6 a l c cs :: L))))
    (h : Holds G w (all (stl s f many size a l c :: own t_api_Value 6 a l c cs :: L))) :
    Calls pg f_Paccum_State_Add #[ptr s, vI k n] w (Ret fun v w' => v = .int .i64 0 ∧ Holds G w' (all (stl s f (IntKind.i64.wrap (many + 1)) size a l c :: own t_api_Value 6 a l c cs :: L))) := by
  apply of_Paccum_State_Add
  unfold c_Paccum_State_Add
  repeat' (first
    | (refine New.at h (fun b w hh => ?_); clear h; have h := hh; clear hh)
    | (refine Drew.of h (fun w hh => ?_); clear h; have h := hh; clear hh)
    | (refine St.at h 0 _ rfl rfl rfl (fun w hh => ?_); clear h; have h := hh; clear hh; simp only [List.set_cons_zero, List.set_cons_succ] at h)
    | (refine St.at h 1 _ rfl rfl rfl (fun w hh => ?_); clear h; have h := hh; clear hh; simp only [List.set_cons_zero, List.set_cons_succ] at h)
    | (refine St.at h 2 _ rfl rfl rfl (fun w hh => ?_); clear h; have h := hh; clear hh; simp only [List.set_cons_zero, List.set_cons_succ] at h)
    | refine isNil_fn ?_
    | (refine CallV.of2 hf (CallR.of (hb ((h.bring 2 rfl).bring 2 rfl)) ?_); rintro _ w ⟨rfl, h⟩; simp only [List.eraseIdx_cons_zero, List.eraseIdx_cons_succ] at h)
    | refine ⟨_, h.lda 0 _ rfl rfl, ?_⟩
    | refine ⟨_, _, _, h.lda 0 _ rfl rfl, ?_⟩
    | refine ⟨h.lda 0 _ rfl rfl, ?_⟩
    | refine ⟨_, h.lda 1 _ rfl rfl, ?_⟩
    | refine ⟨_, _, _, h.lda 1 _ rfl rfl, ?_⟩
    | refine ⟨h.lda 1 _ rfl rfl, ?_⟩
    | refine ⟨_, h.lda 2 _ rfl rfl, ?_⟩
    | refine ⟨_, _, _, h.lda 2 _ rfl rfl, ?_⟩
    | refine ⟨h.lda 2 _ rfl rfl, ?_⟩
    | exact h.lda 0 _ rfl rfl
    | exact h.lda 1 _ rfl rfl
    | exact h.lda 2 _ rfl rfl
    | refine ⟨_, rfl, ?_⟩
    | refine ⟨_, _, rfl, ?_⟩
    | refine ⟨_, _, _, rfl, ?_⟩
    | refine ⟨_, _, _, _, _, _, _, _, _, _, _, _, rfl, ?_⟩
    | refine ⟨_, _, _, _, _, _, _, _, _, _, _, _, _, rfl, ?_⟩
    | refine ctt rfl ?_
    | refine cff rfl ?_
    | refine Meet.dup ?_
    | intro j
    | rw [ws]
    | simp only [ws, add_mk]
    | refine And.intro ?_ ?_)
  exact Ret.mk ⟨rfl, (h.bring 2 rfl).tail⟩

theorem Value_nil (s : Nat) (f : Nat) (many size : Int) (h : Holds G w (all (stl s f many size none 0 0 :: L))) :
    Calls pg f_Paccum_State_Value #[ptr s] w (Ret fun v w' => v = vL none 0 0 ∧ Holds G w' (all (stl s f many size none 0 0 :: L))) := by
  apply of_Paccum_State_Value
  unfold c_Paccum_State_Value
  repeat' (first
    | (refine New.at h (fun b w hh => ?_); clear h; have h := hh; clear hh)
    | (refine Drew.of h (fun w hh => ?_); clear h; have h := hh; clear hh)
    | (refine St.at h 0 _ rfl rfl rfl (fun w hh => ?_); clear h; have h := hh; clear hh; simp only [List.set_cons_zero, List.set_cons_succ] at h)
    | (refine St.at h 1 _ rfl rfl rfl (fun w hh => ?_); clear h; have h := hh; clear hh; simp only [List.set_cons_zero, List.set_cons_succ] at h)
    | (refine St.at h 2 _ rfl rfl rfl (fun w hh => ?_); clear h; have h := hh; clear hh; simp only [List.set_cons_zero, List.set_cons_succ] at h)
    | refine isNil_fn ?_
    | (refine CallR.of (Copy_none h) ?_; rintro _ w ⟨rfl, h⟩)
    | refine ⟨_, h.lda 0 _ rfl rfl, ?_⟩
    | refine ⟨_, _, _, h.lda 0 _ rfl rfl, ?_⟩
    | refine ⟨h.lda 0 _ rfl rfl, ?_⟩
    | refine ⟨_, h.lda 1 _ rfl rfl, ?_⟩
    | refine ⟨_, _, _, h.lda 1 _ rfl rfl, ?_⟩
    | refine ⟨h.lda 1 _ rfl rfl, ?_⟩
    | refine ⟨_, h.lda 2 _ rfl rfl, ?_⟩
    | refine ⟨_, _, _, h.lda 2 _ rfl rfl, ?_⟩
    | refine ⟨h.lda 2 _ rfl rfl, ?_⟩
    | exact h.lda 0 _ rfl rfl
    | exact h.lda 1 _ rfl rfl
    | exact h.lda 2 _ rfl rfl
    | refine ⟨_, rfl, ?_⟩
    | refine ⟨_, _, rfl, ?_⟩
    | refine ⟨_, _, _, rfl, ?_⟩
    | refine ⟨_, _, _, _, _, _, _, _, _, _, _, _, rfl, ?_⟩
    | refine ⟨_, _, _, _, _, _, _, _, _, _, _, _, _, rfl, ?_⟩
    | refine ctt rfl ?_
    | refine cff rfl ?_
    | refine Meet.dup ?_
    | intro j
    | rw [ws]
    | simp only [ws, add_mk]
    | refine And.intro ?_ ?_)
  exact Ret.mk ⟨rfl, h.tail⟩

theorem Value_2 (s : Nat) (f : Nat) (many size : Int) (b off c : Nat) (h : Holds G w (all (stl s f many size (some ⟨b, off, none⟩) 2 c :: own t_api_Value 6 (some ⟨b, off, none⟩) 2 c [.int .i64 2, .int .i64 0, .string em, .slice none 0 0, .slice none 0 0, .slice none 0 0, .int .i64 4, .int .i64 3, .string em, .slice none 0 0, .slice none 0 0, .slice none 0 0] :: L))) :
    Calls pg f_Paccum_State_Value #[ptr s] w (Ret fun v w' => ∃ b' off' c', v = vL (some ⟨b', off', none⟩) 2 c' ∧ Holds G w' (all (own t_api_Value 6 (some ⟨b', off', none⟩) 2 c' [.int .i64 2, .int .i64 0, .string em, .slice none 0 0, .slice none 0 0, .slice none 0 0, .int .i64 4, .int .i64 3, .string em, .slice none 0 0, .slice none 0 0, .slice none 0 0] :: L))) := by
  apply of_Paccum_State_Value
  unfold c_Paccum_State_Value
  repeat' (first
    | (refine New.at h (fun b w hh => ?_); clear h; have h := hh; clear hh)
    | (refine Drew.of h (fun w hh => ?_); clear h; have h := hh; clear hh)
    | (refine St.at h 0 _ rfl rfl rfl (fun w hh => ?_); clear h; have h := hh; clear hh; simp only [List.set_cons_zero, List.set_cons_succ] at h)
    | (refine St.at h 1 _ rfl rfl rfl (fun w hh => ?_); clear h; have h := hh; clear hh; simp only [List.set_cons_zero, List.set_cons_succ] at h)
    | (refine St.at h 2 _ rfl rfl rfl (fun w hh => ?_); clear h; have h := hh; clear hh; simp only [List.set_cons_zero, List.set_cons_succ] at h)
    | (refine St.at h 3 _ rfl rfl rfl (fun w hh => ?_); clear h; have h := hh; clear hh; simp only [List.set_cons_zero, List.set_cons_succ] at h)
    | refine isNil_fn ?_
    | (refine CallR.of (Copy_2 _ _ _ _ _ _ _ (h.bring 2 rfl)) ?_; rintro _ w ⟨b', off', c', rfl, h⟩; simp only [List.eraseIdx_cons_zero, List.eraseIdx_cons_succ] at h)
    | refine ⟨_, h.lda 0 _ rfl rfl, ?_⟩
    | refine ⟨_, _, _, h.lda 0 _ rfl rfl, ?_⟩
    | refine ⟨h.lda 0 _ rfl rfl, ?_⟩
    | refine ⟨_, h.lda 1 _ rfl rfl, ?_⟩
    | refine ⟨_, _, _, h.lda 1 _ rfl rfl, ?_⟩
    | refine ⟨h.lda 1 _ rfl rfl, ?_⟩
    | refine ⟨_, h.lda 2 _ rfl rfl, ?_⟩
    | refine ⟨_, _, _, h.lda 2 _ rfl rfl, ?_⟩
    | refine ⟨h.lda 2 _ rfl rfl, ?_⟩
    | refine ⟨_, h.lda 3 _ rfl rfl, ?_⟩
    | refine ⟨_, _, _, h.lda 3 _ rfl rfl, ?_⟩
    | refine ⟨h.lda 3 _ rfl rfl, ?_⟩
    | exact h.lda 0 _ rfl rfl
    | exact h.lda 1 _ rfl rfl
    | exact h.lda 2 _ rfl rfl
    | exact h.lda 3 _ rfl rfl
    | refine ⟨_, rfl, ?_⟩
    | refine ⟨_, _, rfl, ?_⟩
    | refine ⟨_, _, _, rfl, ?_⟩
    | refine ⟨_, _, _, _, _, _, _, _, _, _, _, _, rfl, ?_⟩
    | refine ⟨_, _, _, _, _, _, _, _, _, _, _, _, _, rfl, ?_⟩
    | refine ctt rfl ?_
    | refine cff rfl ?_
    | refine Meet.dup ?_
    | intro j
    | rw [ws]
    | simp only [ws, add_mk]
    | refine And.intro ?_ ?_)
  exact Ret.mk ⟨_, _, _, rfl, h.skip.skip.skip⟩

theorem Value_3 (s : Nat) (f : Nat) (many size : Int) (b off c : Nat) (h : Holds G w (all (stl s f many size (some ⟨b, off, none⟩) 3 c :: own t_api_Value 6 (some ⟨b, off, none⟩) 3 c [.int .i64 2, .int .i64 0, .string em, .slice none 0 0, .slice none 0 0, .slice none 0 0, .int .i64 4, .int .i64 3, .string em, .slice none 0 0, .slice none 0 0, .slice none 0 0, .int .i64 3, .int .i64 3, .string em, .slice none 0 0, .slice none 0 0, .slice none 0 0] :: L))) :
    Calls pg f_Paccum_State_Value #[ptr s] w (Ret fun v w' => ∃ b' off' c', v = vL (some ⟨b', off', none⟩) 3 c' ∧ Holds G w' (all (own t_api_Value 6 (some ⟨b', off', none⟩) 3 c' [.int .i64 2, .int .i64 0, .string em, .slice none 0 0, .slice none 0 0, .slice none 0 0, .int .i64 4, .int .i64 3, .string em, .slice none 0 0, .slice none 0 0, .slice none 0 0, .int .i64 3, .int .i64 3, .string em, .slice none 0 0, .slice none 0 0, .slice none 0 0] :: L))) := by
  apply of_Paccum_State_Value
  unfold c_Paccum_State_Value
  repeat' (first
    | (refine New.at h (fun b w hh => ?_); clear h; have h := hh; clear hh)
    | (refine Drew.of h (fun w hh => ?_); clear h; have h := hh; clear hh)
    | (refine St.at h 0 _ rfl rfl rfl (fun w hh => ?_); clear h; have h := hh; clear hh; simp only [List.set_cons_zero, List.set_cons_succ] at h)
    | (refine St.at h 1 _ rfl rfl rfl (fun w hh => ?_); clear h; have h := hh; clear hh; simp only [List.set_cons_zero, List.set_cons_succ] at h)
    | (refine St.at h 2 _ rfl rfl rfl (fun w hh => ?_); clear h; have h := hh; clear hh; simp only [List.set_cons_zero, List.set_cons_succ] at h)
    | (refine St.at h 3 _ rfl rfl rfl (fun w hh => ?_); clear h; have h := hh; clear hh; simp only [List.set_cons_zero, List.set_cons_succ] at h)
    | refine isNil_fn ?_
    | (refine CallR.of (Copy_3 _ _ _ _ _ _ _ _ _ (h.bring 2 rfl)) ?_; rintro _ w ⟨b', off', c', rfl, h⟩; simp only [List.eraseIdx_cons_zero, List.eraseIdx_cons_succ] at h)
    | refine ⟨_, h.lda 0 _ rfl rfl, ?_⟩
    | refine ⟨_, _, _, h.lda 0 _ rfl rfl, ?_⟩
    | refine ⟨h.lda 0 _ rfl rfl, ?_⟩
    | refine ⟨_, h.lda 1 _ rfl rfl, ?_⟩
    | refine ⟨_, _, _, h.lda 1 _ rfl rfl, ?_⟩
    | refine ⟨h.lda 1 _ rfl rfl, ?_⟩
    | refine ⟨_, h.lda 2 _ rfl rfl, ?_⟩
    | refine ⟨_, _, _, h.lda 2 _ rfl rfl, ?_⟩
    | refine ⟨h.lda 2 _ rfl rfl, ?_⟩
    | refine ⟨_, h.lda 3 _ rfl rfl, ?_⟩
    | refine ⟨_, _, _, h.lda 3 _ rfl rfl, ?_⟩
    | refine ⟨h.lda 3 _ rfl rfl, ?_⟩
    | exact h.lda 0 _ rfl rfl
    | exact h.lda 1 _ rfl rfl
    | exact h.lda 2 _ rfl rfl
    | exact h.lda 3 _ rfl rfl
    | refine ⟨_, rfl, ?_⟩
    | refine ⟨_, _, rfl, ?_⟩
    | refine ⟨_, _, _, rfl, ?_⟩
    | refine ⟨_, _, _, _, _, _, _, _, _, _, _, _, rfl, ?_⟩
    | refine ⟨_, _, _, _, _, _, _, _, _, _, _, _, _, rfl, ?_⟩
    | refine ctt rfl ?_
    | refine cff rfl ?_
    | refine Meet.dup ?_
    | intro j
    | rw [ws]
    | simp only [ws, add_mk]
    | refine And.intro ?_ ?_)
  exact Ret.mk ⟨_, _, _, rfl, h.skip.skip.skip⟩

end
end Go.Proofs.Sd
