/- push and set. -/
import Derived.Test.YtnckkeefipaoeaaDoorAc6
set_option linter.unusedVariables false
set_option linter.unusedSimpArgs false
set_option maxRecDepth 100000
set_option maxHeartbeats 8000000
namespace Go.Proofs.Sd
open Go Go.Eng Go.Eng.HP Go.RowKit Go.Proofs
attribute [local irreducible] St New Drew Prim PrimU CallR CallV CallI CallX Meet Eng.Loop withSome HP.blk HP.mp Calls Holds Ret

section
variable {G : Gh} {w : World} {L : List HP}

theorem push_missing (s : Option Addr) (h : Holds G w (all L)) : Calls pg f_Paccum_State_push #[.pointer s, vI 0 0] w (Ret fun v w' => v = .int .i64 0 ∧ Holds G w' (all L)) := by
  apply of_Paccum_State_push
  unfold c_Paccum_State_push
  repeat' (first
    | (refine New.at h (fun b w hh => ?_); clear h; have h := hh; clear hh)
    | (refine Drew.of h (fun w hh => ?_); clear h; have h := hh; clear hh)
    | (refine St.at h 0 _ rfl rfl rfl (fun w hh => ?_); clear h; have h := hh; clear hh; simp only [List.set_cons_zero, List.set_cons_succ] at h)
    | refine ⟨_, h.lda 0 _ rfl rfl, ?_⟩
    | refine ⟨_, _, _, h.lda 0 _ rfl rfl, ?_⟩
    | refine ⟨h.lda 0 _ rfl rfl, ?_⟩
    | exact h.lda 0 _ rfl rfl
    | refine ⟨_, rfl, ?_⟩
    | refine ⟨_, _, rfl, ?_⟩
    | refine ⟨_, _, _, rfl, ?_⟩
    | refine ⟨_, _, _, _, _, _, _, _, _, _, _, _, rfl, ?_⟩
    | refine ⟨_, _, _, _, _, _, _, _, _, _, _, _, _, rfl, ?_⟩
    | refine ctt rfl ?_
    | refine cff rfl ?_
    | refine Meet.dup ?_
    | intro j
    | rw [ws]
    | simp only [ws, add_mk]
    | refine And.intro ?_ ?_)
  exact Ret.mk ⟨rfl, h.tail⟩

theorem push_0 (s : Nat) (f : Nat) (many : Int) (a : Option Addr) (c : Nat) (h : Holds G w (all (stl s f many 5 a 0 c :: own t_api_Value 6 a 0 c [] :: L))) :
    Calls pg f_Paccum_State_push #[ptr s, vI 2 0] w (Ret fun v w' => v = .int .i64 0 ∧ ∃ b off c', Holds G w' (all (stl s f many 8 (some ⟨b, off, none⟩) 1 c' :: own t_api_Value 6 (some ⟨b, off, none⟩) 1 c' [.int .i64 2, .int .i64 0, .string em, .slice none 0 0, .slice none 0 0, .slice none 0 0] :: L))) := by
  apply of_Paccum_State_push
  unfold c_Paccum_State_push
  repeat' (first
    | (refine New.at h (fun b w hh => ?_); clear h; have h := hh; clear hh)
    | (refine Drew.of h (fun w hh => ?_); clear h; have h := hh; clear hh)
    | (refine St.at h 0 _ rfl rfl rfl (fun w hh => ?_); clear h; have h := hh; clear hh; simp only [List.set_cons_zero, List.set_cons_succ] at h)
    | (refine St.at h 1 _ rfl rfl rfl (fun w hh => ?_); clear h; have h := hh; clear hh; simp only [List.set_cons_zero, List.set_cons_succ] at h)
    | (refine St.at h 2 _ rfl rfl rfl (fun w hh => ?_); clear h; have h := hh; clear hh; simp only [List.set_cons_zero, List.set_cons_succ] at h)
    | (refine CallR.of (own_one _ _ _ _ (.inl ⟨rfl, rfl⟩) h) ?_; rintro _ w ⟨rfl, h⟩)
    | (refine CallR.of (Itoa_small _ (by decide) h) ?_; rintro _ w ⟨rfl, h⟩)
    | (refine CallR.of (own_none h) ?_; rintro _ w ⟨rfl, h⟩)
    | refine ⟨_, h.lda 0 _ rfl rfl, ?_⟩
    | refine ⟨_, _, _, h.lda 0 _ rfl rfl, ?_⟩
    | refine ⟨h.lda 0 _ rfl rfl, ?_⟩
    | refine ⟨_, h.lda 1 _ rfl rfl, ?_⟩
    | refine ⟨_, _, _, h.lda 1 _ rfl rfl, ?_⟩
    | refine ⟨h.lda 1 _ rfl rfl, ?_⟩
    | refine ⟨_, h.lda 2 _ rfl rfl, ?_⟩
    | refine ⟨_, _, _, h.lda 2 _ rfl rfl, ?_⟩
    | refine ⟨h.lda 2 _ rfl rfl, ?_⟩
    | exact h.lda 0 _ rfl rfl
    | exact h.lda 1 _ rfl rfl
    | exact h.lda 2 _ rfl rfl
    | refine ⟨_, rfl, ?_⟩
    | refine ⟨_, _, rfl, ?_⟩
    | refine ⟨_, _, _, rfl, ?_⟩
    | refine ⟨_, _, _, _, _, _, _, _, _, _, _, _, rfl, ?_⟩
    | refine ⟨_, _, _, _, _, _, _, _, _, _, _, _, _, rfl, ?_⟩
    | refine ctt rfl ?_
    | refine cff rfl ?_
    | refine Meet.dup ?_
    | intro j
    | rw [ws]
    | simp only [ws, add_mk]
    | refine And.intro ?_ ?_)
  all_goals
    repeat' (first
      | (refine New.at h (fun b w hh => ?_); clear h; have h := hh; clear hh)
      | (refine Drew.of h (fun w hh => ?_); clear h; have h := hh; clear hh)
      | (refine St.at h 0 _ rfl rfl rfl (fun w hh => ?_); clear h; have h := hh; clear hh; simp only [List.set_cons_zero, List.set_cons_succ] at h)
      | (refine St.at h 1 _ rfl rfl rfl (fun w hh => ?_); clear h; have h := hh; clear hh; simp only [List.set_cons_zero, List.set_cons_succ] at h)
      | (refine St.at h 2 _ rfl rfl rfl (fun w hh => ?_); clear h; have h := hh; clear hh; simp only [List.set_cons_zero, List.set_cons_succ] at h)
      | (refine St.at h 3 _ rfl rfl rfl (fun w hh => ?_); clear h; have h := hh; clear hh; simp only [List.set_cons_zero, List.set_cons_succ] at h)
      | (refine CallR.of (Copy_num _ _ h) ?_; rintro _ w ⟨rfl, h⟩)
      | (refine append_at tok rfl (.inl ⟨_, rfl⟩) rfl rfl rfl h 3 rfl (Src.blk_at h 0 rfl rfl rfl) (by decide) (by decide) (fun a' c' w h => ?_); simp only [List.eraseIdx_cons_zero, List.eraseIdx_cons_succ] at h; obtain ⟨fb, off, rfl⟩ := Holds.own_addr' h rfl; replace h : Holds G w (all (own t_api_Value 6 (some ⟨fb, off, none⟩) 1 c' [.int .i64 0, .int .i64 0, .string em, .slice none 0 0, .slice none 0 0, .slice none 0 0] :: _ :: _ :: _ :: L)) := h)
      | (refine St.own_set h 0 0 rfl rfl rfl rfl (fun w hh => ?_); clear h; have h := hh; clear hh; simp only [List.set_cons_zero, List.set_cons_succ] at h)
      | (refine St.own_set h 0 1 rfl rfl rfl rfl (fun w hh => ?_); clear h; have h := hh; clear hh; simp only [List.set_cons_zero, List.set_cons_succ] at h)
      | (refine St.own_set h 0 2 rfl rfl rfl rfl (fun w hh => ?_); clear h; have h := hh; clear hh; simp only [List.set_cons_zero, List.set_cons_succ] at h)
      | (refine St.own_set h 0 3 rfl rfl rfl rfl (fun w hh => ?_); clear h; have h := hh; clear hh; simp only [List.set_cons_zero, List.set_cons_succ] at h)
      | (refine St.own_set h 0 4 rfl rfl rfl rfl (fun w hh => ?_); clear h; have h := hh; clear hh; simp only [List.set_cons_zero, List.set_cons_succ] at h)
      | (refine St.own_set h 0 5 rfl rfl rfl rfl (fun w hh => ?_); clear h; have h := hh; clear hh; simp only [List.set_cons_zero, List.set_cons_succ] at h)
      | refine ⟨⟨by decide, by decide⟩, ?_⟩
      | refine ⟨_, h.lda 0 _ rfl rfl, ?_⟩
      | refine ⟨_, _, _, h.lda 0 _ rfl rfl, ?_⟩
      | refine ⟨h.lda 0 _ rfl rfl, ?_⟩
      | refine ⟨_, h.lda 1 _ rfl rfl, ?_⟩
      | refine ⟨_, _, _, h.lda 1 _ rfl rfl, ?_⟩
      | refine ⟨h.lda 1 _ rfl rfl, ?_⟩
      | refine ⟨_, h.lda 2 _ rfl rfl, ?_⟩
      | refine ⟨_, _, _, h.lda 2 _ rfl rfl, ?_⟩
      | refine ⟨h.lda 2 _ rfl rfl, ?_⟩
      | refine ⟨_, h.lda 3 _ rfl rfl, ?_⟩
      | refine ⟨_, _, _, h.lda 3 _ rfl rfl, ?_⟩
      | refine ⟨h.lda 3 _ rfl rfl, ?_⟩
      | exact h.lda 0 _ rfl rfl
      | exact h.lda 1 _ rfl rfl
      | exact h.lda 2 _ rfl rfl
      | exact h.lda 3 _ rfl rfl
      | refine ⟨_, rfl, ?_⟩
      | refine ⟨_, _, rfl, ?_⟩
      | refine ⟨_, _, _, rfl, ?_⟩
      | refine ⟨_, _, _, _, _, _, _, _, _, _, _, _, rfl, ?_⟩
      | refine ⟨_, _, _, _, _, _, _, _, _, _, _, _, _, rfl, ?_⟩
      | refine ctt rfl ?_
      | refine cff rfl ?_
      | refine Meet.dup ?_
      | intro j
      | rw [ws]
      | simp only [ws, add_mk]
      | refine And.intro ?_ ?_)
  all_goals exact Ret.mk ⟨rfl, _, _, _, (h.bring 3 rfl).skip2⟩

theorem push_1 (s : Nat) (f : Nat) (many : Int) (a : Option Addr) (c : Nat) (h : Holds G w (all (stl s f many 8 a 1 c :: own t_api_Value 6 a 1 c [.int .i64 2, .int .i64 0, .string em, .slice none 0 0, .slice none 0 0, .slice none 0 0] :: L))) :
    Calls pg f_Paccum_State_push #[ptr s, vI 4 3] w (Ret fun v w' => v = .int .i64 0 ∧ ∃ b off c', Holds G w' (all (stl s f many 19 (some ⟨b, off, none⟩) 2 c' :: own t_api_Value 6 (some ⟨b, off, none⟩) 2 c' [.int .i64 2, .int .i64 0, .string em, .slice none 0 0, .slice none 0 0, .slice none 0 0, .int .i64 4, .int .i64 3, .string em, .slice none 0 0, .slice none 0 0, .slice none 0 0] :: L))) := by
  apply of_Paccum_State_push
  unfold c_Paccum_State_push
  repeat' (first
    | (refine New.at h (fun b w hh => ?_); clear h; have h := hh; clear hh)
    | (refine Drew.of h (fun w hh => ?_); clear h; have h := hh; clear hh)
    | (refine St.at h 0 _ rfl rfl rfl (fun w hh => ?_); clear h; have h := hh; clear hh; simp only [List.set_cons_zero, List.set_cons_succ] at h)
    | (refine St.at h 1 _ rfl rfl rfl (fun w hh => ?_); clear h; have h := hh; clear hh; simp only [List.set_cons_zero, List.set_cons_succ] at h)
    | (refine St.at h 2 _ rfl rfl rfl (fun w hh => ?_); clear h; have h := hh; clear hh; simp only [List.set_cons_zero, List.set_cons_succ] at h)
    | (refine CallR.of (own_one _ _ _ _ (.inr (.inr rfl)) h) ?_; rintro _ w ⟨rfl, h⟩)
    | (refine CallR.of (Itoa_small _ (by decide) h) ?_; rintro _ w ⟨rfl, h⟩)
    | (refine CallR.of (own_none h) ?_; rintro _ w ⟨rfl, h⟩)
    | refine ⟨_, h.lda 0 _ rfl rfl, ?_⟩
    | refine ⟨_, _, _, h.lda 0 _ rfl rfl, ?_⟩
    | refine ⟨h.lda 0 _ rfl rfl, ?_⟩
    | refine ⟨_, h.lda 1 _ rfl rfl, ?_⟩
    | refine ⟨_, _, _, h.lda 1 _ rfl rfl, ?_⟩
    | refine ⟨h.lda 1 _ rfl rfl, ?_⟩
    | refine ⟨_, h.lda 2 _ rfl rfl, ?_⟩
    | refine ⟨_, _, _, h.lda 2 _ rfl rfl, ?_⟩
    | refine ⟨h.lda 2 _ rfl rfl, ?_⟩
    | exact h.lda 0 _ rfl rfl
    | exact h.lda 1 _ rfl rfl
    | exact h.lda 2 _ rfl rfl
    | refine ⟨_, rfl, ?_⟩
    | refine ⟨_, _, rfl, ?_⟩
    | refine ⟨_, _, _, rfl, ?_⟩
    | refine ⟨_, _, _, _, _, _, _, _, _, _, _, _, rfl, ?_⟩
    | refine ⟨_, _, _, _, _, _, _, _, _, _, _, _, _, rfl, ?_⟩
    | refine ctt rfl ?_
    | refine cff rfl ?_
    | refine Meet.dup ?_
    | intro j
    | rw [ws]
    | simp only [ws, add_mk]
    | refine And.intro ?_ ?_)
  all_goals
    repeat' (first
      | (refine New.at h (fun b w hh => ?_); clear h; have h := hh; clear hh)
      | (refine Drew.of h (fun w hh => ?_); clear h; have h := hh; clear hh)
      | (refine St.at h 0 _ rfl rfl rfl (fun w hh => ?_); clear h; have h := hh; clear hh; simp only [List.set_cons_zero, List.set_cons_succ] at h)
      | (refine St.at h 1 _ rfl rfl rfl (fun w hh => ?_); clear h; have h := hh; clear hh; simp only [List.set_cons_zero, List.set_cons_succ] at h)
      | (refine St.at h 2 _ rfl rfl rfl (fun w hh => ?_); clear h; have h := hh; clear hh; simp only [List.set_cons_zero, List.set_cons_succ] at h)
      | (refine St.at h 3 _ rfl rfl rfl (fun w hh => ?_); clear h; have h := hh; clear hh; simp only [List.set_cons_zero, List.set_cons_succ] at h)
      | (refine CallR.of (Copy_num _ _ h) ?_; rintro _ w ⟨rfl, h⟩)
      | (refine append_at tok rfl (.inl ⟨_, rfl⟩) rfl rfl rfl h 3 rfl (Src.blk_at h 0 rfl rfl rfl) (by decide) (by decide) (fun a' c' w h => ?_); simp only [List.eraseIdx_cons_zero, List.eraseIdx_cons_succ] at h; obtain ⟨fb, off, rfl⟩ := Holds.own_addr' h rfl; replace h : Holds G w (all (own t_api_Value 6 (some ⟨fb, off, none⟩) 2 c' [.int .i64 2, .int .i64 0, .string em, .slice none 0 0, .slice none 0 0, .slice none 0 0, .int .i64 0, .int .i64 0, .string em, .slice none 0 0, .slice none 0 0, .slice none 0 0] :: _ :: _ :: _ :: L)) := h)
      | (refine St.own_set h 0 0 rfl rfl rfl rfl (fun w hh => ?_); clear h; have h := hh; clear hh; simp only [List.set_cons_zero, List.set_cons_succ] at h)
      | (refine St.own_set h 0 1 rfl rfl rfl rfl (fun w hh => ?_); clear h; have h := hh; clear hh; simp only [List.set_cons_zero, List.set_cons_succ] at h)
      | (refine St.own_set h 0 2 rfl rfl rfl rfl (fun w hh => ?_); clear h; have h := hh; clear hh; simp only [List.set_cons_zero, List.set_cons_succ] at h)
      | (refine St.own_set h 0 3 rfl rfl rfl rfl (fun w hh => ?_); clear h; have h := hh; clear hh; simp only [List.set_cons_zero, List.set_cons_succ] at h)
      | (refine St.own_set h 0 4 rfl rfl rfl rfl (fun w hh => ?_); clear h; have h := hh; clear hh; simp only [List.set_cons_zero, List.set_cons_succ] at h)
      | (refine St.own_set h 0 5 rfl rfl rfl rfl (fun w hh => ?_); clear h; have h := hh; clear hh; simp only [List.set_cons_zero, List.set_cons_succ] at h)
      | (refine St.own_set h 0 6 rfl rfl rfl rfl (fun w hh => ?_); clear h; have h := hh; clear hh; simp only [List.set_cons_zero, List.set_cons_succ] at h)
      | (refine St.own_set h 0 7 rfl rfl rfl rfl (fun w hh => ?_); clear h; have h := hh; clear hh; simp only [List.set_cons_zero, List.set_cons_succ] at h)
      | (refine St.own_set h 0 8 rfl rfl rfl rfl (fun w hh => ?_); clear h; have h := hh; clear hh; simp only [List.set_cons_zero, List.set_cons_succ] at h)
      | (refine St.own_set h 0 9 rfl rfl rfl rfl (fun w hh => ?_); clear h; have h := hh; clear hh; simp only [List.set_cons_zero, List.set_cons_succ] at h)
      | (refine St.own_set h 0 10 rfl rfl rfl rfl (fun w hh => ?_); clear h; have h := hh; clear hh; simp only [List.set_cons_zero, List.set_cons_succ] at h)
      | (refine St.own_set h 0 11 rfl rfl rfl rfl (fun w hh => ?_); clear h; have h := hh; clear hh; simp only [List.set_cons_zero, List.set_cons_succ] at h)
      | refine ⟨⟨by decide, by decide⟩, ?_⟩
      | refine ⟨_, h.lda 0 _ rfl rfl, ?_⟩
      | refine ⟨_, _, _, h.lda 0 _ rfl rfl, ?_⟩
      | refine ⟨h.lda 0 _ rfl rfl, ?_⟩
      | refine ⟨_, h.lda 1 _ rfl rfl, ?_⟩
      | refine ⟨_, _, _, h.lda 1 _ rfl rfl, ?_⟩
      | refine ⟨h.lda 1 _ rfl rfl, ?_⟩
      | refine ⟨_, h.lda 2 _ rfl rfl, ?_⟩
      | refine ⟨_, _, _, h.lda 2 _ rfl rfl, ?_⟩
      | refine ⟨h.lda 2 _ rfl rfl, ?_⟩
      | refine ⟨_, h.lda 3 _ rfl rfl, ?_⟩
      | refine ⟨_, _, _, h.lda 3 _ rfl rfl, ?_⟩
      | refine ⟨h.lda 3 _ rfl rfl, ?_⟩
      | exact h.lda 0 _ rfl rfl
      | exact h.lda 1 _ rfl rfl
      | exact h.lda 2 _ rfl rfl
      | exact h.lda 3 _ rfl rfl
      | refine ⟨_, rfl, ?_⟩
      | refine ⟨_, _, rfl, ?_⟩
      | refine ⟨_, _, _, rfl, ?_⟩
      | refine ⟨_, _, _, _, _, _, _, _, _, _, _, _, rfl, ?_⟩
      | refine ⟨_, _, _, _, _, _, _, _, _, _, _, _, _, rfl, ?_⟩
      | refine ctt rfl ?_
      | refine cff rfl ?_
      | refine Meet.dup ?_
      | intro j
      | rw [ws]
      | simp only [ws, add_mk]
      | refine And.intro ?_ ?_)
  all_goals exact Ret.mk ⟨rfl, _, _, _, (h.bring 3 rfl).skip2⟩

theorem push_2 (s : Nat) (f : Nat) (many : Int) (a : Option Addr) (c : Nat) (h : Holds G w (all (stl s f many 19 a 2 c :: own t_api_Value 6 a 2 c [.int .i64 2, .int .i64 0, .string em, .slice none 0 0, .slice none 0 0, .slice none 0 0, .int .i64 4, .int .i64 3, .string em, .slice none 0 0, .slice none 0 0, .slice none 0 0] :: L))) :
    Calls pg f_Paccum_State_push #[ptr s, vI 3 3] w (Ret fun v w' => v = .int .i64 0 ∧ ∃ b off c', Holds G w' (all (stl s f many 26 (some ⟨b, off, none⟩) 3 c' :: own t_api_Value 6 (some ⟨b, off, none⟩) 3 c' [.int .i64 2, .int .i64 0, .string em, .slice none 0 0, .slice none 0 0, .slice none 0 0, .int .i64 4, .int .i64 3, .string em, .slice none 0 0, .slice none 0 0, .slice none 0 0, .int .i64 3, .int .i64 3, .string em, .slice none 0 0, .slice none 0 0, .slice none 0 0] :: L))) := by
  apply of_Paccum_State_push
  unfold c_Paccum_State_push
  repeat' (first
    | (refine New.at h (fun b w hh => ?_); clear h; have h := hh; clear hh)
    | (refine Drew.of h (fun w hh => ?_); clear h; have h := hh; clear hh)
    | (refine St.at h 0 _ rfl rfl rfl (fun w hh => ?_); clear h; have h := hh; clear hh; simp only [List.set_cons_zero, List.set_cons_succ] at h)
    | (refine St.at h 1 _ rfl rfl rfl (fun w hh => ?_); clear h; have h := hh; clear hh; simp only [List.set_cons_zero, List.set_cons_succ] at h)
    | (refine St.at h 2 _ rfl rfl rfl (fun w hh => ?_); clear h; have h := hh; clear hh; simp only [List.set_cons_zero, List.set_cons_succ] at h)
    | (refine CallR.of (own_one _ _ _ _ (.inr (.inl ⟨rfl, rfl⟩)) h) ?_; rintro _ w ⟨rfl, h⟩)
    | (refine CallR.of (Itoa_small _ (by decide) h) ?_; rintro _ w ⟨rfl, h⟩)
    | (refine CallR.of (own_none h) ?_; rintro _ w ⟨rfl, h⟩)
    | refine ⟨_, h.lda 0 _ rfl rfl, ?_⟩
    | refine ⟨_, _, _, h.lda 0 _ rfl rfl, ?_⟩
    | refine ⟨h.lda 0 _ rfl rfl, ?_⟩
    | refine ⟨_, h.lda 1 _ rfl rfl, ?_⟩
    | refine ⟨_, _, _, h.lda 1 _ rfl rfl, ?_⟩
    | refine ⟨h.lda 1 _ rfl rfl, ?_⟩
    | refine ⟨_, h.lda 2 _ rfl rfl, ?_⟩
    | refine ⟨_, _, _, h.lda 2 _ rfl rfl, ?_⟩
    | refine ⟨h.lda 2 _ rfl rfl, ?_⟩
    | exact h.lda 0 _ rfl rfl
    | exact h.lda 1 _ rfl rfl
    | exact h.lda 2 _ rfl rfl
    | refine ⟨_, rfl, ?_⟩
    | refine ⟨_, _, rfl, ?_⟩
    | refine ⟨_, _, _, rfl, ?_⟩
    | refine ⟨_, _, _, _, _, _, _, _, _, _, _, _, rfl, ?_⟩
    | refine ⟨_, _, _, _, _, _, _, _, _, _, _, _, _, rfl, ?_⟩
    | refine ctt rfl ?_
    | refine cff rfl ?_
    | refine Meet.dup ?_
    | intro j
    | rw [ws]
    | simp only [ws, add_mk]
    | refine And.intro ?_ ?_)
  all_goals
    repeat' (first
      | (refine New.at h (fun b w hh => ?_); clear h; have h := hh; clear hh)
      | (refine Drew.of h (fun w hh => ?_); clear h; have h := hh; clear hh)
      | (refine St.at h 0 _ rfl rfl rfl (fun w hh => ?_); clear h; have h := hh; clear hh; simp only [List.set_cons_zero, List.set_cons_succ] at h)
      | (refine St.at h 1 _ rfl rfl rfl (fun w hh => ?_); clear h; have h := hh; clear hh; simp only [List.set_cons_zero, List.set_cons_succ] at h)
      | (refine St.at h 2 _ rfl rfl rfl (fun w hh => ?_); clear h; have h := hh; clear hh; simp only [List.set_cons_zero, List.set_cons_succ] at h)
      | (refine St.at h 3 _ rfl rfl rfl (fun w hh => ?_); clear h; have h := hh; clear hh; simp only [List.set_cons_zero, List.set_cons_succ] at h)
      | (refine CallR.of (Copy_num _ _ h) ?_; rintro _ w ⟨rfl, h⟩)
      | (refine append_at tok rfl (.inl ⟨_, rfl⟩) rfl rfl rfl h 3 rfl (Src.blk_at h 0 rfl rfl rfl) (by decide) (by decide) (fun a' c' w h => ?_); simp only [List.eraseIdx_cons_zero, List.eraseIdx_cons_succ] at h; obtain ⟨fb, off, rfl⟩ := Holds.own_addr' h rfl; replace h : Holds G w (all (own t_api_Value 6 (some ⟨fb, off, none⟩) 3 c' [.int .i64 2, .int .i64 0, .string em, .slice none 0 0, .slice none 0 0, .slice none 0 0, .int .i64 4, .int .i64 3, .string em, .slice none 0 0, .slice none 0 0, .slice none 0 0, .int .i64 0, .int .i64 0, .string em, .slice none 0 0, .slice none 0 0, .slice none 0 0] :: _ :: _ :: _ :: L)) := h)
      | (refine St.own_set h 0 0 rfl rfl rfl rfl (fun w hh => ?_); clear h; have h := hh; clear hh; simp only [List.set_cons_zero, List.set_cons_succ] at h)
      | (refine St.own_set h 0 1 rfl rfl rfl rfl (fun w hh => ?_); clear h; have h := hh; clear hh; simp only [List.set_cons_zero, List.set_cons_succ] at h)
      | (refine St.own_set h 0 2 rfl rfl rfl rfl (fun w hh => ?_); clear h; have h := hh; clear hh; simp only [List.set_cons_zero, List.set_cons_succ] at h)
      | (refine St.own_set h 0 3 rfl rfl rfl rfl (fun w hh => ?_); clear h; have h := hh; clear hh; simp only [List.set_cons_zero, List.set_cons_succ] at h)
      | (refine St.own_set h 0 4 rfl rfl rfl rfl (fun w hh => ?_); clear h; have h := hh; clear hh; simp only [List.set_cons_zero, List.set_cons_succ] at h)
      | (refine St.own_set h 0 5 rfl rfl rfl rfl (fun w hh => ?_); clear h; have h := hh; clear hh; simp only [List.set_cons_zero, List.set_cons_succ] at h)
      | (refine St.own_set h 0 6 rfl rfl rfl rfl (fun w hh => ?_); clear h; have h := hh; clear hh; simp only [List.set_cons_zero, List.set_cons_succ] at h)
      | (refine St.own_set h 0 7 rfl rfl rfl rfl (fun w hh => ?_); clear h; have h := hh; clear hh; simp only [List.set_cons_zero, List.set_cons_succ] at h)
      | (refine St.own_set h 0 8 rfl rfl rfl rfl (fun w hh => ?_); clear h; have h := hh; clear hh; simp only [List.set_cons_zero, List.set_cons_succ] at h)
      | (refine St.own_set h 0 9 rfl rfl rfl rfl (fun w hh => ?_); clear h; have h := hh; clear hh; simp only [List.set_cons_zero, List.set_cons_succ] at h)
      | (refine St.own_set h 0 10 rfl rfl rfl rfl (fun w hh => ?_); clear h; have h := hh; clear hh; simp only [List.set_cons_zero, List.set_cons_succ] at h)
      | (refine St.own_set h 0 11 rfl rfl rfl rfl (fun w hh => ?_); clear h; have h := hh; clear hh; simp only [List.set_cons_zero, List.set_cons_succ] at h)
      | (refine St.own_set h 0 12 rfl rfl rfl rfl (fun w hh => ?_); clear h; have h := hh; clear hh; simp only [List.set_cons_zero, List.set_cons_succ] at h)
      | (refine St.own_set h 0 13 rfl rfl rfl rfl (fun w hh => ?_); clear h; have h := hh; clear hh; simp only [List.set_cons_zero, List.set_cons_succ] at h)
      | (refine St.own_set h 0 14 rfl rfl rfl rfl (fun w hh => ?_); clear h; have h := hh; clear hh; simp only [List.set_cons_zero, List.set_cons_succ] at h)
      | (refine St.own_set h 0 15 rfl rfl rfl rfl (fun w hh => ?_); clear h; have h := hh; clear hh; simp only [List.set_cons_zero, List.set_cons_succ] at h)
      | (refine St.own_set h 0 16 rfl rfl rfl rfl (fun w hh => ?_); clear h; have h := hh; clear hh; simp only [List.set_cons_zero, List.set_cons_succ] at h)
      | (refine St.own_set h 0 17 rfl rfl rfl rfl (fun w hh => ?_); clear h; have h := hh; clear hh; simp only [List.set_cons_zero, List.set_cons_succ] at h)
      | refine ⟨⟨by decide, by decide⟩, ?_⟩
      | refine ⟨_, h.lda 0 _ rfl rfl, ?_⟩
      | refine ⟨_, _, _, h.lda 0 _ rfl rfl, ?_⟩
      | refine ⟨h.lda 0 _ rfl rfl, ?_⟩
      | refine ⟨_, h.lda 1 _ rfl rfl, ?_⟩
      | refine ⟨_, _, _, h.lda 1 _ rfl rfl, ?_⟩
      | refine ⟨h.lda 1 _ rfl rfl, ?_⟩
      | refine ⟨_, h.lda 2 _ rfl rfl, ?_⟩
      | refine ⟨_, _, _, h.lda 2 _ rfl rfl, ?_⟩
      | refine ⟨h.lda 2 _ rfl rfl, ?_⟩
      | refine ⟨_, h.lda 3 _ rfl rfl, ?_⟩
      | refine ⟨_, _, _, h.lda 3 _ rfl rfl, ?_⟩
      | refine ⟨h.lda 3 _ rfl rfl, ?_⟩
      | exact h.lda 0 _ rfl rfl
      | exact h.lda 1 _ rfl rfl
      | exact h.lda 2 _ rfl rfl
      | exact h.lda 3 _ rfl rfl
      | refine ⟨_, rfl, ?_⟩
      | refine ⟨_, _, rfl, ?_⟩
      | refine ⟨_, _, _, rfl, ?_⟩
      | refine ⟨_, _, _, _, _, _, _, _, _, _, _, _, rfl, ?_⟩
      | refine ⟨_, _, _, _, _, _, _, _, _, _, _, _, _, rfl, ?_⟩
      | refine ctt rfl ?_
      | refine cff rfl ?_
      | refine Meet.dup ?_
      | intro j
      | rw [ws]
      | simp only [ws, add_mk]
      | refine And.intro ?_ ?_)
  all_goals exact Ret.mk ⟨rfl, _, _, _, (h.bring 3 rfl).skip2⟩

end
end Go.Proofs.Sd
