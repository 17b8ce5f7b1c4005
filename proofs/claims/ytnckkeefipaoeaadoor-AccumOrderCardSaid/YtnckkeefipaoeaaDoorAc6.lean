/- Copies of lists; push and set. -/
import Derived.Test.YtnckkeefipaoeaaDoorAc5
set_option linter.unusedVariables false
set_option linter.unusedSimpArgs false
set_option maxRecDepth 100000
set_option maxHeartbeats 4000000
namespace Go.Proofs.Sd
open Go Go.Eng Go.Eng.HP Go.RowKit Go.Proofs
attribute [local irreducible] St New Drew Prim PrimU CallR CallV CallI CallX Meet Eng.Loop withSome HP.blk HP.mp Calls Holds Ret

section
variable {G : Gh} {w : World} {L : List HP}

theorem Clone_values (b off m c : Nat) (cs : List Value) (hm : 0 < m) (hm2 : m ≤ 10) (ho : cs.all oneCell = true) (h : Holds G w (all (own t_api_Value 6 (some ⟨b, off, none⟩) m c cs :: L))) :
    Calls pg f_slices_Clone_Sapi_Value_api_Value #[.slice (some ⟨b, off, none⟩) m c] w
      (Ret fun v w' => ∃ b' off' c', v = .slice (some ⟨b', off', none⟩) m c' ∧ Holds G w' (all (own t_api_Value 6 (some ⟨b', off', none⟩) m c' cs :: own t_api_Value 6 (some ⟨b, off, none⟩) m c cs :: L))) := by
  apply of_slices_Clone_Sapi_Value_api_Value
  unfold c_slices_Clone_Sapi_Value_api_Value
  refine cff rfl ?_
  refine New.at h (fun b0 w h => ?_)
  have hcl : cs.length = m * 6 := (Holds.own_len (h.bring 1 rfl)).1
  replace h := Holds.own_of (sz := 6) (n := 0) h rfl
  refine append_at tok rfl (.inl ⟨_, rfl⟩) rfl rfl rfl h 0 rfl (Src.own_at h 1 rfl ho) (by show (2 * (0 + m) + 1000) * 104 ≤ 2 ^ 48; omega) (by omega) (fun a' c' w h => ?_)
  replace h : Holds G w (all (own t_api_Value 6 a' (0 + m) c' cs :: own t_api_Value 6 (some ⟨b, off, none⟩) m c cs :: L)) := h
  rw [Nat.zero_add] at h ⊢
  cases cs with
  | nil => simp at hcl; omega
  | cons v cs =>
    obtain ⟨b', off', rfl⟩ := h.own_addr
    exact ⟨_, _, _, rfl, Ret.mk ⟨_, _, _, rfl, h⟩⟩

theorem Copy_none (h : Holds G w (all L)) : Calls pg f_bson_Copy #[vL none 0 0] w (Ret fun v w' => v = vL none 0 0 ∧ Holds G w' (all L)) := by
  apply of_bson_Copy
  unfold c_bson_Copy
  repeat' (first
    | (refine New.at h (fun b w hh => ?_); clear h; have h := hh; clear hh)
    | (refine Drew.of h (fun w hh => ?_); clear h; have h := hh; clear hh)
    | (refine St.at h 0 _ rfl rfl rfl (fun w hh => ?_); clear h; have h := hh; clear hh; simp only [List.set_cons_zero, List.set_cons_succ] at h)
    | (refine St.at h 1 _ rfl rfl rfl (fun w hh => ?_); clear h; have h := hh; clear hh; simp only [List.set_cons_zero, List.set_cons_succ] at h)
    | (refine St.at h 2 _ rfl rfl rfl (fun w hh => ?_); clear h; have h := hh; clear hh; simp only [List.set_cons_zero, List.set_cons_succ] at h)
    | (refine St.at h 3 _ rfl rfl rfl (fun w hh => ?_); clear h; have h := hh; clear hh; simp only [List.set_cons_zero, List.set_cons_succ] at h)
    | (refine CallR.of (bytes_Clone_nil h) ?_; rintro _ w ⟨rfl, h⟩)
    | (refine CallR.of (fields_Clone_nil h) ?_; rintro _ w ⟨rfl, h⟩)
    | (refine CallR.of (values_Clone_nil h) ?_; rintro _ w ⟨rfl, h⟩)
    | refine Loop.exit (fun X => ?_)
    | refine ⟨_, h.lda 0 _ rfl rfl, ?_⟩
    | refine ⟨_, _, _, h.lda 0 _ rfl rfl, ?_⟩
    | refine ⟨h.lda 0 _ rfl rfl, ?_⟩
    | refine ⟨_, h.lda 1 _ rfl rfl, ?_⟩
    | refine ⟨_, _, _, h.lda 1 _ rfl rfl, ?_⟩
    | refine ⟨h.lda 1 _ rfl rfl, ?_⟩
    | refine ⟨_, h.lda 2 _ rfl rfl, ?_⟩
    | refine ⟨_, _, _, h.lda 2 _ rfl rfl, ?_⟩
    | refine ⟨h.lda 2 _ rfl rfl, ?_⟩
    | refine ⟨_, h.lda 3 _ rfl rfl, ?_⟩
    | refine ⟨_, _, _, h.lda 3 _ rfl rfl, ?_⟩
    | refine ⟨h.lda 3 _ rfl rfl, ?_⟩
    | exact h.lda 0 _ rfl rfl
    | exact h.lda 1 _ rfl rfl
    | exact h.lda 2 _ rfl rfl
    | exact h.lda 3 _ rfl rfl
    | refine ⟨_, rfl, ?_⟩
    | refine ⟨_, _, rfl, ?_⟩
    | refine ⟨_, _, _, rfl, ?_⟩
    | refine ⟨_, _, _, _, _, _, _, _, _, _, _, _, rfl, ?_⟩
    | refine ⟨_, _, _, _, _, _, _, _, _, _, _, _, _, rfl, ?_⟩
    | refine ctt rfl ?_
    | refine cff rfl ?_
    | refine Meet.dup ?_
    | intro j
    | rw [ws]
    | simp only [ws, add_mk]
    | refine And.intro ?_ ?_)
  exact Ret.mk ⟨rfl, h.tail.tail⟩

theorem Copy_2 (b off c : Nat) (k0 n0 k1 n1 : Int) (h : Holds G w (all (own t_api_Value 6 (some ⟨b, off, none⟩) 2 c [.int .i64 k0, .int .i64 n0, .string em, .slice none 0 0, .slice none 0 0, .slice none 0 0, .int .i64 k1, .int .i64 n1, .string em, .slice none 0 0, .slice none 0 0, .slice none 0 0] :: L))) :
    Calls pg f_bson_Copy #[vL (some ⟨b, off, none⟩) 2 c] w
      (Ret fun v w' => ∃ b' off' c', v = vL (some ⟨b', off', none⟩) 2 c' ∧ Holds G w' (all (own t_api_Value 6 (some ⟨b', off', none⟩) 2 c' [.int .i64 k0, .int .i64 n0, .string em, .slice none 0 0, .slice none 0 0, .slice none 0 0, .int .i64 k1, .int .i64 n1, .string em, .slice none 0 0, .slice none 0 0, .slice none 0 0] :: own t_api_Value 6 (some ⟨b, off, none⟩) 2 c [.int .i64 k0, .int .i64 n0, .string em, .slice none 0 0, .slice none 0 0, .slice none 0 0, .int .i64 k1, .int .i64 n1, .string em, .slice none 0 0, .slice none 0 0, .slice none 0 0] :: L))) := by
  apply of_bson_Copy
  unfold c_bson_Copy
  repeat' (first
    | (refine New.at h (fun b w hh => ?_); clear h; have h := hh; clear hh)
    | (refine Drew.of h (fun w hh => ?_); clear h; have h := hh; clear hh)
    | (refine St.at h 0 _ rfl rfl rfl (fun w hh => ?_); clear h; have h := hh; clear hh; simp only [List.set_cons_zero, List.set_cons_succ] at h)
    | (refine St.at h 1 _ rfl rfl rfl (fun w hh => ?_); clear h; have h := hh; clear hh; simp only [List.set_cons_zero, List.set_cons_succ] at h)
    | (refine CallR.of (bytes_Clone_nil h) ?_; rintro _ w ⟨rfl, h⟩)
    | (refine CallR.of (fields_Clone_nil h) ?_; rintro _ w ⟨rfl, h⟩)
    | refine ⟨_, h.lda 0 _ rfl rfl, ?_⟩
    | refine ⟨_, _, _, h.lda 0 _ rfl rfl, ?_⟩
    | refine ⟨h.lda 0 _ rfl rfl, ?_⟩
    | refine ⟨_, h.lda 1 _ rfl rfl, ?_⟩
    | refine ⟨_, _, _, h.lda 1 _ rfl rfl, ?_⟩
    | refine ⟨h.lda 1 _ rfl rfl, ?_⟩
    | exact h.lda 0 _ rfl rfl
    | exact h.lda 1 _ rfl rfl
    | refine ⟨_, rfl, ?_⟩
    | refine ⟨_, _, rfl, ?_⟩
    | refine ⟨_, _, _, rfl, ?_⟩
    | refine ⟨_, _, _, _, _, _, _, _, _, _, _, _, rfl, ?_⟩
    | refine ⟨_, _, _, _, _, _, _, _, _, _, _, _, _, rfl, ?_⟩
    | refine ctt rfl ?_
    | refine cff rfl ?_
    | refine Meet.dup ?_
    | intro j
    | rw [ws]
    | simp only [ws, add_mk]
    | refine And.intro ?_ ?_)
  refine Loop.exit (fun X => ?_)
  repeat' (first
    | (refine New.at h (fun b w hh => ?_); clear h; have h := hh; clear hh)
    | (refine Drew.of h (fun w hh => ?_); clear h; have h := hh; clear hh)
    | (refine St.at h 0 _ rfl rfl rfl (fun w hh => ?_); clear h; have h := hh; clear hh; simp only [List.set_cons_zero, List.set_cons_succ] at h)
    | (refine St.at h 1 _ rfl rfl rfl (fun w hh => ?_); clear h; have h := hh; clear hh; simp only [List.set_cons_zero, List.set_cons_succ] at h)
    | (refine St.at h 2 _ rfl rfl rfl (fun w hh => ?_); clear h; have h := hh; clear hh; simp only [List.set_cons_zero, List.set_cons_succ] at h)
    | (refine St.at h 3 _ rfl rfl rfl (fun w hh => ?_); clear h; have h := hh; clear hh; simp only [List.set_cons_zero, List.set_cons_succ] at h)
    | (refine CallR.of (Clone_values _ _ _ _ _ (by decide) (by decide) rfl (h.bring 2 rfl)) ?_; rintro _ w ⟨b', off', c', rfl, h⟩; simp only [List.eraseIdx_cons_zero, List.eraseIdx_cons_succ] at h)
    | refine ⟨_, h.lda 0 _ rfl rfl, ?_⟩
    | refine ⟨_, _, _, h.lda 0 _ rfl rfl, ?_⟩
    | refine ⟨h.lda 0 _ rfl rfl, ?_⟩
    | refine ⟨_, h.lda 1 _ rfl rfl, ?_⟩
    | refine ⟨_, _, _, h.lda 1 _ rfl rfl, ?_⟩
    | refine ⟨h.lda 1 _ rfl rfl, ?_⟩
    | refine ⟨_, h.lda 2 _ rfl rfl, ?_⟩
    | refine ⟨_, _, _, h.lda 2 _ rfl rfl, ?_⟩
    | refine ⟨h.lda 2 _ rfl rfl, ?_⟩
    | refine ⟨_, h.lda 3 _ rfl rfl, ?_⟩
    | refine ⟨_, _, _, h.lda 3 _ rfl rfl, ?_⟩
    | refine ⟨h.lda 3 _ rfl rfl, ?_⟩
    | exact h.lda 0 _ rfl rfl
    | exact h.lda 1 _ rfl rfl
    | exact h.lda 2 _ rfl rfl
    | exact h.lda 3 _ rfl rfl
    | refine ⟨_, rfl, ?_⟩
    | refine ⟨_, _, rfl, ?_⟩
    | refine ⟨_, _, _, rfl, ?_⟩
    | refine ⟨_, _, _, _, _, _, _, _, _, _, _, _, rfl, ?_⟩
    | refine ⟨_, _, _, _, _, _, _, _, _, _, _, _, _, rfl, ?_⟩
    | refine ctt rfl ?_
    | refine cff rfl ?_
    | refine Meet.dup ?_
    | intro j
    | rw [ws]
    | simp only [ws, add_mk]
    | refine And.intro ?_ ?_)
  refine Loop.start (fun X hX => ?_)
  refine hX _ _ ?_
  repeat' (first
    | (refine New.at h (fun b w hh => ?_); clear h; have h := hh; clear hh)
    | (refine Drew.of h (fun w hh => ?_); clear h; have h := hh; clear hh)
    | (refine St.at h 0 _ rfl rfl rfl (fun w hh => ?_); clear h; have h := hh; clear hh; simp only [List.set_cons_zero, List.set_cons_succ] at h)
    | refine ⟨_, h.own_rd 0 0 rfl rfl rfl, ?_⟩
    | refine ⟨_, _, _, h.own_rd 0 0 rfl rfl rfl, ?_⟩
    | exact h.own_rd 0 0 rfl rfl rfl
    | refine ⟨_, h.own_rd 0 1 rfl rfl rfl, ?_⟩
    | refine ⟨_, _, _, h.own_rd 0 1 rfl rfl rfl, ?_⟩
    | exact h.own_rd 0 1 rfl rfl rfl
    | refine ⟨_, h.own_rd 0 2 rfl rfl rfl, ?_⟩
    | refine ⟨_, _, _, h.own_rd 0 2 rfl rfl rfl, ?_⟩
    | exact h.own_rd 0 2 rfl rfl rfl
    | refine ⟨_, h.own_rd 0 3 rfl rfl rfl, ?_⟩
    | refine ⟨_, _, _, h.own_rd 0 3 rfl rfl rfl, ?_⟩
    | exact h.own_rd 0 3 rfl rfl rfl
    | refine ⟨_, h.own_rd 0 4 rfl rfl rfl, ?_⟩
    | refine ⟨_, _, _, h.own_rd 0 4 rfl rfl rfl, ?_⟩
    | exact h.own_rd 0 4 rfl rfl rfl
    | refine ⟨_, h.own_rd 0 5 rfl rfl rfl, ?_⟩
    | refine ⟨_, _, _, h.own_rd 0 5 rfl rfl rfl, ?_⟩
    | exact h.own_rd 0 5 rfl rfl rfl
    | refine ⟨_, h.own_rd 0 6 rfl rfl rfl, ?_⟩
    | refine ⟨_, _, _, h.own_rd 0 6 rfl rfl rfl, ?_⟩
    | exact h.own_rd 0 6 rfl rfl rfl
    | refine ⟨_, h.own_rd 0 7 rfl rfl rfl, ?_⟩
    | refine ⟨_, _, _, h.own_rd 0 7 rfl rfl rfl, ?_⟩
    | exact h.own_rd 0 7 rfl rfl rfl
    | refine ⟨_, h.own_rd 0 8 rfl rfl rfl, ?_⟩
    | refine ⟨_, _, _, h.own_rd 0 8 rfl rfl rfl, ?_⟩
    | exact h.own_rd 0 8 rfl rfl rfl
    | refine ⟨_, h.own_rd 0 9 rfl rfl rfl, ?_⟩
    | refine ⟨_, _, _, h.own_rd 0 9 rfl rfl rfl, ?_⟩
    | exact h.own_rd 0 9 rfl rfl rfl
    | refine ⟨_, h.own_rd 0 10 rfl rfl rfl, ?_⟩
    | refine ⟨_, _, _, h.own_rd 0 10 rfl rfl rfl, ?_⟩
    | exact h.own_rd 0 10 rfl rfl rfl
    | refine ⟨_, h.own_rd 0 11 rfl rfl rfl, ?_⟩
    | refine ⟨_, _, _, h.own_rd 0 11 rfl rfl rfl, ?_⟩
    | exact h.own_rd 0 11 rfl rfl rfl
    | refine ⟨by decide, ?_⟩
    | refine ⟨_, h.lda 0 _ rfl rfl, ?_⟩
    | refine ⟨_, _, _, h.lda 0 _ rfl rfl, ?_⟩
    | refine ⟨h.lda 0 _ rfl rfl, ?_⟩
    | exact h.lda 0 _ rfl rfl
    | refine ⟨_, rfl, ?_⟩
    | refine ⟨_, _, rfl, ?_⟩
    | refine ⟨_, _, _, rfl, ?_⟩
    | refine ⟨_, _, _, _, _, _, _, _, _, _, _, _, rfl, ?_⟩
    | refine ⟨_, _, _, _, _, _, _, _, _, _, _, _, _, rfl, ?_⟩
    | refine ctt rfl ?_
    | refine cff rfl ?_
    | refine Meet.dup ?_
    | intro j
    | rw [ws]
    | simp only [ws, add_mk]
    | refine And.intro ?_ ?_)
  repeat' (first
    | (refine New.at h (fun b w hh => ?_); clear h; have h := hh; clear hh)
    | (refine Drew.of h (fun w hh => ?_); clear h; have h := hh; clear hh)
    | (refine St.at h 0 _ rfl rfl rfl (fun w hh => ?_); clear h; have h := hh; clear hh; simp only [List.set_cons_zero, List.set_cons_succ] at h)
    | (refine St.at h 1 _ rfl rfl rfl (fun w hh => ?_); clear h; have h := hh; clear hh; simp only [List.set_cons_zero, List.set_cons_succ] at h)
    | (refine St.at h 2 _ rfl rfl rfl (fun w hh => ?_); clear h; have h := hh; clear hh; simp only [List.set_cons_zero, List.set_cons_succ] at h)
    | (refine St.at h 3 _ rfl rfl rfl (fun w hh => ?_); clear h; have h := hh; clear hh; simp only [List.set_cons_zero, List.set_cons_succ] at h)
    | (refine St.at h 4 _ rfl rfl rfl (fun w hh => ?_); clear h; have h := hh; clear hh; simp only [List.set_cons_zero, List.set_cons_succ] at h)
    | (refine St.own_set h 1 0 rfl rfl rfl rfl (fun w hh => ?_); clear h; have h := hh; clear hh; simp only [List.set_cons_zero, List.set_cons_succ] at h)
    | (refine St.own_set h 1 1 rfl rfl rfl rfl (fun w hh => ?_); clear h; have h := hh; clear hh; simp only [List.set_cons_zero, List.set_cons_succ] at h)
    | (refine St.own_set h 1 2 rfl rfl rfl rfl (fun w hh => ?_); clear h; have h := hh; clear hh; simp only [List.set_cons_zero, List.set_cons_succ] at h)
    | (refine St.own_set h 1 3 rfl rfl rfl rfl (fun w hh => ?_); clear h; have h := hh; clear hh; simp only [List.set_cons_zero, List.set_cons_succ] at h)
    | (refine St.own_set h 1 4 rfl rfl rfl rfl (fun w hh => ?_); clear h; have h := hh; clear hh; simp only [List.set_cons_zero, List.set_cons_succ] at h)
    | (refine St.own_set h 1 5 rfl rfl rfl rfl (fun w hh => ?_); clear h; have h := hh; clear hh; simp only [List.set_cons_zero, List.set_cons_succ] at h)
    | (refine St.own_set h 1 6 rfl rfl rfl rfl (fun w hh => ?_); clear h; have h := hh; clear hh; simp only [List.set_cons_zero, List.set_cons_succ] at h)
    | (refine St.own_set h 1 7 rfl rfl rfl rfl (fun w hh => ?_); clear h; have h := hh; clear hh; simp only [List.set_cons_zero, List.set_cons_succ] at h)
    | (refine St.own_set h 1 8 rfl rfl rfl rfl (fun w hh => ?_); clear h; have h := hh; clear hh; simp only [List.set_cons_zero, List.set_cons_succ] at h)
    | (refine St.own_set h 1 9 rfl rfl rfl rfl (fun w hh => ?_); clear h; have h := hh; clear hh; simp only [List.set_cons_zero, List.set_cons_succ] at h)
    | (refine St.own_set h 1 10 rfl rfl rfl rfl (fun w hh => ?_); clear h; have h := hh; clear hh; simp only [List.set_cons_zero, List.set_cons_succ] at h)
    | (refine St.own_set h 1 11 rfl rfl rfl rfl (fun w hh => ?_); clear h; have h := hh; clear hh; simp only [List.set_cons_zero, List.set_cons_succ] at h)
    | (refine CallR.of (Copy_num _ _ h) ?_; rintro _ w ⟨rfl, h⟩)
    | refine ⟨by decide, ?_⟩
    | refine ⟨_, h.lda 0 _ rfl rfl, ?_⟩
    | refine ⟨_, _, _, h.lda 0 _ rfl rfl, ?_⟩
    | refine ⟨h.lda 0 _ rfl rfl, ?_⟩
    | refine ⟨_, h.lda 1 _ rfl rfl, ?_⟩
    | refine ⟨_, _, _, h.lda 1 _ rfl rfl, ?_⟩
    | refine ⟨h.lda 1 _ rfl rfl, ?_⟩
    | refine ⟨_, h.lda 2 _ rfl rfl, ?_⟩
    | refine ⟨_, _, _, h.lda 2 _ rfl rfl, ?_⟩
    | refine ⟨h.lda 2 _ rfl rfl, ?_⟩
    | refine ⟨_, h.lda 3 _ rfl rfl, ?_⟩
    | refine ⟨_, _, _, h.lda 3 _ rfl rfl, ?_⟩
    | refine ⟨h.lda 3 _ rfl rfl, ?_⟩
    | refine ⟨_, h.lda 4 _ rfl rfl, ?_⟩
    | refine ⟨_, _, _, h.lda 4 _ rfl rfl, ?_⟩
    | refine ⟨h.lda 4 _ rfl rfl, ?_⟩
    | exact h.lda 0 _ rfl rfl
    | exact h.lda 1 _ rfl rfl
    | exact h.lda 2 _ rfl rfl
    | exact h.lda 3 _ rfl rfl
    | exact h.lda 4 _ rfl rfl
    | refine ⟨_, rfl, ?_⟩
    | refine ⟨_, _, rfl, ?_⟩
    | refine ⟨_, _, _, rfl, ?_⟩
    | refine ⟨_, _, _, _, _, _, _, _, _, _, _, _, rfl, ?_⟩
    | refine ⟨_, _, _, _, _, _, _, _, _, _, _, _, _, rfl, ?_⟩
    | refine ctt rfl ?_
    | refine cff rfl ?_
    | refine Meet.dup ?_
    | intro j
    | rw [ws]
    | simp only [ws, add_mk]
    | refine And.intro ?_ ?_)
  refine hX _ _ ?_
  replace h := h.tail
  repeat' (first
    | (refine New.at h (fun b w hh => ?_); clear h; have h := hh; clear hh)
    | (refine Drew.of h (fun w hh => ?_); clear h; have h := hh; clear hh)
    | (refine St.at h 0 _ rfl rfl rfl (fun w hh => ?_); clear h; have h := hh; clear hh; simp only [List.set_cons_zero, List.set_cons_succ] at h)
    | refine ⟨_, h.own_rd 0 0 rfl rfl rfl, ?_⟩
    | refine ⟨_, _, _, h.own_rd 0 0 rfl rfl rfl, ?_⟩
    | exact h.own_rd 0 0 rfl rfl rfl
    | refine ⟨_, h.own_rd 0 1 rfl rfl rfl, ?_⟩
    | refine ⟨_, _, _, h.own_rd 0 1 rfl rfl rfl, ?_⟩
    | exact h.own_rd 0 1 rfl rfl rfl
    | refine ⟨_, h.own_rd 0 2 rfl rfl rfl, ?_⟩
    | refine ⟨_, _, _, h.own_rd 0 2 rfl rfl rfl, ?_⟩
    | exact h.own_rd 0 2 rfl rfl rfl
    | refine ⟨_, h.own_rd 0 3 rfl rfl rfl, ?_⟩
    | refine ⟨_, _, _, h.own_rd 0 3 rfl rfl rfl, ?_⟩
    | exact h.own_rd 0 3 rfl rfl rfl
    | refine ⟨_, h.own_rd 0 4 rfl rfl rfl, ?_⟩
    | refine ⟨_, _, _, h.own_rd 0 4 rfl rfl rfl, ?_⟩
    | exact h.own_rd 0 4 rfl rfl rfl
    | refine ⟨_, h.own_rd 0 5 rfl rfl rfl, ?_⟩
    | refine ⟨_, _, _, h.own_rd 0 5 rfl rfl rfl, ?_⟩
    | exact h.own_rd 0 5 rfl rfl rfl
    | refine ⟨_, h.own_rd 0 6 rfl rfl rfl, ?_⟩
    | refine ⟨_, _, _, h.own_rd 0 6 rfl rfl rfl, ?_⟩
    | exact h.own_rd 0 6 rfl rfl rfl
    | refine ⟨_, h.own_rd 0 7 rfl rfl rfl, ?_⟩
    | refine ⟨_, _, _, h.own_rd 0 7 rfl rfl rfl, ?_⟩
    | exact h.own_rd 0 7 rfl rfl rfl
    | refine ⟨_, h.own_rd 0 8 rfl rfl rfl, ?_⟩
    | refine ⟨_, _, _, h.own_rd 0 8 rfl rfl rfl, ?_⟩
    | exact h.own_rd 0 8 rfl rfl rfl
    | refine ⟨_, h.own_rd 0 9 rfl rfl rfl, ?_⟩
    | refine ⟨_, _, _, h.own_rd 0 9 rfl rfl rfl, ?_⟩
    | exact h.own_rd 0 9 rfl rfl rfl
    | refine ⟨_, h.own_rd 0 10 rfl rfl rfl, ?_⟩
    | refine ⟨_, _, _, h.own_rd 0 10 rfl rfl rfl, ?_⟩
    | exact h.own_rd 0 10 rfl rfl rfl
    | refine ⟨_, h.own_rd 0 11 rfl rfl rfl, ?_⟩
    | refine ⟨_, _, _, h.own_rd 0 11 rfl rfl rfl, ?_⟩
    | exact h.own_rd 0 11 rfl rfl rfl
    | refine ⟨by decide, ?_⟩
    | refine ⟨_, h.lda 0 _ rfl rfl, ?_⟩
    | refine ⟨_, _, _, h.lda 0 _ rfl rfl, ?_⟩
    | refine ⟨h.lda 0 _ rfl rfl, ?_⟩
    | exact h.lda 0 _ rfl rfl
    | refine ⟨_, rfl, ?_⟩
    | refine ⟨_, _, rfl, ?_⟩
    | refine ⟨_, _, _, rfl, ?_⟩
    | refine ⟨_, _, _, _, _, _, _, _, _, _, _, _, rfl, ?_⟩
    | refine ⟨_, _, _, _, _, _, _, _, _, _, _, _, _, rfl, ?_⟩
    | refine ctt rfl ?_
    | refine cff rfl ?_
    | refine Meet.dup ?_
    | intro j
    | rw [ws]
    | simp only [ws, add_mk]
    | refine And.intro ?_ ?_)
  repeat' (first
    | (refine New.at h (fun b w hh => ?_); clear h; have h := hh; clear hh)
    | (refine Drew.of h (fun w hh => ?_); clear h; have h := hh; clear hh)
    | (refine St.at h 0 _ rfl rfl rfl (fun w hh => ?_); clear h; have h := hh; clear hh; simp only [List.set_cons_zero, List.set_cons_succ] at h)
    | (refine St.at h 1 _ rfl rfl rfl (fun w hh => ?_); clear h; have h := hh; clear hh; simp only [List.set_cons_zero, List.set_cons_succ] at h)
    | (refine St.at h 2 _ rfl rfl rfl (fun w hh => ?_); clear h; have h := hh; clear hh; simp only [List.set_cons_zero, List.set_cons_succ] at h)
    | (refine St.at h 3 _ rfl rfl rfl (fun w hh => ?_); clear h; have h := hh; clear hh; simp only [List.set_cons_zero, List.set_cons_succ] at h)
    | (refine St.at h 4 _ rfl rfl rfl (fun w hh => ?_); clear h; have h := hh; clear hh; simp only [List.set_cons_zero, List.set_cons_succ] at h)
    | (refine St.own_set h 1 0 rfl rfl rfl rfl (fun w hh => ?_); clear h; have h := hh; clear hh; simp only [List.set_cons_zero, List.set_cons_succ] at h)
    | (refine St.own_set h 1 1 rfl rfl rfl rfl (fun w hh => ?_); clear h; have h := hh; clear hh; simp only [List.set_cons_zero, List.set_cons_succ] at h)
    | (refine St.own_set h 1 2 rfl rfl rfl rfl (fun w hh => ?_); clear h; have h := hh; clear hh; simp only [List.set_cons_zero, List.set_cons_succ] at h)
    | (refine St.own_set h 1 3 rfl rfl rfl rfl (fun w hh => ?_); clear h; have h := hh; clear hh; simp only [List.set_cons_zero, List.set_cons_succ] at h)
    | (refine St.own_set h 1 4 rfl rfl rfl rfl (fun w hh => ?_); clear h; have h := hh; clear hh; simp only [List.set_cons_zero, List.set_cons_succ] at h)
    | (refine St.own_set h 1 5 rfl rfl rfl rfl (fun w hh => ?_); clear h; have h := hh; clear hh; simp only [List.set_cons_zero, List.set_cons_succ] at h)
    | (refine St.own_set h 1 6 rfl rfl rfl rfl (fun w hh => ?_); clear h; have h := hh; clear hh; simp only [List.set_cons_zero, List.set_cons_succ] at h)
    | (refine St.own_set h 1 7 rfl rfl rfl rfl (fun w hh => ?_); clear h; have h := hh; clear hh; simp only [List.set_cons_zero, List.set_cons_succ] at h)
    | (refine St.own_set h 1 8 rfl rfl rfl rfl (fun w hh => ?_); clear h; have h := hh; clear hh; simp only [List.set_cons_zero, List.set_cons_succ] at h)
    | (refine St.own_set h 1 9 rfl rfl rfl rfl (fun w hh => ?_); clear h; have h := hh; clear hh; simp only [List.set_cons_zero, List.set_cons_succ] at h)
    | (refine St.own_set h 1 10 rfl rfl rfl rfl (fun w hh => ?_); clear h; have h := hh; clear hh; simp only [List.set_cons_zero, List.set_cons_succ] at h)
    | (refine St.own_set h 1 11 rfl rfl rfl rfl (fun w hh => ?_); clear h; have h := hh; clear hh; simp only [List.set_cons_zero, List.set_cons_succ] at h)
    | (refine CallR.of (Copy_num _ _ h) ?_; rintro _ w ⟨rfl, h⟩)
    | refine ⟨by decide, ?_⟩
    | refine ⟨_, h.lda 0 _ rfl rfl, ?_⟩
    | refine ⟨_, _, _, h.lda 0 _ rfl rfl, ?_⟩
    | refine ⟨h.lda 0 _ rfl rfl, ?_⟩
    | refine ⟨_, h.lda 1 _ rfl rfl, ?_⟩
    | refine ⟨_, _, _, h.lda 1 _ rfl rfl, ?_⟩
    | refine ⟨h.lda 1 _ rfl rfl, ?_⟩
    | refine ⟨_, h.lda 2 _ rfl rfl, ?_⟩
    | refine ⟨_, _, _, h.lda 2 _ rfl rfl, ?_⟩
    | refine ⟨h.lda 2 _ rfl rfl, ?_⟩
    | refine ⟨_, h.lda 3 _ rfl rfl, ?_⟩
    | refine ⟨_, _, _, h.lda 3 _ rfl rfl, ?_⟩
    | refine ⟨h.lda 3 _ rfl rfl, ?_⟩
    | refine ⟨_, h.lda 4 _ rfl rfl, ?_⟩
    | refine ⟨_, _, _, h.lda 4 _ rfl rfl, ?_⟩
    | refine ⟨h.lda 4 _ rfl rfl, ?_⟩
    | exact h.lda 0 _ rfl rfl
    | exact h.lda 1 _ rfl rfl
    | exact h.lda 2 _ rfl rfl
    | exact h.lda 3 _ rfl rfl
    | exact h.lda 4 _ rfl rfl
    | refine ⟨_, rfl, ?_⟩
    | refine ⟨_, _, rfl, ?_⟩
    | refine ⟨_, _, _, rfl, ?_⟩
    | refine ⟨_, _, _, _, _, _, _, _, _, _, _, _, rfl, ?_⟩
    | refine ⟨_, _, _, _, _, _, _, _, _, _, _, _, _, rfl, ?_⟩
    | refine ctt rfl ?_
    | refine cff rfl ?_
    | refine Meet.dup ?_
    | intro j
    | rw [ws]
    | simp only [ws, add_mk]
    | refine And.intro ?_ ?_)
  refine hX _ _ ?_
  replace h := h.tail
  repeat' (first
    | (refine New.at h (fun b w hh => ?_); clear h; have h := hh; clear hh)
    | (refine Drew.of h (fun w hh => ?_); clear h; have h := hh; clear hh)
    | (refine St.at h 0 _ rfl rfl rfl (fun w hh => ?_); clear h; have h := hh; clear hh; simp only [List.set_cons_zero, List.set_cons_succ] at h)
    | (refine St.at h 1 _ rfl rfl rfl (fun w hh => ?_); clear h; have h := hh; clear hh; simp only [List.set_cons_zero, List.set_cons_succ] at h)
    | (refine St.at h 2 _ rfl rfl rfl (fun w hh => ?_); clear h; have h := hh; clear hh; simp only [List.set_cons_zero, List.set_cons_succ] at h)
    | (refine St.at h 3 _ rfl rfl rfl (fun w hh => ?_); clear h; have h := hh; clear hh; simp only [List.set_cons_zero, List.set_cons_succ] at h)
    | refine ⟨_, h.lda 0 _ rfl rfl, ?_⟩
    | refine ⟨_, _, _, h.lda 0 _ rfl rfl, ?_⟩
    | refine ⟨h.lda 0 _ rfl rfl, ?_⟩
    | refine ⟨_, h.lda 1 _ rfl rfl, ?_⟩
    | refine ⟨_, _, _, h.lda 1 _ rfl rfl, ?_⟩
    | refine ⟨h.lda 1 _ rfl rfl, ?_⟩
    | refine ⟨_, h.lda 2 _ rfl rfl, ?_⟩
    | refine ⟨_, _, _, h.lda 2 _ rfl rfl, ?_⟩
    | refine ⟨h.lda 2 _ rfl rfl, ?_⟩
    | refine ⟨_, h.lda 3 _ rfl rfl, ?_⟩
    | refine ⟨_, _, _, h.lda 3 _ rfl rfl, ?_⟩
    | refine ⟨h.lda 3 _ rfl rfl, ?_⟩
    | exact h.lda 0 _ rfl rfl
    | exact h.lda 1 _ rfl rfl
    | exact h.lda 2 _ rfl rfl
    | exact h.lda 3 _ rfl rfl
    | refine ⟨_, rfl, ?_⟩
    | refine ⟨_, _, rfl, ?_⟩
    | refine ⟨_, _, _, rfl, ?_⟩
    | refine ⟨_, _, _, _, _, _, _, _, _, _, _, _, rfl, ?_⟩
    | refine ⟨_, _, _, _, _, _, _, _, _, _, _, _, _, rfl, ?_⟩
    | refine ctt rfl ?_
    | refine cff rfl ?_
    | refine Meet.dup ?_
    | intro j
    | rw [ws]
    | simp only [ws, add_mk]
    | refine And.intro ?_ ?_)
  exact Ret.mk ⟨_, _, _, rfl, h.skip2⟩

theorem Copy_3 (b off c : Nat) (k0 n0 k1 n1 k2 n2 : Int) (h : Holds G w (all (own t_api_Value 6 (some ⟨b, off, none⟩) 3 c [.int .i64 k0, .int .i64 n0, .string em, .slice none 0 0, .slice none 0 0, .slice none 0 0, .int .i64 k1, .int .i64 n1, .string em, .slice none 0 0, .slice none 0 0, .slice none 0 0, .int .i64 k2, .int .i64 n2, .string em, .slice none 0 0, .slice none 0 0, .slice none 0 0] :: L))) :
    Calls pg f_bson_Copy #[vL (some ⟨b, off, none⟩) 3 c] w
      (Ret fun v w' => ∃ b' off' c', v = vL (some ⟨b', off', none⟩) 3 c' ∧ Holds G w' (all (own t_api_Value 6 (some ⟨b', off', none⟩) 3 c' [.int .i64 k0, .int .i64 n0, .string em, .slice none 0 0, .slice none 0 0, .slice none 0 0, .int .i64 k1, .int .i64 n1, .string em, .slice none 0 0, .slice none 0 0, .slice none 0 0, .int .i64 k2, .int .i64 n2, .string em, .slice none 0 0, .slice none 0 0, .slice none 0 0] :: own t_api_Value 6 (some ⟨b, off, none⟩) 3 c [.int .i64 k0, .int .i64 n0, .string em, .slice none 0 0, .slice none 0 0, .slice none 0 0, .int .i64 k1, .int .i64 n1, .string em, .slice none 0 0, .slice none 0 0, .slice none 0 0, .int .i64 k2, .int .i64 n2, .string em, .slice none 0 0, .slice none 0 0, .slice none 0 0] :: L))) := by
  apply of_bson_Copy
  unfold c_bson_Copy
  repeat' (first
    | (refine New.at h (fun b w hh => ?_); clear h; have h := hh; clear hh)
    | (refine Drew.of h (fun w hh => ?_); clear h; have h := hh; clear hh)
    | (refine St.at h 0 _ rfl rfl rfl (fun w hh => ?_); clear h; have h := hh; clear hh; simp only [List.set_cons_zero, List.set_cons_succ] at h)
    | (refine St.at h 1 _ rfl rfl rfl (fun w hh => ?_); clear h; have h := hh; clear hh; simp only [List.set_cons_zero, List.set_cons_succ] at h)
    | (refine CallR.of (bytes_Clone_nil h) ?_; rintro _ w ⟨rfl, h⟩)
    | (refine CallR.of (fields_Clone_nil h) ?_; rintro _ w ⟨rfl, h⟩)
    | refine ⟨_, h.lda 0 _ rfl rfl, ?_⟩
    | refine ⟨_, _, _, h.lda 0 _ rfl rfl, ?_⟩
    | refine ⟨h.lda 0 _ rfl rfl, ?_⟩
    | refine ⟨_, h.lda 1 _ rfl rfl, ?_⟩
    | refine ⟨_, _, _, h.lda 1 _ rfl rfl, ?_⟩
    | refine ⟨h.lda 1 _ rfl rfl, ?_⟩
    | exact h.lda 0 _ rfl rfl
    | exact h.lda 1 _ rfl rfl
    | refine ⟨_, rfl, ?_⟩
    | refine ⟨_, _, rfl, ?_⟩
    | refine ⟨_, _, _, rfl, ?_⟩
    | refine ⟨_, _, _, _, _, _, _, _, _, _, _, _, rfl, ?_⟩
    | refine ⟨_, _, _, _, _, _, _, _, _, _, _, _, _, rfl, ?_⟩
    | refine ctt rfl ?_
    | refine cff rfl ?_
    | refine Meet.dup ?_
    | intro j
    | rw [ws]
    | simp only [ws, add_mk]
    | refine And.intro ?_ ?_)
  refine Loop.exit (fun X => ?_)
  repeat' (first
    | (refine New.at h (fun b w hh => ?_); clear h; have h := hh; clear hh)
    | (refine Drew.of h (fun w hh => ?_); clear h; have h := hh; clear hh)
    | (refine St.at h 0 _ rfl rfl rfl (fun w hh => ?_); clear h; have h := hh; clear hh; simp only [List.set_cons_zero, List.set_cons_succ] at h)
    | (refine St.at h 1 _ rfl rfl rfl (fun w hh => ?_); clear h; have h := hh; clear hh; simp only [List.set_cons_zero, List.set_cons_succ] at h)
    | (refine St.at h 2 _ rfl rfl rfl (fun w hh => ?_); clear h; have h := hh; clear hh; simp only [List.set_cons_zero, List.set_cons_succ] at h)
    | (refine St.at h 3 _ rfl rfl rfl (fun w hh => ?_); clear h; have h := hh; clear hh; simp only [List.set_cons_zero, List.set_cons_succ] at h)
    | (refine CallR.of (Clone_values _ _ _ _ _ (by decide) (by decide) rfl (h.bring 2 rfl)) ?_; rintro _ w ⟨b', off', c', rfl, h⟩; simp only [List.eraseIdx_cons_zero, List.eraseIdx_cons_succ] at h)
    | refine ⟨_, h.lda 0 _ rfl rfl, ?_⟩
    | refine ⟨_, _, _, h.lda 0 _ rfl rfl, ?_⟩
    | refine ⟨h.lda 0 _ rfl rfl, ?_⟩
    | refine ⟨_, h.lda 1 _ rfl rfl, ?_⟩
    | refine ⟨_, _, _, h.lda 1 _ rfl rfl, ?_⟩
    | refine ⟨h.lda 1 _ rfl rfl, ?_⟩
    | refine ⟨_, h.lda 2 _ rfl rfl, ?_⟩
    | refine ⟨_, _, _, h.lda 2 _ rfl rfl, ?_⟩
    | refine ⟨h.lda 2 _ rfl rfl, ?_⟩
    | refine ⟨_, h.lda 3 _ rfl rfl, ?_⟩
    | refine ⟨_, _, _, h.lda 3 _ rfl rfl, ?_⟩
    | refine ⟨h.lda 3 _ rfl rfl, ?_⟩
    | exact h.lda 0 _ rfl rfl
    | exact h.lda 1 _ rfl rfl
    | exact h.lda 2 _ rfl rfl
    | exact h.lda 3 _ rfl rfl
    | refine ⟨_, rfl, ?_⟩
    | refine ⟨_, _, rfl, ?_⟩
    | refine ⟨_, _, _, rfl, ?_⟩
    | refine ⟨_, _, _, _, _, _, _, _, _, _, _, _, rfl, ?_⟩
    | refine ⟨_, _, _, _, _, _, _, _, _, _, _, _, _, rfl, ?_⟩
    | refine ctt rfl ?_
    | refine cff rfl ?_
    | refine Meet.dup ?_
    | intro j
    | rw [ws]
    | simp only [ws, add_mk]
    | refine And.intro ?_ ?_)
  refine Loop.start (fun X hX => ?_)
  refine hX _ _ ?_
  repeat' (first
    | (refine New.at h (fun b w hh => ?_); clear h; have h := hh; clear hh)
    | (refine Drew.of h (fun w hh => ?_); clear h; have h := hh; clear hh)
    | (refine St.at h 0 _ rfl rfl rfl (fun w hh => ?_); clear h; have h := hh; clear hh; simp only [List.set_cons_zero, List.set_cons_succ] at h)
    | refine ⟨_, h.own_rd 0 0 rfl rfl rfl, ?_⟩
    | refine ⟨_, _, _, h.own_rd 0 0 rfl rfl rfl, ?_⟩
    | exact h.own_rd 0 0 rfl rfl rfl
    | refine ⟨_, h.own_rd 0 1 rfl rfl rfl, ?_⟩
    | refine ⟨_, _, _, h.own_rd 0 1 rfl rfl rfl, ?_⟩
    | exact h.own_rd 0 1 rfl rfl rfl
    | refine ⟨_, h.own_rd 0 2 rfl rfl rfl, ?_⟩
    | refine ⟨_, _, _, h.own_rd 0 2 rfl rfl rfl, ?_⟩
    | exact h.own_rd 0 2 rfl rfl rfl
    | refine ⟨_, h.own_rd 0 3 rfl rfl rfl, ?_⟩
    | refine ⟨_, _, _, h.own_rd 0 3 rfl rfl rfl, ?_⟩
    | exact h.own_rd 0 3 rfl rfl rfl
    | refine ⟨_, h.own_rd 0 4 rfl rfl rfl, ?_⟩
    | refine ⟨_, _, _, h.own_rd 0 4 rfl rfl rfl, ?_⟩
    | exact h.own_rd 0 4 rfl rfl rfl
    | refine ⟨_, h.own_rd 0 5 rfl rfl rfl, ?_⟩
    | refine ⟨_, _, _, h.own_rd 0 5 rfl rfl rfl, ?_⟩
    | exact h.own_rd 0 5 rfl rfl rfl
    | refine ⟨_, h.own_rd 0 6 rfl rfl rfl, ?_⟩
    | refine ⟨_, _, _, h.own_rd 0 6 rfl rfl rfl, ?_⟩
    | exact h.own_rd 0 6 rfl rfl rfl
    | refine ⟨_, h.own_rd 0 7 rfl rfl rfl, ?_⟩
    | refine ⟨_, _, _, h.own_rd 0 7 rfl rfl rfl, ?_⟩
    | exact h.own_rd 0 7 rfl rfl rfl
    | refine ⟨_, h.own_rd 0 8 rfl rfl rfl, ?_⟩
    | refine ⟨_, _, _, h.own_rd 0 8 rfl rfl rfl, ?_⟩
    | exact h.own_rd 0 8 rfl rfl rfl
    | refine ⟨_, h.own_rd 0 9 rfl rfl rfl, ?_⟩
    | refine ⟨_, _, _, h.own_rd 0 9 rfl rfl rfl, ?_⟩
    | exact h.own_rd 0 9 rfl rfl rfl
    | refine ⟨_, h.own_rd 0 10 rfl rfl rfl, ?_⟩
    | refine ⟨_, _, _, h.own_rd 0 10 rfl rfl rfl, ?_⟩
    | exact h.own_rd 0 10 rfl rfl rfl
    | refine ⟨_, h.own_rd 0 11 rfl rfl rfl, ?_⟩
    | refine ⟨_, _, _, h.own_rd 0 11 rfl rfl rfl, ?_⟩
    | exact h.own_rd 0 11 rfl rfl rfl
    | refine ⟨_, h.own_rd 0 12 rfl rfl rfl, ?_⟩
    | refine ⟨_, _, _, h.own_rd 0 12 rfl rfl rfl, ?_⟩
    | exact h.own_rd 0 12 rfl rfl rfl
    | refine ⟨_, h.own_rd 0 13 rfl rfl rfl, ?_⟩
    | refine ⟨_, _, _, h.own_rd 0 13 rfl rfl rfl, ?_⟩
    | exact h.own_rd 0 13 rfl rfl rfl
    | refine ⟨_, h.own_rd 0 14 rfl rfl rfl, ?_⟩
    | refine ⟨_, _, _, h.own_rd 0 14 rfl rfl rfl, ?_⟩
    | exact h.own_rd 0 14 rfl rfl rfl
    | refine ⟨_, h.own_rd 0 15 rfl rfl rfl, ?_⟩
    | refine ⟨_, _, _, h.own_rd 0 15 rfl rfl rfl, ?_⟩
    | exact h.own_rd 0 15 rfl rfl rfl
    | refine ⟨_, h.own_rd 0 16 rfl rfl rfl, ?_⟩
    | refine ⟨_, _, _, h.own_rd 0 16 rfl rfl rfl, ?_⟩
    | exact h.own_rd 0 16 rfl rfl rfl
    | refine ⟨_, h.own_rd 0 17 rfl rfl rfl, ?_⟩
    | refine ⟨_, _, _, h.own_rd 0 17 rfl rfl rfl, ?_⟩
    | exact h.own_rd 0 17 rfl rfl rfl
    | refine ⟨by decide, ?_⟩
    | refine ⟨_, h.lda 0 _ rfl rfl, ?_⟩
    | refine ⟨_, _, _, h.lda 0 _ rfl rfl, ?_⟩
    | refine ⟨h.lda 0 _ rfl rfl, ?_⟩
    | exact h.lda 0 _ rfl rfl
    | refine ⟨_, rfl, ?_⟩
    | refine ⟨_, _, rfl, ?_⟩
    | refine ⟨_, _, _, rfl, ?_⟩
    | refine ⟨_, _, _, _, _, _, _, _, _, _, _, _, rfl, ?_⟩
    | refine ⟨_, _, _, _, _, _, _, _, _, _, _, _, _, rfl, ?_⟩
    | refine ctt rfl ?_
    | refine cff rfl ?_
    | refine Meet.dup ?_
    | intro j
    | rw [ws]
    | simp only [ws, add_mk]
    | refine And.intro ?_ ?_)
  repeat' (first
    | (refine New.at h (fun b w hh => ?_); clear h; have h := hh; clear hh)
    | (refine Drew.of h (fun w hh => ?_); clear h; have h := hh; clear hh)
    | (refine St.at h 0 _ rfl rfl rfl (fun w hh => ?_); clear h; have h := hh; clear hh; simp only [List.set_cons_zero, List.set_cons_succ] at h)
    | (refine St.at h 1 _ rfl rfl rfl (fun w hh => ?_); clear h; have h := hh; clear hh; simp only [List.set_cons_zero, List.set_cons_succ] at h)
    | (refine St.at h 2 _ rfl rfl rfl (fun w hh => ?_); clear h; have h := hh; clear hh; simp only [List.set_cons_zero, List.set_cons_succ] at h)
    | (refine St.at h 3 _ rfl rfl rfl (fun w hh => ?_); clear h; have h := hh; clear hh; simp only [List.set_cons_zero, List.set_cons_succ] at h)
    | (refine St.at h 4 _ rfl rfl rfl (fun w hh => ?_); clear h; have h := hh; clear hh; simp only [List.set_cons_zero, List.set_cons_succ] at h)
    | (refine St.own_set h 1 0 rfl rfl rfl rfl (fun w hh => ?_); clear h; have h := hh; clear hh; simp only [List.set_cons_zero, List.set_cons_succ] at h)
    | (refine St.own_set h 1 1 rfl rfl rfl rfl (fun w hh => ?_); clear h; have h := hh; clear hh; simp only [List.set_cons_zero, List.set_cons_succ] at h)
    | (refine St.own_set h 1 2 rfl rfl rfl rfl (fun w hh => ?_); clear h; have h := hh; clear hh; simp only [List.set_cons_zero, List.set_cons_succ] at h)
    | (refine St.own_set h 1 3 rfl rfl rfl rfl (fun w hh => ?_); clear h; have h := hh; clear hh; simp only [List.set_cons_zero, List.set_cons_succ] at h)
    | (refine St.own_set h 1 4 rfl rfl rfl rfl (fun w hh => ?_); clear h; have h := hh; clear hh; simp only [List.set_cons_zero, List.set_cons_succ] at h)
    | (refine St.own_set h 1 5 rfl rfl rfl rfl (fun w hh => ?_); clear h; have h := hh; clear hh; simp only [List.set_cons_zero, List.set_cons_succ] at h)
    | (refine St.own_set h 1 6 rfl rfl rfl rfl (fun w hh => ?_); clear h; have h := hh; clear hh; simp only [List.set_cons_zero, List.set_cons_succ] at h)
    | (refine St.own_set h 1 7 rfl rfl rfl rfl (fun w hh => ?_); clear h; have h := hh; clear hh; simp only [List.set_cons_zero, List.set_cons_succ] at h)
    | (refine St.own_set h 1 8 rfl rfl rfl rfl (fun w hh => ?_); clear h; have h := hh; clear hh; simp only [List.set_cons_zero, List.set_cons_succ] at h)
    | (refine St.own_set h 1 9 rfl rfl rfl rfl (fun w hh => ?_); clear h; have h := hh; clear hh; simp only [List.set_cons_zero, List.set_cons_succ] at h)
    | (refine St.own_set h 1 10 rfl rfl rfl rfl (fun w hh => ?_); clear h; have h := hh; clear hh; simp only [List.set_cons_zero, List.set_cons_succ] at h)
    | (refine St.own_set h 1 11 rfl rfl rfl rfl (fun w hh => ?_); clear h; have h := hh; clear hh; simp only [List.set_cons_zero, List.set_cons_succ] at h)
    | (refine St.own_set h 1 12 rfl rfl rfl rfl (fun w hh => ?_); clear h; have h := hh; clear hh; simp only [List.set_cons_zero, List.set_cons_succ] at h)
    | (refine St.own_set h 1 13 rfl rfl rfl rfl (fun w hh => ?_); clear h; have h := hh; clear hh; simp only [List.set_cons_zero, List.set_cons_succ] at h)
    | (refine St.own_set h 1 14 rfl rfl rfl rfl (fun w hh => ?_); clear h; have h := hh; clear hh; simp only [List.set_cons_zero, List.set_cons_succ] at h)
    | (refine St.own_set h 1 15 rfl rfl rfl rfl (fun w hh => ?_); clear h; have h := hh; clear hh; simp only [List.set_cons_zero, List.set_cons_succ] at h)
    | (refine St.own_set h 1 16 rfl rfl rfl rfl (fun w hh => ?_); clear h; have h := hh; clear hh; simp only [List.set_cons_zero, List.set_cons_succ] at h)
    | (refine St.own_set h 1 17 rfl rfl rfl rfl (fun w hh => ?_); clear h; have h := hh; clear hh; simp only [List.set_cons_zero, List.set_cons_succ] at h)
    | (refine CallR.of (Copy_num _ _ h) ?_; rintro _ w ⟨rfl, h⟩)
    | refine ⟨by decide, ?_⟩
    | refine ⟨_, h.lda 0 _ rfl rfl, ?_⟩
    | refine ⟨_, _, _, h.lda 0 _ rfl rfl, ?_⟩
    | refine ⟨h.lda 0 _ rfl rfl, ?_⟩
    | refine ⟨_, h.lda 1 _ rfl rfl, ?_⟩
    | refine ⟨_, _, _, h.lda 1 _ rfl rfl, ?_⟩
    | refine ⟨h.lda 1 _ rfl rfl, ?_⟩
    | refine ⟨_, h.lda 2 _ rfl rfl, ?_⟩
    | refine ⟨_, _, _, h.lda 2 _ rfl rfl, ?_⟩
    | refine ⟨h.lda 2 _ rfl rfl, ?_⟩
    | refine ⟨_, h.lda 3 _ rfl rfl, ?_⟩
    | refine ⟨_, _, _, h.lda 3 _ rfl rfl, ?_⟩
    | refine ⟨h.lda 3 _ rfl rfl, ?_⟩
    | refine ⟨_, h.lda 4 _ rfl rfl, ?_⟩
    | refine ⟨_, _, _, h.lda 4 _ rfl rfl, ?_⟩
    | refine ⟨h.lda 4 _ rfl rfl, ?_⟩
    | exact h.lda 0 _ rfl rfl
    | exact h.lda 1 _ rfl rfl
    | exact h.lda 2 _ rfl rfl
    | exact h.lda 3 _ rfl rfl
    | exact h.lda 4 _ rfl rfl
    | refine ⟨_, rfl, ?_⟩
    | refine ⟨_, _, rfl, ?_⟩
    | refine ⟨_, _, _, rfl, ?_⟩
    | refine ⟨_, _, _, _, _, _, _, _, _, _, _, _, rfl, ?_⟩
    | refine ⟨_, _, _, _, _, _, _, _, _, _, _, _, _, rfl, ?_⟩
    | refine ctt rfl ?_
    | refine cff rfl ?_
    | refine Meet.dup ?_
    | intro j
    | rw [ws]
    | simp only [ws, add_mk]
    | refine And.intro ?_ ?_)
  refine hX _ _ ?_
  replace h := h.tail
  repeat' (first
    | (refine New.at h (fun b w hh => ?_); clear h; have h := hh; clear hh)
    | (refine Drew.of h (fun w hh => ?_); clear h; have h := hh; clear hh)
    | (refine St.at h 0 _ rfl rfl rfl (fun w hh => ?_); clear h; have h := hh; clear hh; simp only [List.set_cons_zero, List.set_cons_succ] at h)
    | refine ⟨_, h.own_rd 0 0 rfl rfl rfl, ?_⟩
    | refine ⟨_, _, _, h.own_rd 0 0 rfl rfl rfl, ?_⟩
    | exact h.own_rd 0 0 rfl rfl rfl
    | refine ⟨_, h.own_rd 0 1 rfl rfl rfl, ?_⟩
    | refine ⟨_, _, _, h.own_rd 0 1 rfl rfl rfl, ?_⟩
    | exact h.own_rd 0 1 rfl rfl rfl
    | refine ⟨_, h.own_rd 0 2 rfl rfl rfl, ?_⟩
    | refine ⟨_, _, _, h.own_rd 0 2 rfl rfl rfl, ?_⟩
    | exact h.own_rd 0 2 rfl rfl rfl
    | refine ⟨_, h.own_rd 0 3 rfl rfl rfl, ?_⟩
    | refine ⟨_, _, _, h.own_rd 0 3 rfl rfl rfl, ?_⟩
    | exact h.own_rd 0 3 rfl rfl rfl
    | refine ⟨_, h.own_rd 0 4 rfl rfl rfl, ?_⟩
    | refine ⟨_, _, _, h.own_rd 0 4 rfl rfl rfl, ?_⟩
    | exact h.own_rd 0 4 rfl rfl rfl
    | refine ⟨_, h.own_rd 0 5 rfl rfl rfl, ?_⟩
    | refine ⟨_, _, _, h.own_rd 0 5 rfl rfl rfl, ?_⟩
    | exact h.own_rd 0 5 rfl rfl rfl
    | refine ⟨_, h.own_rd 0 6 rfl rfl rfl, ?_⟩
    | refine ⟨_, _, _, h.own_rd 0 6 rfl rfl rfl, ?_⟩
    | exact h.own_rd 0 6 rfl rfl rfl
    | refine ⟨_, h.own_rd 0 7 rfl rfl rfl, ?_⟩
    | refine ⟨_, _, _, h.own_rd 0 7 rfl rfl rfl, ?_⟩
    | exact h.own_rd 0 7 rfl rfl rfl
    | refine ⟨_, h.own_rd 0 8 rfl rfl rfl, ?_⟩
    | refine ⟨_, _, _, h.own_rd 0 8 rfl rfl rfl, ?_⟩
    | exact h.own_rd 0 8 rfl rfl rfl
    | refine ⟨_, h.own_rd 0 9 rfl rfl rfl, ?_⟩
    | refine ⟨_, _, _, h.own_rd 0 9 rfl rfl rfl, ?_⟩
    | exact h.own_rd 0 9 rfl rfl rfl
    | refine ⟨_, h.own_rd 0 10 rfl rfl rfl, ?_⟩
    | refine ⟨_, _, _, h.own_rd 0 10 rfl rfl rfl, ?_⟩
    | exact h.own_rd 0 10 rfl rfl rfl
    | refine ⟨_, h.own_rd 0 11 rfl rfl rfl, ?_⟩
    | refine ⟨_, _, _, h.own_rd 0 11 rfl rfl rfl, ?_⟩
    | exact h.own_rd 0 11 rfl rfl rfl
    | refine ⟨_, h.own_rd 0 12 rfl rfl rfl, ?_⟩
    | refine ⟨_, _, _, h.own_rd 0 12 rfl rfl rfl, ?_⟩
    | exact h.own_rd 0 12 rfl rfl rfl
    | refine ⟨_, h.own_rd 0 13 rfl rfl rfl, ?_⟩
    | refine ⟨_, _, _, h.own_rd 0 13 rfl rfl rfl, ?_⟩
    | exact h.own_rd 0 13 rfl rfl rfl
    | refine ⟨_, h.own_rd 0 14 rfl rfl rfl, ?_⟩
    | refine ⟨_, _, _, h.own_rd 0 14 rfl rfl rfl, ?_⟩
    | exact h.own_rd 0 14 rfl rfl rfl
    | refine ⟨_, h.own_rd 0 15 rfl rfl rfl, ?_⟩
    | refine ⟨_, _, _, h.own_rd 0 15 rfl rfl rfl, ?_⟩
    | exact h.own_rd 0 15 rfl rfl rfl
    | refine ⟨_, h.own_rd 0 16 rfl rfl rfl, ?_⟩
    | refine ⟨_, _, _, h.own_rd 0 16 rfl rfl rfl, ?_⟩
    | exact h.own_rd 0 16 rfl rfl rfl
    | refine ⟨_, h.own_rd 0 17 rfl rfl rfl, ?_⟩
    | refine ⟨_, _, _, h.own_rd 0 17 rfl rfl rfl, ?_⟩
    | exact h.own_rd 0 17 rfl rfl rfl
    | refine ⟨by decide, ?_⟩
    | refine ⟨_, h.lda 0 _ rfl rfl, ?_⟩
    | refine ⟨_, _, _, h.lda 0 _ rfl rfl, ?_⟩
    | refine ⟨h.lda 0 _ rfl rfl, ?_⟩
    | exact h.lda 0 _ rfl rfl
    | refine ⟨_, rfl, ?_⟩
    | refine ⟨_, _, rfl, ?_⟩
    | refine ⟨_, _, _, rfl, ?_⟩
    | refine ⟨_, _, _, _, _, _, _, _, _, _, _, _, rfl, ?_⟩
    | refine ⟨_, _, _, _, _, _, _, _, _, _, _, _, _, rfl, ?_⟩
    | refine ctt rfl ?_
    | refine cff rfl ?_
    | refine Meet.dup ?_
    | intro j
    | rw [ws]
    | simp only [ws, add_mk]
    | refine And.intro ?_ ?_)
  repeat' (first
    | (refine New.at h (fun b w hh => ?_); clear h; have h := hh; clear hh)
    | (refine Drew.of h (fun w hh => ?_); clear h; have h := hh; clear hh)
    | (refine St.at h 0 _ rfl rfl rfl (fun w hh => ?_); clear h; have h := hh; clear hh; simp only [List.set_cons_zero, List.set_cons_succ] at h)
    | (refine St.at h 1 _ rfl rfl rfl (fun w hh => ?_); clear h; have h := hh; clear hh; simp only [List.set_cons_zero, List.set_cons_succ] at h)
    | (refine St.at h 2 _ rfl rfl rfl (fun w hh => ?_); clear h; have h := hh; clear hh; simp only [List.set_cons_zero, List.set_cons_succ] at h)
    | (refine St.at h 3 _ rfl rfl rfl (fun w hh => ?_); clear h; have h := hh; clear hh; simp only [List.set_cons_zero, List.set_cons_succ] at h)
    | (refine St.at h 4 _ rfl rfl rfl (fun w hh => ?_); clear h; have h := hh; clear hh; simp only [List.set_cons_zero, List.set_cons_succ] at h)
    | (refine St.own_set h 1 0 rfl rfl rfl rfl (fun w hh => ?_); clear h; have h := hh; clear hh; simp only [List.set_cons_zero, List.set_cons_succ] at h)
    | (refine St.own_set h 1 1 rfl rfl rfl rfl (fun w hh => ?_); clear h; have h := hh; clear hh; simp only [List.set_cons_zero, List.set_cons_succ] at h)
    | (refine St.own_set h 1 2 rfl rfl rfl rfl (fun w hh => ?_); clear h; have h := hh; clear hh; simp only [List.set_cons_zero, List.set_cons_succ] at h)
    | (refine St.own_set h 1 3 rfl rfl rfl rfl (fun w hh => ?_); clear h; have h := hh; clear hh; simp only [List.set_cons_zero, List.set_cons_succ] at h)
    | (refine St.own_set h 1 4 rfl rfl rfl rfl (fun w hh => ?_); clear h; have h := hh; clear hh; simp only [List.set_cons_zero, List.set_cons_succ] at h)
    | (refine St.own_set h 1 5 rfl rfl rfl rfl (fun w hh => ?_); clear h; have h := hh; clear hh; simp only [List.set_cons_zero, List.set_cons_succ] at h)
    | (refine St.own_set h 1 6 rfl rfl rfl rfl (fun w hh => ?_); clear h; have h := hh; clear hh; simp only [List.set_cons_zero, List.set_cons_succ] at h)
    | (refine St.own_set h 1 7 rfl rfl rfl rfl (fun w hh => ?_); clear h; have h := hh; clear hh; simp only [List.set_cons_zero, List.set_cons_succ] at h)
    | (refine St.own_set h 1 8 rfl rfl rfl rfl (fun w hh => ?_); clear h; have h := hh; clear hh; simp only [List.set_cons_zero, List.set_cons_succ] at h)
    | (refine St.own_set h 1 9 rfl rfl rfl rfl (fun w hh => ?_); clear h; have h := hh; clear hh; simp only [List.set_cons_zero, List.set_cons_succ] at h)
    | (refine St.own_set h 1 10 rfl rfl rfl rfl (fun w hh => ?_); clear h; have h := hh; clear hh; simp only [List.set_cons_zero, List.set_cons_succ] at h)
    | (refine St.own_set h 1 11 rfl rfl rfl rfl (fun w hh => ?_); clear h; have h := hh; clear hh; simp only [List.set_cons_zero, List.set_cons_succ] at h)
    | (refine St.own_set h 1 12 rfl rfl rfl rfl (fun w hh => ?_); clear h; have h := hh; clear hh; simp only [List.set_cons_zero, List.set_cons_succ] at h)
    | (refine St.own_set h 1 13 rfl rfl rfl rfl (fun w hh => ?_); clear h; have h := hh; clear hh; simp only [List.set_cons_zero, List.set_cons_succ] at h)
    | (refine St.own_set h 1 14 rfl rfl rfl rfl (fun w hh => ?_); clear h; have h := hh; clear hh; simp only [List.set_cons_zero, List.set_cons_succ] at h)
    | (refine St.own_set h 1 15 rfl rfl rfl rfl (fun w hh => ?_); clear h; have h := hh; clear hh; simp only [List.set_cons_zero, List.set_cons_succ] at h)
    | (refine St.own_set h 1 16 rfl rfl rfl rfl (fun w hh => ?_); clear h; have h := hh; clear hh; simp only [List.set_cons_zero, List.set_cons_succ] at h)
    | (refine St.own_set h 1 17 rfl rfl rfl rfl (fun w hh => ?_); clear h; have h := hh; clear hh; simp only [List.set_cons_zero, List.set_cons_succ] at h)
    | (refine CallR.of (Copy_num _ _ h) ?_; rintro _ w ⟨rfl, h⟩)
    | refine ⟨by decide, ?_⟩
    | refine ⟨_, h.lda 0 _ rfl rfl, ?_⟩
    | refine ⟨_, _, _, h.lda 0 _ rfl rfl, ?_⟩
    | refine ⟨h.lda 0 _ rfl rfl, ?_⟩
    | refine ⟨_, h.lda 1 _ rfl rfl, ?_⟩
    | refine ⟨_, _, _, h.lda 1 _ rfl rfl, ?_⟩
    | refine ⟨h.lda 1 _ rfl rfl, ?_⟩
    | refine ⟨_, h.lda 2 _ rfl rfl, ?_⟩
    | refine ⟨_, _, _, h.lda 2 _ rfl rfl, ?_⟩
    | refine ⟨h.lda 2 _ rfl rfl, ?_⟩
    | refine ⟨_, h.lda 3 _ rfl rfl, ?_⟩
    | refine ⟨_, _, _, h.lda 3 _ rfl rfl, ?_⟩
    | refine ⟨h.lda 3 _ rfl rfl, ?_⟩
    | refine ⟨_, h.lda 4 _ rfl rfl, ?_⟩
    | refine ⟨_, _, _, h.lda 4 _ rfl rfl, ?_⟩
    | refine ⟨h.lda 4 _ rfl rfl, ?_⟩
    | exact h.lda 0 _ rfl rfl
    | exact h.lda 1 _ rfl rfl
    | exact h.lda 2 _ rfl rfl
    | exact h.lda 3 _ rfl rfl
    | exact h.lda 4 _ rfl rfl
    | refine ⟨_, rfl, ?_⟩
    | refine ⟨_, _, rfl, ?_⟩
    | refine ⟨_, _, _, rfl, ?_⟩
    | refine ⟨_, _, _, _, _, _, _, _, _, _, _, _, rfl, ?_⟩
    | refine ⟨_, _, _, _, _, _, _, _, _, _, _, _, _, rfl, ?_⟩
    | refine ctt rfl ?_
    | refine cff rfl ?_
    | refine Meet.dup ?_
    | intro j
    | rw [ws]
    | simp only [ws, add_mk]
    | refine And.intro ?_ ?_)
  refine hX _ _ ?_
  replace h := h.tail
  repeat' (first
    | (refine New.at h (fun b w hh => ?_); clear h; have h := hh; clear hh)
    | (refine Drew.of h (fun w hh => ?_); clear h; have h := hh; clear hh)
    | (refine St.at h 0 _ rfl rfl rfl (fun w hh => ?_); clear h; have h := hh; clear hh; simp only [List.set_cons_zero, List.set_cons_succ] at h)
    | refine ⟨_, h.own_rd 0 0 rfl rfl rfl, ?_⟩
    | refine ⟨_, _, _, h.own_rd 0 0 rfl rfl rfl, ?_⟩
    | exact h.own_rd 0 0 rfl rfl rfl
    | refine ⟨_, h.own_rd 0 1 rfl rfl rfl, ?_⟩
    | refine ⟨_, _, _, h.own_rd 0 1 rfl rfl rfl, ?_⟩
    | exact h.own_rd 0 1 rfl rfl rfl
    | refine ⟨_, h.own_rd 0 2 rfl rfl rfl, ?_⟩
    | refine ⟨_, _, _, h.own_rd 0 2 rfl rfl rfl, ?_⟩
    | exact h.own_rd 0 2 rfl rfl rfl
    | refine ⟨_, h.own_rd 0 3 rfl rfl rfl, ?_⟩
    | refine ⟨_, _, _, h.own_rd 0 3 rfl rfl rfl, ?_⟩
    | exact h.own_rd 0 3 rfl rfl rfl
    | refine ⟨_, h.own_rd 0 4 rfl rfl rfl, ?_⟩
    | refine ⟨_, _, _, h.own_rd 0 4 rfl rfl rfl, ?_⟩
    | exact h.own_rd 0 4 rfl rfl rfl
    | refine ⟨_, h.own_rd 0 5 rfl rfl rfl, ?_⟩
    | refine ⟨_, _, _, h.own_rd 0 5 rfl rfl rfl, ?_⟩
    | exact h.own_rd 0 5 rfl rfl rfl
    | refine ⟨_, h.own_rd 0 6 rfl rfl rfl, ?_⟩
    | refine ⟨_, _, _, h.own_rd 0 6 rfl rfl rfl, ?_⟩
    | exact h.own_rd 0 6 rfl rfl rfl
    | refine ⟨_, h.own_rd 0 7 rfl rfl rfl, ?_⟩
    | refine ⟨_, _, _, h.own_rd 0 7 rfl rfl rfl, ?_⟩
    | exact h.own_rd 0 7 rfl rfl rfl
    | refine ⟨_, h.own_rd 0 8 rfl rfl rfl, ?_⟩
    | refine ⟨_, _, _, h.own_rd 0 8 rfl rfl rfl, ?_⟩
    | exact h.own_rd 0 8 rfl rfl rfl
    | refine ⟨_, h.own_rd 0 9 rfl rfl rfl, ?_⟩
    | refine ⟨_, _, _, h.own_rd 0 9 rfl rfl rfl, ?_⟩
    | exact h.own_rd 0 9 rfl rfl rfl
    | refine ⟨_, h.own_rd 0 10 rfl rfl rfl, ?_⟩
    | refine ⟨_, _, _, h.own_rd 0 10 rfl rfl rfl, ?_⟩
    | exact h.own_rd 0 10 rfl rfl rfl
    | refine ⟨_, h.own_rd 0 11 rfl rfl rfl, ?_⟩
    | refine ⟨_, _, _, h.own_rd 0 11 rfl rfl rfl, ?_⟩
    | exact h.own_rd 0 11 rfl rfl rfl
    | refine ⟨_, h.own_rd 0 12 rfl rfl rfl, ?_⟩
    | refine ⟨_, _, _, h.own_rd 0 12 rfl rfl rfl, ?_⟩
    | exact h.own_rd 0 12 rfl rfl rfl
    | refine ⟨_, h.own_rd 0 13 rfl rfl rfl, ?_⟩
    | refine ⟨_, _, _, h.own_rd 0 13 rfl rfl rfl, ?_⟩
    | exact h.own_rd 0 13 rfl rfl rfl
    | refine ⟨_, h.own_rd 0 14 rfl rfl rfl, ?_⟩
    | refine ⟨_, _, _, h.own_rd 0 14 rfl rfl rfl, ?_⟩
    | exact h.own_rd 0 14 rfl rfl rfl
    | refine ⟨_, h.own_rd 0 15 rfl rfl rfl, ?_⟩
    | refine ⟨_, _, _, h.own_rd 0 15 rfl rfl rfl, ?_⟩
    | exact h.own_rd 0 15 rfl rfl rfl
    | refine ⟨_, h.own_rd 0 16 rfl rfl rfl, ?_⟩
    | refine ⟨_, _, _, h.own_rd 0 16 rfl rfl rfl, ?_⟩
    | exact h.own_rd 0 16 rfl rfl rfl
    | refine ⟨_, h.own_rd 0 17 rfl rfl rfl, ?_⟩
    | refine ⟨_, _, _, h.own_rd 0 17 rfl rfl rfl, ?_⟩
    | exact h.own_rd 0 17 rfl rfl rfl
    | refine ⟨by decide, ?_⟩
    | refine ⟨_, h.lda 0 _ rfl rfl, ?_⟩
    | refine ⟨_, _, _, h.lda 0 _ rfl rfl, ?_⟩
    | refine ⟨h.lda 0 _ rfl rfl, ?_⟩
    | exact h.lda 0 _ rfl rfl
    | refine ⟨_, rfl, ?_⟩
    | refine ⟨_, _, rfl, ?_⟩
    | refine ⟨_, _, _, rfl, ?_⟩
    | refine ⟨_, _, _, _, _, _, _, _, _, _, _, _, rfl, ?_⟩
    | refine ⟨_, _, _, _, _, _, _, _, _, _, _, _, _, rfl, ?_⟩
    | refine ctt rfl ?_
    | refine cff rfl ?_
    | refine Meet.dup ?_
    | intro j
    | rw [ws]
    | simp only [ws, add_mk]
    | refine And.intro ?_ ?_)
  repeat' (first
    | (refine New.at h (fun b w hh => ?_); clear h; have h := hh; clear hh)
    | (refine Drew.of h (fun w hh => ?_); clear h; have h := hh; clear hh)
    | (refine St.at h 0 _ rfl rfl rfl (fun w hh => ?_); clear h; have h := hh; clear hh; simp only [List.set_cons_zero, List.set_cons_succ] at h)
    | (refine St.at h 1 _ rfl rfl rfl (fun w hh => ?_); clear h; have h := hh; clear hh; simp only [List.set_cons_zero, List.set_cons_succ] at h)
    | (refine St.at h 2 _ rfl rfl rfl (fun w hh => ?_); clear h; have h := hh; clear hh; simp only [List.set_cons_zero, List.set_cons_succ] at h)
    | (refine St.at h 3 _ rfl rfl rfl (fun w hh => ?_); clear h; have h := hh; clear hh; simp only [List.set_cons_zero, List.set_cons_succ] at h)
    | (refine St.at h 4 _ rfl rfl rfl (fun w hh => ?_); clear h; have h := hh; clear hh; simp only [List.set_cons_zero, List.set_cons_succ] at h)
    | (refine St.own_set h 1 0 rfl rfl rfl rfl (fun w hh => ?_); clear h; have h := hh; clear hh; simp only [List.set_cons_zero, List.set_cons_succ] at h)
    | (refine St.own_set h 1 1 rfl rfl rfl rfl (fun w hh => ?_); clear h; have h := hh; clear hh; simp only [List.set_cons_zero, List.set_cons_succ] at h)
    | (refine St.own_set h 1 2 rfl rfl rfl rfl (fun w hh => ?_); clear h; have h := hh; clear hh; simp only [List.set_cons_zero, List.set_cons_succ] at h)
    | (refine St.own_set h 1 3 rfl rfl rfl rfl (fun w hh => ?_); clear h; have h := hh; clear hh; simp only [List.set_cons_zero, List.set_cons_succ] at h)
    | (refine St.own_set h 1 4 rfl rfl rfl rfl (fun w hh => ?_); clear h; have h := hh; clear hh; simp only [List.set_cons_zero, List.set_cons_succ] at h)
    | (refine St.own_set h 1 5 rfl rfl rfl rfl (fun w hh => ?_); clear h; have h := hh; clear hh; simp only [List.set_cons_zero, List.set_cons_succ] at h)
    | (refine St.own_set h 1 6 rfl rfl rfl rfl (fun w hh => ?_); clear h; have h := hh; clear hh; simp only [List.set_cons_zero, List.set_cons_succ] at h)
    | (refine St.own_set h 1 7 rfl rfl rfl rfl (fun w hh => ?_); clear h; have h := hh; clear hh; simp only [List.set_cons_zero, List.set_cons_succ] at h)
    | (refine St.own_set h 1 8 rfl rfl rfl rfl (fun w hh => ?_); clear h; have h := hh; clear hh; simp only [List.set_cons_zero, List.set_cons_succ] at h)
    | (refine St.own_set h 1 9 rfl rfl rfl rfl (fun w hh => ?_); clear h; have h := hh; clear hh; simp only [List.set_cons_zero, List.set_cons_succ] at h)
    | (refine St.own_set h 1 10 rfl rfl rfl rfl (fun w hh => ?_); clear h; have h := hh; clear hh; simp only [List.set_cons_zero, List.set_cons_succ] at h)
    | (refine St.own_set h 1 11 rfl rfl rfl rfl (fun w hh => ?_); clear h; have h := hh; clear hh; simp only [List.set_cons_zero, List.set_cons_succ] at h)
    | (refine St.own_set h 1 12 rfl rfl rfl rfl (fun w hh => ?_); clear h; have h := hh; clear hh; simp only [List.set_cons_zero, List.set_cons_succ] at h)
    | (refine St.own_set h 1 13 rfl rfl rfl rfl (fun w hh => ?_); clear h; have h := hh; clear hh; simp only [List.set_cons_zero, List.set_cons_succ] at h)
    | (refine St.own_set h 1 14 rfl rfl rfl rfl (fun w hh => ?_); clear h; have h := hh; clear hh; simp only [List.set_cons_zero, List.set_cons_succ] at h)
    | (refine St.own_set h 1 15 rfl rfl rfl rfl (fun w hh => ?_); clear h; have h := hh; clear hh; simp only [List.set_cons_zero, List.set_cons_succ] at h)
    | (refine St.own_set h 1 16 rfl rfl rfl rfl (fun w hh => ?_); clear h; have h := hh; clear hh; simp only [List.set_cons_zero, List.set_cons_succ] at h)
    | (refine St.own_set h 1 17 rfl rfl rfl rfl (fun w hh => ?_); clear h; have h := hh; clear hh; simp only [List.set_cons_zero, List.set_cons_succ] at h)
    | (refine CallR.of (Copy_num _ _ h) ?_; rintro _ w ⟨rfl, h⟩)
    | refine ⟨by decide, ?_⟩
    | refine ⟨_, h.lda 0 _ rfl rfl, ?_⟩
    | refine ⟨_, _, _, h.lda 0 _ rfl rfl, ?_⟩
    | refine ⟨h.lda 0 _ rfl rfl, ?_⟩
    | refine ⟨_, h.lda 1 _ rfl rfl, ?_⟩
    | refine ⟨_, _, _, h.lda 1 _ rfl rfl, ?_⟩
    | refine ⟨h.lda 1 _ rfl rfl, ?_⟩
    | refine ⟨_, h.lda 2 _ rfl rfl, ?_⟩
    | refine ⟨_, _, _, h.lda 2 _ rfl rfl, ?_⟩
    | refine ⟨h.lda 2 _ rfl rfl, ?_⟩
    | refine ⟨_, h.lda 3 _ rfl rfl, ?_⟩
    | refine ⟨_, _, _, h.lda 3 _ rfl rfl, ?_⟩
    | refine ⟨h.lda 3 _ rfl rfl, ?_⟩
    | refine ⟨_, h.lda 4 _ rfl rfl, ?_⟩
    | refine ⟨_, _, _, h.lda 4 _ rfl rfl, ?_⟩
    | refine ⟨h.lda 4 _ rfl rfl, ?_⟩
    | exact h.lda 0 _ rfl rfl
    | exact h.lda 1 _ rfl rfl
    | exact h.lda 2 _ rfl rfl
    | exact h.lda 3 _ rfl rfl
    | exact h.lda 4 _ rfl rfl
    | refine ⟨_, rfl, ?_⟩
    | refine ⟨_, _, rfl, ?_⟩
    | refine ⟨_, _, _, rfl, ?_⟩
    | refine ⟨_, _, _, _, _, _, _, _, _, _, _, _, rfl, ?_⟩
    | refine ⟨_, _, _, _, _, _, _, _, _, _, _, _, _, rfl, ?_⟩
    | refine ctt rfl ?_
    | refine cff rfl ?_
    | refine Meet.dup ?_
    | intro j
    | rw [ws]
    | simp only [ws, add_mk]
    | refine And.intro ?_ ?_)
  refine hX _ _ ?_
  replace h := h.tail
  repeat' (first
    | (refine New.at h (fun b w hh => ?_); clear h; have h := hh; clear hh)
    | (refine Drew.of h (fun w hh => ?_); clear h; have h := hh; clear hh)
    | (refine St.at h 0 _ rfl rfl rfl (fun w hh => ?_); clear h; have h := hh; clear hh; simp only [List.set_cons_zero, List.set_cons_succ] at h)
    | (refine St.at h 1 _ rfl rfl rfl (fun w hh => ?_); clear h; have h := hh; clear hh; simp only [List.set_cons_zero, List.set_cons_succ] at h)
    | (refine St.at h 2 _ rfl rfl rfl (fun w hh => ?_); clear h; have h := hh; clear hh; simp only [List.set_cons_zero, List.set_cons_succ] at h)
    | (refine St.at h 3 _ rfl rfl rfl (fun w hh => ?_); clear h; have h := hh; clear hh; simp only [List.set_cons_zero, List.set_cons_succ] at h)
    | refine ⟨_, h.lda 0 _ rfl rfl, ?_⟩
    | refine ⟨_, _, _, h.lda 0 _ rfl rfl, ?_⟩
    | refine ⟨h.lda 0 _ rfl rfl, ?_⟩
    | refine ⟨_, h.lda 1 _ rfl rfl, ?_⟩
    | refine ⟨_, _, _, h.lda 1 _ rfl rfl, ?_⟩
    | refine ⟨h.lda 1 _ rfl rfl, ?_⟩
    | refine ⟨_, h.lda 2 _ rfl rfl, ?_⟩
    | refine ⟨_, _, _, h.lda 2 _ rfl rfl, ?_⟩
    | refine ⟨h.lda 2 _ rfl rfl, ?_⟩
    | refine ⟨_, h.lda 3 _ rfl rfl, ?_⟩
    | refine ⟨_, _, _, h.lda 3 _ rfl rfl, ?_⟩
    | refine ⟨h.lda 3 _ rfl rfl, ?_⟩
    | exact h.lda 0 _ rfl rfl
    | exact h.lda 1 _ rfl rfl
    | exact h.lda 2 _ rfl rfl
    | exact h.lda 3 _ rfl rfl
    | refine ⟨_, rfl, ?_⟩
    | refine ⟨_, _, rfl, ?_⟩
    | refine ⟨_, _, _, rfl, ?_⟩
    | refine ⟨_, _, _, _, _, _, _, _, _, _, _, _, rfl, ?_⟩
    | refine ⟨_, _, _, _, _, _, _, _, _, _, _, _, _, rfl, ?_⟩
    | refine ctt rfl ?_
    | refine cff rfl ?_
    | refine Meet.dup ?_
    | intro j
    | rw [ws]
    | simp only [ws, add_mk]
    | refine And.intro ?_ ?_)
  exact Ret.mk ⟨_, _, _, rfl, h.skip2⟩

end
end Go.Proofs.Sd
