/- Lists of accumulators; New; Value; Kind. -/
import Derived.Test.YtnckkeefipaoeaaDoorAc1
import Derived.Test.YtnckkeefipaoeaaDoorAc4
set_option linter.unusedVariables false
set_option linter.unusedSimpArgs false
set_option maxRecDepth 100000
set_option maxHeartbeats 4000000
namespace Go.Proofs.Sd
open Go Go.Eng Go.Eng.HP Go.RowKit Go.Proofs
attribute [local irreducible] St New Drew Prim PrimU CallR CallV CallI CallX Meet Eng.Loop withSome HP.blk HP.mp Calls Holds Ret

section
variable {G : Gh} {w : World} {L : List HP}

abbrev vL (a : Option Addr) (l c : Nat) : Value := .agg #[.int .i64 7, .int .i64 0, .string em, .slice none 0 0, .slice none 0 0, .slice a l c]

theorem named_nil (h : Holds G w (all L)) : Calls pg f_bson_named #[.slice none 0 0] w (Ret fun v w' => v = .slice none 0 0 ∧ Holds G w' (all L)) := by
  apply of_bson_named
  unfold c_bson_named
  refine Loop.exit (fun X => ?_)
  dsimp only
  repeat' (first
    | (refine New.at h (fun b w hh => ?_); clear h; have h := hh; clear hh)
    | (refine Drew.of h (fun w hh => ?_); clear h; have h := hh; clear hh)
    | (refine St.at h 0 _ rfl rfl rfl (fun w hh => ?_); clear h; have h := hh; clear hh; simp only [List.set_cons_zero, List.set_cons_succ] at h)
    | refine ⟨_, h.lda 0 _ rfl rfl, ?_⟩
    | refine ⟨_, _, _, h.lda 0 _ rfl rfl, ?_⟩
    | refine ⟨h.lda 0 _ rfl rfl, ?_⟩
    | exact h.lda 0 _ rfl rfl
    | refine ⟨_, rfl, ?_⟩
    | refine ⟨_, _, rfl, ?_⟩
    | refine ⟨_, _, _, rfl, ?_⟩
    | refine ⟨_, _, _, _, _, _, _, _, _, _, _, _, rfl, ?_⟩
    | refine ⟨_, _, _, _, _, _, _, _, _, _, _, _, _, rfl, ?_⟩
    | refine ctt rfl ?_
    | refine cff rfl ?_
    | refine Meet.dup ?_
    | intro j
    | rw [ws]
    | simp only [ws, add_mk]
    | refine And.intro ?_ ?_)
  exact Ret.mk ⟨rfl, h⟩

theorem fields_nil (b : Nat) (x deep : Int) (hdeep : deep ≤ 32) (h5 : 5 ≤ IntKind.i64.wrap (65536 - x)) (h : Holds G w (all (blk b t_bson_weigher [.int .i64 x] :: L))) :
    Calls pg f_Pbson_weigher_fields #[ptr b, .slice none 0 0, .int .i64 deep] w (Ret fun v w' => v = .tuple #[] ∧ Holds G w' (all (blk b t_bson_weigher [.int .i64 (IntKind.i64.wrap (x + 5))] :: L))) := by
  apply of_Pbson_weigher_fields
  unfold c_Pbson_weigher_fields
  rw [decide_eq_true hdeep]
  refine CallR.of (must_ok _ h) ?_; rintro _ w ⟨rfl, h⟩; refine ⟨rfl, ?_⟩
  refine CallR.of (weigher_add b x 5 h5 h) ?_; rintro _ w ⟨rfl, h⟩; refine ⟨rfl, ?_⟩
  refine New.mapAt h (fun mb w h => ?_)
  refine Loop.exit (fun X => ?_)
  repeat' (first
    | (refine New.at h (fun b w hh => ?_); clear h; have h := hh; clear hh)
    | (refine Drew.of h (fun w hh => ?_); clear h; have h := hh; clear hh)
    | (refine St.at h 0 _ rfl rfl rfl (fun w hh => ?_); clear h; have h := hh; clear hh; simp only [List.set_cons_zero, List.set_cons_succ] at h)
    | refine ⟨_, h.lda 0 _ rfl rfl, ?_⟩
    | refine ⟨_, _, _, h.lda 0 _ rfl rfl, ?_⟩
    | refine ⟨h.lda 0 _ rfl rfl, ?_⟩
    | exact h.lda 0 _ rfl rfl
    | refine ⟨_, rfl, ?_⟩
    | refine ⟨_, _, rfl, ?_⟩
    | refine ⟨_, _, _, rfl, ?_⟩
    | refine ⟨_, _, _, _, _, _, _, _, _, _, _, _, rfl, ?_⟩
    | refine ⟨_, _, _, _, _, _, _, _, _, _, _, _, _, rfl, ?_⟩
    | refine ctt rfl ?_
    | refine cff rfl ?_
    | refine Meet.dup ?_
    | intro j
    | rw [ws]
    | simp only [ws, add_mk]
    | refine And.intro ?_ ?_)
  exact Ret.mk ⟨rfl, h.tail⟩

theorem value_none (b : Nat) (x deep : Int) (hdeep : IntKind.i64.wrap (deep + 1) ≤ 32) (h5 : 5 ≤ IntKind.i64.wrap (65536 - x)) (h : Holds G w (all (blk b t_bson_weigher [.int .i64 x] :: L))) :
    Calls pg f_Pbson_weigher_value #[ptr b, vL none 0 0, .int .i64 deep] w (Ret fun v w' => v = .tuple #[] ∧ Holds G w' (all (blk b t_bson_weigher [.int .i64 (IntKind.i64.wrap (x + 5))] :: L))) := by
  apply of_Pbson_weigher_value
  unfold c_Pbson_weigher_value
  repeat' (first
    | (refine New.at h (fun b w hh => ?_); clear h; have h := hh; clear hh)
    | (refine Drew.of h (fun w hh => ?_); clear h; have h := hh; clear hh)
    | (refine St.at h 0 _ rfl rfl rfl (fun w hh => ?_); clear h; have h := hh; clear hh; simp only [List.set_cons_zero, List.set_cons_succ] at h)
    | (refine St.at h 1 _ rfl rfl rfl (fun w hh => ?_); clear h; have h := hh; clear hh; simp only [List.set_cons_zero, List.set_cons_succ] at h)
    | (refine St.at h 2 _ rfl rfl rfl (fun w hh => ?_); clear h; have h := hh; clear hh; simp only [List.set_cons_zero, List.set_cons_succ] at h)
    | (refine St.at h 3 _ rfl rfl rfl (fun w hh => ?_); clear h; have h := hh; clear hh; simp only [List.set_cons_zero, List.set_cons_succ] at h)
    | (refine CallR.of (code_num _ (.inr (.inr (.inr rfl))) h) ?_; rintro _ w ⟨⟨cc, hcc, rfl⟩, h⟩)
    | refine ctt hcc ?_
    | (refine CallR.of (plain_list _ _ _ h) ?_; rintro _ w ⟨rfl, h⟩)
    | (refine CallR.of (must_ok _ h) ?_; rintro _ w ⟨rfl, h⟩; refine ⟨rfl, ?_⟩)
    | (refine CallR.of (named_nil h) ?_; rintro _ w ⟨rfl, h⟩)
    | (refine CallR.of (fields_nil _ _ _ hdeep h5 (h.bring 1 rfl)) ?_; rintro _ w ⟨rfl, h⟩; refine ⟨rfl, ?_⟩)
    | refine ⟨_, h.lda 0 _ rfl rfl, ?_⟩
    | refine ⟨_, _, _, h.lda 0 _ rfl rfl, ?_⟩
    | refine ⟨h.lda 0 _ rfl rfl, ?_⟩
    | refine ⟨_, h.lda 1 _ rfl rfl, ?_⟩
    | refine ⟨_, _, _, h.lda 1 _ rfl rfl, ?_⟩
    | refine ⟨h.lda 1 _ rfl rfl, ?_⟩
    | refine ⟨_, h.lda 2 _ rfl rfl, ?_⟩
    | refine ⟨_, _, _, h.lda 2 _ rfl rfl, ?_⟩
    | refine ⟨h.lda 2 _ rfl rfl, ?_⟩
    | refine ⟨_, h.lda 3 _ rfl rfl, ?_⟩
    | refine ⟨_, _, _, h.lda 3 _ rfl rfl, ?_⟩
    | refine ⟨h.lda 3 _ rfl rfl, ?_⟩
    | exact h.lda 0 _ rfl rfl
    | exact h.lda 1 _ rfl rfl
    | exact h.lda 2 _ rfl rfl
    | exact h.lda 3 _ rfl rfl
    | refine ⟨_, rfl, ?_⟩
    | refine ⟨_, _, rfl, ?_⟩
    | refine ⟨_, _, _, rfl, ?_⟩
    | refine ⟨_, _, _, _, _, _, _, _, _, _, _, _, rfl, ?_⟩
    | refine ⟨_, _, _, _, _, _, _, _, _, _, _, _, _, rfl, ?_⟩
    | refine ctt rfl ?_
    | refine cff rfl ?_
    | refine Meet.dup ?_
    | intro j
    | rw [ws]
    | simp only [ws, add_mk]
    | refine And.intro ?_ ?_)
  exact Ret.mk ⟨rfl, h.skip⟩

theorem own_none (h : Holds G w (all L)) : Calls pg f_accum_own #[vL none 0 0] w (Ret fun v w' => v = .int .i64 5 ∧ Holds G w' (all L)) := by
  apply of_accum_own
  unfold c_accum_own
  repeat' (first
    | (refine New.at h (fun b w hh => ?_); clear h; have h := hh; clear hh)
    | (refine Drew.of h (fun w hh => ?_); clear h; have h := hh; clear hh)
    | (refine St.at h 0 _ rfl rfl rfl (fun w hh => ?_); clear h; have h := hh; clear hh; simp only [List.set_cons_zero, List.set_cons_succ] at h)
    | (refine St.at h 1 _ rfl rfl rfl (fun w hh => ?_); clear h; have h := hh; clear hh; simp only [List.set_cons_zero, List.set_cons_succ] at h)
    | (refine St.at h 2 _ rfl rfl rfl (fun w hh => ?_); clear h; have h := hh; clear hh; simp only [List.set_cons_zero, List.set_cons_succ] at h)
    | refine ⟨_, h.lda 0 _ rfl rfl, ?_⟩
    | refine ⟨_, _, _, h.lda 0 _ rfl rfl, ?_⟩
    | refine ⟨h.lda 0 _ rfl rfl, ?_⟩
    | refine ⟨_, h.lda 1 _ rfl rfl, ?_⟩
    | refine ⟨_, _, _, h.lda 1 _ rfl rfl, ?_⟩
    | refine ⟨h.lda 1 _ rfl rfl, ?_⟩
    | refine ⟨_, h.lda 2 _ rfl rfl, ?_⟩
    | refine ⟨_, _, _, h.lda 2 _ rfl rfl, ?_⟩
    | refine ⟨h.lda 2 _ rfl rfl, ?_⟩
    | exact h.lda 0 _ rfl rfl
    | exact h.lda 1 _ rfl rfl
    | exact h.lda 2 _ rfl rfl
    | refine ⟨_, rfl, ?_⟩
    | refine ⟨_, _, rfl, ?_⟩
    | refine ⟨_, _, _, rfl, ?_⟩
    | refine ⟨_, _, _, _, _, _, _, _, _, _, _, _, rfl, ?_⟩
    | refine ⟨_, _, _, _, _, _, _, _, _, _, _, _, _, rfl, ?_⟩
    | refine ctt rfl ?_
    | refine cff rfl ?_
    | refine Meet.dup ?_
    | intro j
    | rw [ws]
    | simp only [ws, add_mk]
    | refine And.intro ?_ ?_)
  refine CallR.of (Size_same _ 12 _ _ _ _ _ _ _ _ _ _ _ _ (fun {b w L1} h => value_none b 7 1 (by decide) (by decide) h) h) ?_
  rintro _ w ⟨rfl, h⟩
  exact ⟨_, rfl, Ret.mk ⟨rfl, h.tail⟩⟩

theorem own_one (vb c : Nat) (k n : Int) (hk : k = 2 ∧ n = 0 ∨ k = 3 ∧ n = IntKind.i64.wrap (IntKind.i32.wrap n) ∨ k = 4)
    (h : Holds G w (all (blk vb t_api_Value [.int .i64 k, .int .i64 n, .string em, .slice none 0 0, .slice none 0 0, .slice none 0 0] :: L))) :
    Calls pg f_accum_own #[vL (some ⟨vb, 0, none⟩) 1 c] w (Ret fun v w' => v = .int .i64 (8 + wgt k) ∧ Holds G w' (all L)) := by
  apply of_accum_own
  unfold c_accum_own
  refine New.at h (fun b1 w h => ?_)
  repeat' (first
    | (refine New.at h (fun b w hh => ?_); clear h; have h := hh; clear hh)
    | (refine Drew.of h (fun w hh => ?_); clear h; have h := hh; clear hh)
    | (refine St.at h 0 _ rfl rfl rfl (fun w hh => ?_); clear h; have h := hh; clear hh; simp only [List.set_cons_zero, List.set_cons_succ] at h)
    | (refine St.at h 1 _ rfl rfl rfl (fun w hh => ?_); clear h; have h := hh; clear hh; simp only [List.set_cons_zero, List.set_cons_succ] at h)
    | (refine St.at h 2 _ rfl rfl rfl (fun w hh => ?_); clear h; have h := hh; clear hh; simp only [List.set_cons_zero, List.set_cons_succ] at h)
    | (refine St.at h 3 _ rfl rfl rfl (fun w hh => ?_); clear h; have h := hh; clear hh; simp only [List.set_cons_zero, List.set_cons_succ] at h)
    | refine ⟨_, h.lda 0 _ rfl rfl, ?_⟩
    | refine ⟨_, _, _, h.lda 0 _ rfl rfl, ?_⟩
    | refine ⟨h.lda 0 _ rfl rfl, ?_⟩
    | refine ⟨_, h.lda 1 _ rfl rfl, ?_⟩
    | refine ⟨_, _, _, h.lda 1 _ rfl rfl, ?_⟩
    | refine ⟨h.lda 1 _ rfl rfl, ?_⟩
    | refine ⟨_, h.lda 2 _ rfl rfl, ?_⟩
    | refine ⟨_, _, _, h.lda 2 _ rfl rfl, ?_⟩
    | refine ⟨h.lda 2 _ rfl rfl, ?_⟩
    | refine ⟨_, h.lda 3 _ rfl rfl, ?_⟩
    | refine ⟨_, _, _, h.lda 3 _ rfl rfl, ?_⟩
    | refine ⟨h.lda 3 _ rfl rfl, ?_⟩
    | exact h.lda 0 _ rfl rfl
    | exact h.lda 1 _ rfl rfl
    | exact h.lda 2 _ rfl rfl
    | exact h.lda 3 _ rfl rfl
    | refine ⟨_, rfl, ?_⟩
    | refine ⟨_, _, rfl, ?_⟩
    | refine ⟨_, _, _, rfl, ?_⟩
    | refine ⟨_, _, _, _, _, _, _, _, _, _, _, _, rfl, ?_⟩
    | refine ⟨_, _, _, _, _, _, _, _, _, _, _, _, _, rfl, ?_⟩
    | refine ctt rfl ?_
    | refine cff rfl ?_
    | refine Meet.dup ?_
    | intro j
    | rw [ws]
    | simp only [ws, add_mk]
    | refine And.intro ?_ ?_)
  refine CallR.of (Size_one _ (15 + wgt k) _ _ _ _ _ _ _ _ _ _ _ _ (L' := blk b1 t_api_Value [.int .i64 7, .int .i64 0, .string em, .slice none 0 0, .slice none 0 0, .slice (some ⟨vb, 0, none⟩) 1 c] :: L) (fun {b w L1} h => ?_) h) ?_
  · rw [List.append_cons] at h
    have h2 := h.mid
    refine Calls.mono (value_one b vb c 7 k n 1 hk (by decide) (.inl rfl) h2) ?_
    intro e w' he
    rw [List.append_cons]
    have e1 : 7 + 8 + wgt k = 15 + wgt k := by omega
    rw [e1] at he
    exact he
  · rintro _ w ⟨rfl, h⟩
    refine ⟨_, rfl, Ret.mk ⟨?_, h.tail⟩⟩
    have e1 : IntKind.i64.wrap (15 + wgt k - 7) = 8 + wgt k := by rcases hk with ⟨rfl, _⟩ | ⟨rfl, _⟩ | rfl <;> decide
    rw [e1]

theorem Kind_of (l : List UInt8) (r : Int) (hr : r = (if l = [36, 115, 117, 109] then 1 else if l = [36, 109, 105, 110] then 2 else if l = [36, 109, 97, 120] then 3 else if l = [36, 102, 105, 114, 115, 116] then 4 else if l = [36, 108, 97, 115, 116] then 5 else if l = [36, 112, 117, 115, 104] then 6 else if l = [36, 97, 100, 100, 84, 111, 83, 101, 116] then 7 else if l = [36, 99, 111, 117, 110, 116] then 8 else 0)) (h : Holds G w (all L)) :
    Calls pg f_accum_Kind #[.string ⟨l.toArray⟩] w (Ret fun v w' => v = .int .i64 r ∧ Holds G w' (all L)) := by
  apply of_accum_Kind
  unfold c_accum_Kind
  subst hr
  have key : ∀ (m : List UInt8) {A B : Prop}, (l = m → A) → (l ≠ m → B) → cond ((⟨l.toArray⟩ : ByteArray).toList == (⟨m.toArray⟩ : ByteArray).toList) A B := by
    intro m A B ha hb
    rw [str_eq]
    by_cases e : l = m
    · exact ctt (by simp [e]) (ha e)
    · exact cff (by simp [e]) (hb e)
  refine key _ (fun e => Ret.mk ⟨by rw [if_pos e], h⟩) (fun e => ?_)
  rw [if_neg e]
  refine key _ (fun e => Ret.mk ⟨by rw [if_pos e], h⟩) (fun e => ?_)
  rw [if_neg e]
  refine key _ (fun e => Ret.mk ⟨by rw [if_pos e], h⟩) (fun e => ?_)
  rw [if_neg e]
  refine key _ (fun e => Ret.mk ⟨by rw [if_pos e], h⟩) (fun e => ?_)
  rw [if_neg e]
  refine key _ (fun e => Ret.mk ⟨by rw [if_pos e], h⟩) (fun e => ?_)
  rw [if_neg e]
  refine key _ (fun e => Ret.mk ⟨by rw [if_pos e], h⟩) (fun e => ?_)
  rw [if_neg e]
  refine key _ (fun e => Ret.mk ⟨by rw [if_pos e], h⟩) (fun e => ?_)
  rw [if_neg e]
  refine key _ (fun e => Ret.mk ⟨by rw [if_pos e], h⟩) (fun e => ?_)
  rw [if_neg e]
  exact Ret.mk ⟨rfl, h⟩

/-- A state that keeps a list. -/
abbrev stl (s : Nat) (f : FuncId) (many size : Int) (a : Option Addr) (l c : Nat) : HP :=
  blk s t_accum_State [.func (.func f) #[.pointer (some ⟨s, 0, none⟩)] #[], .int .i64 many, .int .i64 7, .int .i64 0, .string em, .slice none 0 0, .slice none 0 0, .slice a l c, .int .i64 size, .bool false]

theorem New_sum (h : Holds G w (all L)) : Calls pg f_accum_New #[.int .i64 1] w (Ret fun v w' => ∃ s, v = ptr s ∧ Holds G w' (all (sta s f_Paccum_State_sum 0 3 0 0 false :: L))) := by
  apply of_accum_New
  unfold c_accum_New
  repeat' (first
    | (refine New.at h (fun b w hh => ?_); clear h; have h := hh; clear hh)
    | (refine Drew.of h (fun w hh => ?_); clear h; have h := hh; clear hh)
    | (refine St.at h 0 _ rfl rfl rfl (fun w hh => ?_); clear h; have h := hh; clear hh; simp only [List.set_cons_zero, List.set_cons_succ] at h)
    | (refine St.at h 1 _ rfl rfl rfl (fun w hh => ?_); clear h; have h := hh; clear hh; simp only [List.set_cons_zero, List.set_cons_succ] at h)
    | (refine CallR.of (num_Of _ h) ?_; rintro _ w ⟨rfl, h⟩)
    | refine ⟨_, h.lda 0 _ rfl rfl, ?_⟩
    | refine ⟨_, _, _, h.lda 0 _ rfl rfl, ?_⟩
    | refine ⟨h.lda 0 _ rfl rfl, ?_⟩
    | refine ⟨_, h.lda 1 _ rfl rfl, ?_⟩
    | refine ⟨_, _, _, h.lda 1 _ rfl rfl, ?_⟩
    | refine ⟨h.lda 1 _ rfl rfl, ?_⟩
    | exact h.lda 0 _ rfl rfl
    | exact h.lda 1 _ rfl rfl
    | refine ⟨_, rfl, ?_⟩
    | refine ⟨_, _, rfl, ?_⟩
    | refine ⟨_, _, _, rfl, ?_⟩
    | refine ⟨_, _, _, _, _, _, _, _, _, _, _, _, rfl, ?_⟩
    | refine ⟨_, _, _, _, _, _, _, _, _, _, _, _, _, rfl, ?_⟩
    | refine ctt rfl ?_
    | refine cff rfl ?_
    | refine Meet.dup ?_
    | intro j
    | rw [ws]
    | simp only [ws, add_mk]
    | refine And.intro ?_ ?_)
  exact Ret.mk ⟨_, rfl, h⟩

/-- The kinds that have a function and no value at first. -/
theorem New_plain (k : Int) (f : Nat) (hk : k = 2 ∧ f = f_Paccum_State_least ∨ k = 3 ∧ f = f_Paccum_State_greatest ∨ k = 4 ∧ f = f_Paccum_State_first ∨ k = 5 ∧ f = f_Paccum_State_last) (h : Holds G w (all L)) :
    Calls pg f_accum_New #[.int .i64 k] w (Ret fun v w' => ∃ s, v = ptr s ∧ Holds G w' (all (sta s f 0 0 0 0 false :: L))) := by
  apply of_accum_New
  unfold c_accum_New
  rcases hk with ⟨rfl, rfl⟩ | ⟨rfl, rfl⟩ | ⟨rfl, rfl⟩ | ⟨rfl, rfl⟩
  all_goals
    repeat' (first
      | (refine New.at h (fun b w hh => ?_); clear h; have h := hh; clear hh)
      | (refine Drew.of h (fun w hh => ?_); clear h; have h := hh; clear hh)
      | (refine St.at h 0 _ rfl rfl rfl (fun w hh => ?_); clear h; have h := hh; clear hh; simp only [List.set_cons_zero, List.set_cons_succ] at h)
      | (refine St.at h 1 _ rfl rfl rfl (fun w hh => ?_); clear h; have h := hh; clear hh; simp only [List.set_cons_zero, List.set_cons_succ] at h)
      | refine ⟨_, h.lda 0 _ rfl rfl, ?_⟩
      | refine ⟨_, _, _, h.lda 0 _ rfl rfl, ?_⟩
      | refine ⟨h.lda 0 _ rfl rfl, ?_⟩
      | refine ⟨_, h.lda 1 _ rfl rfl, ?_⟩
      | refine ⟨_, _, _, h.lda 1 _ rfl rfl, ?_⟩
      | refine ⟨h.lda 1 _ rfl rfl, ?_⟩
      | exact h.lda 0 _ rfl rfl
      | exact h.lda 1 _ rfl rfl
      | refine ⟨_, rfl, ?_⟩
      | refine ⟨_, _, rfl, ?_⟩
      | refine ⟨_, _, _, rfl, ?_⟩
      | refine ⟨_, _, _, _, _, _, _, _, _, _, _, _, rfl, ?_⟩
      | refine ⟨_, _, _, _, _, _, _, _, _, _, _, _, _, rfl, ?_⟩
      | refine ctt rfl ?_
      | refine cff rfl ?_
      | refine Meet.dup ?_
      | intro j
      | rw [ws]
      | simp only [ws, add_mk]
      | refine And.intro ?_ ?_)
  all_goals exact Ret.mk ⟨_, rfl, h⟩

theorem New_count (h : Holds G w (all L)) : Calls pg f_accum_New #[.int .i64 8] w (Ret fun v w' => ∃ s, v = ptr s ∧ Holds G w' (all (sta s f_Paccum_State_none 0 0 0 0 true :: L))) := by
  apply of_accum_New
  unfold c_accum_New
  repeat' (first
    | (refine New.at h (fun b w hh => ?_); clear h; have h := hh; clear hh)
    | (refine Drew.of h (fun w hh => ?_); clear h; have h := hh; clear hh)
    | (refine St.at h 0 _ rfl rfl rfl (fun w hh => ?_); clear h; have h := hh; clear hh; simp only [List.set_cons_zero, List.set_cons_succ] at h)
    | (refine St.at h 1 _ rfl rfl rfl (fun w hh => ?_); clear h; have h := hh; clear hh; simp only [List.set_cons_zero, List.set_cons_succ] at h)
    | refine ⟨_, h.lda 0 _ rfl rfl, ?_⟩
    | refine ⟨_, _, _, h.lda 0 _ rfl rfl, ?_⟩
    | refine ⟨h.lda 0 _ rfl rfl, ?_⟩
    | refine ⟨_, h.lda 1 _ rfl rfl, ?_⟩
    | refine ⟨_, _, _, h.lda 1 _ rfl rfl, ?_⟩
    | refine ⟨h.lda 1 _ rfl rfl, ?_⟩
    | exact h.lda 0 _ rfl rfl
    | exact h.lda 1 _ rfl rfl
    | refine ⟨_, rfl, ?_⟩
    | refine ⟨_, _, rfl, ?_⟩
    | refine ⟨_, _, _, rfl, ?_⟩
    | refine ⟨_, _, _, _, _, _, _, _, _, _, _, _, rfl, ?_⟩
    | refine ⟨_, _, _, _, _, _, _, _, _, _, _, _, _, rfl, ?_⟩
    | refine ctt rfl ?_
    | refine cff rfl ?_
    | refine Meet.dup ?_
    | intro j
    | rw [ws]
    | simp only [ws, add_mk]
    | refine And.intro ?_ ?_)
  exact Ret.mk ⟨_, rfl, h⟩

theorem New_list (k : Int) (f : Nat) (hk : k = 6 ∧ f = f_Paccum_State_push ∨ k = 7 ∧ f = f_Paccum_State_set) (h : Holds G w (all L)) :
    Calls pg f_accum_New #[.int .i64 k] w (Ret fun v w' => ∃ s, v = ptr s ∧ Holds G w' (all (stl s f 0 5 none 0 0 :: L))) := by
  apply of_accum_New
  unfold c_accum_New
  rcases hk with ⟨rfl, rfl⟩ | ⟨rfl, rfl⟩
  all_goals
    repeat' (first
      | (refine New.at h (fun b w hh => ?_); clear h; have h := hh; clear hh)
      | (refine Drew.of h (fun w hh => ?_); clear h; have h := hh; clear hh)
      | (refine St.at h 0 _ rfl rfl rfl (fun w hh => ?_); clear h; have h := hh; clear hh; simp only [List.set_cons_zero, List.set_cons_succ] at h)
      | (refine St.at h 1 _ rfl rfl rfl (fun w hh => ?_); clear h; have h := hh; clear hh; simp only [List.set_cons_zero, List.set_cons_succ] at h)
      | (refine CallR.of (own_none h) ?_; rintro _ w ⟨rfl, h⟩)
      | refine ⟨_, h.lda 0 _ rfl rfl, ?_⟩
      | refine ⟨_, _, _, h.lda 0 _ rfl rfl, ?_⟩
      | refine ⟨h.lda 0 _ rfl rfl, ?_⟩
      | refine ⟨_, h.lda 1 _ rfl rfl, ?_⟩
      | refine ⟨_, _, _, h.lda 1 _ rfl rfl, ?_⟩
      | refine ⟨h.lda 1 _ rfl rfl, ?_⟩
      | exact h.lda 0 _ rfl rfl
      | exact h.lda 1 _ rfl rfl
      | refine ⟨_, rfl, ?_⟩
      | refine ⟨_, _, rfl, ?_⟩
      | refine ⟨_, _, _, rfl, ?_⟩
      | refine ⟨_, _, _, _, _, _, _, _, _, _, _, _, rfl, ?_⟩
      | refine ⟨_, _, _, _, _, _, _, _, _, _, _, _, _, rfl, ?_⟩
      | refine ctt rfl ?_
      | refine cff rfl ?_
      | refine Meet.dup ?_
      | intro j
      | rw [ws]
      | simp only [ws, add_mk]
      | refine And.intro ?_ ?_)
  all_goals exact Ret.mk ⟨_, rfl, h⟩

/-- What a state that keeps a number comes to. -/
theorem Value_num (s : Nat) (f : Nat) (many k n size : Int) (hk : k ≠ 0) (h : Holds G w (all (sta s f many k n size false :: L))) :
    Calls pg f_Paccum_State_Value #[ptr s] w (Ret fun v w' => v = vI k n ∧ Holds G w' (all (sta s f many k n size false :: L))) := by
  apply of_Paccum_State_Value
  unfold c_Paccum_State_Value
  repeat' (first
    | (refine New.at h (fun b w hh => ?_); clear h; have h := hh; clear hh)
    | (refine Drew.of h (fun w hh => ?_); clear h; have h := hh; clear hh)
    | (refine St.at h 0 _ rfl rfl rfl (fun w hh => ?_); clear h; have h := hh; clear hh; simp only [List.set_cons_zero, List.set_cons_succ] at h)
    | (refine St.at h 1 _ rfl rfl rfl (fun w hh => ?_); clear h; have h := hh; clear hh; simp only [List.set_cons_zero, List.set_cons_succ] at h)
    | (refine St.at h 2 _ rfl rfl rfl (fun w hh => ?_); clear h; have h := hh; clear hh; simp only [List.set_cons_zero, List.set_cons_succ] at h)
    | refine isNil_fn ?_
    | refine cff (beq_no hk) ?_
    | (refine CallR.of (Copy_num _ _ h) ?_; rintro _ w ⟨rfl, h⟩)
    | refine ⟨_, h.lda 0 _ rfl rfl, ?_⟩
    | refine ⟨_, _, _, h.lda 0 _ rfl rfl, ?_⟩
    | refine ⟨h.lda 0 _ rfl rfl, ?_⟩
    | refine ⟨_, h.lda 1 _ rfl rfl, ?_⟩
    | refine ⟨_, _, _, h.lda 1 _ rfl rfl, ?_⟩
    | refine ⟨h.lda 1 _ rfl rfl, ?_⟩
    | refine ⟨_, h.lda 2 _ rfl rfl, ?_⟩
    | refine ⟨_, _, _, h.lda 2 _ rfl rfl, ?_⟩
    | refine ⟨h.lda 2 _ rfl rfl, ?_⟩
    | exact h.lda 0 _ rfl rfl
    | exact h.lda 1 _ rfl rfl
    | exact h.lda 2 _ rfl rfl
    | refine ⟨_, rfl, ?_⟩
    | refine ⟨_, _, rfl, ?_⟩
    | refine ⟨_, _, _, rfl, ?_⟩
    | refine ⟨_, _, _, _, _, _, _, _, _, _, _, _, rfl, ?_⟩
    | refine ⟨_, _, _, _, _, _, _, _, _, _, _, _, _, rfl, ?_⟩
    | refine ctt rfl ?_
    | refine cff rfl ?_
    | refine Meet.dup ?_
    | intro j
    | rw [ws]
    | simp only [ws, add_mk]
    | refine And.intro ?_ ?_)
  exact Ret.mk ⟨rfl, h.tail⟩

theorem Value_none (s : Nat) (f : Nat) (many n size : Int) (h : Holds G w (all (sta s f many 0 n size false :: L))) :
    Calls pg f_Paccum_State_Value #[ptr s] w (Ret fun v w' => v = vI 2 0 ∧ Holds G w' (all (sta s f many 0 n size false :: L))) := by
  apply of_Paccum_State_Value
  unfold c_Paccum_State_Value
  repeat' (first
    | (refine New.at h (fun b w hh => ?_); clear h; have h := hh; clear hh)
    | (refine Drew.of h (fun w hh => ?_); clear h; have h := hh; clear hh)
    | (refine St.at h 0 _ rfl rfl rfl (fun w hh => ?_); clear h; have h := hh; clear hh; simp only [List.set_cons_zero, List.set_cons_succ] at h)
    | (refine St.at h 1 _ rfl rfl rfl (fun w hh => ?_); clear h; have h := hh; clear hh; simp only [List.set_cons_zero, List.set_cons_succ] at h)
    | (refine St.at h 2 _ rfl rfl rfl (fun w hh => ?_); clear h; have h := hh; clear hh; simp only [List.set_cons_zero, List.set_cons_succ] at h)
    | refine isNil_fn ?_
    | refine ⟨_, h.lda 0 _ rfl rfl, ?_⟩
    | refine ⟨_, _, _, h.lda 0 _ rfl rfl, ?_⟩
    | refine ⟨h.lda 0 _ rfl rfl, ?_⟩
    | refine ⟨_, h.lda 1 _ rfl rfl, ?_⟩
    | refine ⟨_, _, _, h.lda 1 _ rfl rfl, ?_⟩
    | refine ⟨h.lda 1 _ rfl rfl, ?_⟩
    | refine ⟨_, h.lda 2 _ rfl rfl, ?_⟩
    | refine ⟨_, _, _, h.lda 2 _ rfl rfl, ?_⟩
    | refine ⟨h.lda 2 _ rfl rfl, ?_⟩
    | exact h.lda 0 _ rfl rfl
    | exact h.lda 1 _ rfl rfl
    | exact h.lda 2 _ rfl rfl
    | refine ⟨_, rfl, ?_⟩
    | refine ⟨_, _, rfl, ?_⟩
    | refine ⟨_, _, _, rfl, ?_⟩
    | refine ⟨_, _, _, _, _, _, _, _, _, _, _, _, rfl, ?_⟩
    | refine ⟨_, _, _, _, _, _, _, _, _, _, _, _, _, rfl, ?_⟩
    | refine ctt rfl ?_
    | refine cff rfl ?_
    | refine Meet.dup ?_
    | intro j
    | rw [ws]
    | simp only [ws, add_mk]
    | refine And.intro ?_ ?_)
  exact Ret.mk ⟨rfl, h.tail⟩

theorem Value_count (s : Nat) (f : Nat) (many k n size : Int) (h : Holds G w (all (sta s f many k n size true :: L))) :
    Calls pg f_Paccum_State_Value #[ptr s] w (Ret fun v w' => v = vI (ofKind many) many ∧ Holds G w' (all (sta s f many k n size true :: L))) := by
  apply of_Paccum_State_Value
  unfold c_Paccum_State_Value
  repeat' (first
    | (refine New.at h (fun b w hh => ?_); clear h; have h := hh; clear hh)
    | (refine Drew.of h (fun w hh => ?_); clear h; have h := hh; clear hh)
    | (refine St.at h 0 _ rfl rfl rfl (fun w hh => ?_); clear h; have h := hh; clear hh; simp only [List.set_cons_zero, List.set_cons_succ] at h)
    | (refine St.at h 1 _ rfl rfl rfl (fun w hh => ?_); clear h; have h := hh; clear hh; simp only [List.set_cons_zero, List.set_cons_succ] at h)
    | (refine St.at h 2 _ rfl rfl rfl (fun w hh => ?_); clear h; have h := hh; clear hh; simp only [List.set_cons_zero, List.set_cons_succ] at h)
    | refine isNil_fn ?_
    | (refine CallR.of (num_Of _ h) ?_; rintro _ w ⟨rfl, h⟩)
    | refine ⟨_, h.lda 0 _ rfl rfl, ?_⟩
    | refine ⟨_, _, _, h.lda 0 _ rfl rfl, ?_⟩
    | refine ⟨h.lda 0 _ rfl rfl, ?_⟩
    | refine ⟨_, h.lda 1 _ rfl rfl, ?_⟩
    | refine ⟨_, _, _, h.lda 1 _ rfl rfl, ?_⟩
    | refine ⟨h.lda 1 _ rfl rfl, ?_⟩
    | refine ⟨_, h.lda 2 _ rfl rfl, ?_⟩
    | refine ⟨_, _, _, h.lda 2 _ rfl rfl, ?_⟩
    | refine ⟨h.lda 2 _ rfl rfl, ?_⟩
    | exact h.lda 0 _ rfl rfl
    | exact h.lda 1 _ rfl rfl
    | exact h.lda 2 _ rfl rfl
    | refine ⟨_, rfl, ?_⟩
    | refine ⟨_, _, rfl, ?_⟩
    | refine ⟨_, _, _, rfl, ?_⟩
    | refine ⟨_, _, _, _, _, _, _, _, _, _, _, _, rfl, ?_⟩
    | refine ⟨_, _, _, _, _, _, _, _, _, _, _, _, _, rfl, ?_⟩
    | refine ctt rfl ?_
    | refine cff rfl ?_
    | refine Meet.dup ?_
    | intro j
    | rw [ws]
    | simp only [ws, add_mk]
    | refine And.intro ?_ ?_)
  exact Ret.mk ⟨rfl, h.tail⟩

theorem Size_num (s : Nat) (f : Nat) (many k n : Int) (hk : k = 2 ∧ n = 0 ∨ k = 3 ∧ n = IntKind.i64.wrap (IntKind.i32.wrap n) ∨ k = 4) (h : Holds G w (all (sta s f many k n 0 false :: L))) :
    Calls pg f_Paccum_State_Size #[ptr s] w (Ret fun v w' => v = .int .i64 (16 + wgt k) ∧ Holds G w' (all (sta s f many k n 0 false :: L))) := by
  apply of_Paccum_State_Size
  unfold c_Paccum_State_Size
  repeat' (first
    | (refine New.at h (fun b w hh => ?_); clear h; have h := hh; clear hh)
    | (refine Drew.of h (fun w hh => ?_); clear h; have h := hh; clear hh)
    | (refine St.at h 0 _ rfl rfl rfl (fun w hh => ?_); clear h; have h := hh; clear hh; simp only [List.set_cons_zero, List.set_cons_succ] at h)
    | (refine St.at h 1 _ rfl rfl rfl (fun w hh => ?_); clear h; have h := hh; clear hh; simp only [List.set_cons_zero, List.set_cons_succ] at h)
    | (refine St.at h 2 _ rfl rfl rfl (fun w hh => ?_); clear h; have h := hh; clear hh; simp only [List.set_cons_zero, List.set_cons_succ] at h)
    | refine isNil_fn ?_
    | (refine CallR.of (own_num _ _ hk h) ?_; rintro _ w ⟨rfl, h⟩)
    | refine ⟨_, h.lda 0 _ rfl rfl, ?_⟩
    | refine ⟨_, _, _, h.lda 0 _ rfl rfl, ?_⟩
    | refine ⟨h.lda 0 _ rfl rfl, ?_⟩
    | refine ⟨_, h.lda 1 _ rfl rfl, ?_⟩
    | refine ⟨_, _, _, h.lda 1 _ rfl rfl, ?_⟩
    | refine ⟨h.lda 1 _ rfl rfl, ?_⟩
    | refine ⟨_, h.lda 2 _ rfl rfl, ?_⟩
    | refine ⟨_, _, _, h.lda 2 _ rfl rfl, ?_⟩
    | refine ⟨h.lda 2 _ rfl rfl, ?_⟩
    | exact h.lda 0 _ rfl rfl
    | exact h.lda 1 _ rfl rfl
    | exact h.lda 2 _ rfl rfl
    | refine ⟨_, rfl, ?_⟩
    | refine ⟨_, _, rfl, ?_⟩
    | refine ⟨_, _, _, rfl, ?_⟩
    | refine ⟨_, _, _, _, _, _, _, _, _, _, _, _, rfl, ?_⟩
    | refine ⟨_, _, _, _, _, _, _, _, _, _, _, _, _, rfl, ?_⟩
    | refine ctt rfl ?_
    | refine cff rfl ?_
    | refine Meet.dup ?_
    | intro j
    | rw [ws]
    | simp only [ws, add_mk]
    | refine And.intro ?_ ?_)
  refine Ret.mk ⟨?_, h⟩
  have e : IntKind.i64.wrap (16 + if wgt k > 0 then wgt k else 0) = 16 + wgt k := by rcases hk with ⟨rfl, _⟩ | ⟨rfl, _⟩ | rfl <;> decide
  rw [e]

end
end Go.Proofs.Sd
