/- What a value weighs. -/
import Derived.Test.YtnckkeefipaoeaaDoorAc2
import Derived.Test.YtnckkeefipaoeaaDoorSl4
set_option linter.unusedVariables false
set_option linter.unusedSimpArgs false
set_option maxRecDepth 100000
set_option maxHeartbeats 4000000
namespace Go.Proofs.Sd
open Go Go.Eng Go.Eng.HP Go.RowKit Go.Proofs

theorem u_map : Tryd.prog.underlying t_map_string_struct = some (.map t_string t_struct) := by kernel_rfl
theorem u_str : Tryd.prog.underlying t_string = some .string := by kernel_rfl
theorem u_bytes : Tryd.prog.underlying t_Suint8 = some (.slice t_uint8) := by kernel_rfl
theorem u_u8 : Tryd.prog.underlying t_uint8 = some (.int .u8) := by kernel_rfl
theorem z_struct (w : World) : (zeroValue t_struct).run Tryd.prog w = .ok (.agg #[]) w := by
  obtain ⟨inf, h1, h2⟩ : ∃ inf, Tryd.prog.info? t_struct = some inf ∧ inf.zero = some (.agg #[]) := by
    have : (Tryd.prog.info? t_struct).bind (·.zero) = some (.agg #[]) := by kernel_rfl
    cases h : Tryd.prog.info? t_struct with
    | none => rw [h] at this; cases this
    | some inf => rw [h] at this; exact ⟨inf, rfl, this⟩
  exact zero_run h1 h2 w
attribute [local irreducible] St New Drew Prim PrimU CallR CallV CallI CallX Meet Eng.Loop withSome HP.blk HP.mp Calls Holds Ret

section
variable {G : Gh} {w : World} {L : List HP}

theorem must_ok (e : Int) (h : Holds G w (all L)) : Calls pg f_bson_must #[.bool true, .int .i64 e] w (Ret fun v w' => v = .tuple #[] ∧ Holds G w' (all L)) := by
  apply of_bson_must
  unfold c_bson_must
  repeat' (first
    | (refine New.at h (fun b w hh => ?_); clear h; have h := hh; clear hh)
    | (refine Drew.of h (fun w hh => ?_); clear h; have h := hh; clear hh)
    | (refine St.at h 0 _ rfl rfl rfl (fun w hh => ?_); clear h; have h := hh; clear hh; simp only [List.set_cons_zero, List.set_cons_succ] at h)
    | (refine St.at h 1 _ rfl rfl rfl (fun w hh => ?_); clear h; have h := hh; clear hh; simp only [List.set_cons_zero, List.set_cons_succ] at h)
    | (refine St.at h 2 _ rfl rfl rfl (fun w hh => ?_); clear h; have h := hh; clear hh; simp only [List.set_cons_zero, List.set_cons_succ] at h)
    | (refine St.at h 3 _ rfl rfl rfl (fun w hh => ?_); clear h; have h := hh; clear hh; simp only [List.set_cons_zero, List.set_cons_succ] at h)
    | refine ⟨_, h.lda 0 _ rfl rfl, ?_⟩
    | refine ⟨_, _, _, h.lda 0 _ rfl rfl, ?_⟩
    | refine ⟨h.lda 0 _ rfl rfl, ?_⟩
    | refine ⟨_, h.lda 1 _ rfl rfl, ?_⟩
    | refine ⟨_, _, _, h.lda 1 _ rfl rfl, ?_⟩
    | refine ⟨h.lda 1 _ rfl rfl, ?_⟩
    | refine ⟨_, h.lda 2 _ rfl rfl, ?_⟩
    | refine ⟨_, _, _, h.lda 2 _ rfl rfl, ?_⟩
    | refine ⟨h.lda 2 _ rfl rfl, ?_⟩
    | refine ⟨_, h.lda 3 _ rfl rfl, ?_⟩
    | refine ⟨_, _, _, h.lda 3 _ rfl rfl, ?_⟩
    | refine ⟨h.lda 3 _ rfl rfl, ?_⟩
    | exact h.lda 0 _ rfl rfl
    | exact h.lda 1 _ rfl rfl
    | exact h.lda 2 _ rfl rfl
    | exact h.lda 3 _ rfl rfl
    | refine ⟨_, rfl, ?_⟩
    | refine ⟨_, _, rfl, ?_⟩
    | refine ⟨_, _, _, rfl, ?_⟩
    | refine ⟨_, _, _, _, _, _, _, _, _, _, _, _, rfl, ?_⟩
    | refine ⟨_, _, _, _, _, _, _, _, _, _, _, _, _, rfl, ?_⟩
    | refine ctt rfl ?_
    | refine cff rfl ?_
    | refine Meet.dup ?_
    | intro j
    | rw [ws]
    | simp only [ws, add_mk]
    | refine And.intro ?_ ?_)
  exact Ret.mk ⟨rfl, h⟩

theorem weigher_add (b : Nat) (x n : Int) (hx : n ≤ IntKind.i64.wrap (65536 - x)) (h : Holds G w (all (blk b t_bson_weigher [.int .i64 x] :: L))) :
    Calls pg f_Pbson_weigher_add #[ptr b, .int .i64 n] w (Ret fun v w' => v = .tuple #[] ∧ Holds G w' (all (blk b t_bson_weigher [.int .i64 (IntKind.i64.wrap (x + n))] :: L))) := by
  apply of_Pbson_weigher_add
  unfold c_Pbson_weigher_add
  have hd : decide (n ≤ IntKind.i64.wrap (65536 - x)) = true := decide_eq_true hx
  repeat' (first
    | (refine New.at h (fun b w hh => ?_); clear h; have h := hh; clear hh)
    | (refine Drew.of h (fun w hh => ?_); clear h; have h := hh; clear hh)
    | (refine St.at h 0 _ rfl rfl rfl (fun w hh => ?_); clear h; have h := hh; clear hh; simp only [List.set_cons_zero, List.set_cons_succ] at h)
    | (refine St.at h 1 _ rfl rfl rfl (fun w hh => ?_); clear h; have h := hh; clear hh; simp only [List.set_cons_zero, List.set_cons_succ] at h)
    | (rw [hd]; refine CallR.of (must_ok _ h) ?_; rintro _ w ⟨rfl, h⟩; refine ⟨rfl, ?_⟩)
    | refine ⟨_, h.lda 0 _ rfl rfl, ?_⟩
    | refine ⟨_, _, _, h.lda 0 _ rfl rfl, ?_⟩
    | refine ⟨h.lda 0 _ rfl rfl, ?_⟩
    | refine ⟨_, h.lda 1 _ rfl rfl, ?_⟩
    | refine ⟨_, _, _, h.lda 1 _ rfl rfl, ?_⟩
    | refine ⟨h.lda 1 _ rfl rfl, ?_⟩
    | exact h.lda 0 _ rfl rfl
    | exact h.lda 1 _ rfl rfl
    | refine ⟨_, rfl, ?_⟩
    | refine ⟨_, _, rfl, ?_⟩
    | refine ⟨_, _, _, rfl, ?_⟩
    | refine ⟨_, _, _, _, _, _, _, _, _, _, _, _, rfl, ?_⟩
    | refine ⟨_, _, _, _, _, _, _, _, _, _, _, _, _, rfl, ?_⟩
    | refine ctt rfl ?_
    | refine cff rfl ?_
    | refine Meet.dup ?_
    | intro j
    | rw [ws]
    | simp only [ws, add_mk]
    | refine And.intro ?_ ?_)
  exact Ret.mk ⟨rfl, h⟩

theorem Valid_none (h : Holds G w (all L)) : Calls pg f_unicode_utf8_ValidString #[.string ⟨#[]⟩] w (Ret fun v w' => v = .bool true ∧ Holds G w' (all L)) := by
  apply of_unicode_utf8_ValidString
  unfold c_unicode_utf8_ValidString
  repeat' (first
    | (refine New.at h (fun b w hh => ?_); clear h; have h := hh; clear hh)
    | (refine Drew.of h (fun w hh => ?_); clear h; have h := hh; clear hh)
    | (refine St.at h 0 _ rfl rfl rfl (fun w hh => ?_); clear h; have h := hh; clear hh; simp only [List.set_cons_zero, List.set_cons_succ] at h)
    | refine Loop.exit (fun X => ?_)
    | refine ⟨_, h.lda 0 _ rfl rfl, ?_⟩
    | refine ⟨_, _, _, h.lda 0 _ rfl rfl, ?_⟩
    | refine ⟨h.lda 0 _ rfl rfl, ?_⟩
    | exact h.lda 0 _ rfl rfl
    | refine ⟨_, rfl, ?_⟩
    | refine ⟨_, _, rfl, ?_⟩
    | refine ⟨_, _, _, rfl, ?_⟩
    | refine ⟨_, _, _, _, _, _, _, _, _, _, _, _, rfl, ?_⟩
    | refine ⟨_, _, _, _, _, _, _, _, _, _, _, _, _, rfl, ?_⟩
    | refine ctt rfl ?_
    | refine cff rfl ?_
    | refine Meet.dup ?_
    | intro j
    | rw [ws]
    | simp only [ws, add_mk]
    | refine And.intro ?_ ?_)
  exact Ret.mk ⟨rfl, h⟩

theorem Valid_0 (h : Holds G w (all L)) : Calls pg f_unicode_utf8_ValidString #[.string ⟨#[48]⟩] w (Ret fun v w' => v = .bool true ∧ Holds G w' (all L)) := by
  apply of_unicode_utf8_ValidString
  unfold c_unicode_utf8_ValidString
  refine Loop.start (fun X hX => ?_)
  repeat' (first
    | (refine New.at h (fun b w hh => ?_); clear h; have h := hh; clear hh)
    | (refine Drew.of h (fun w hh => ?_); clear h; have h := hh; clear hh)
    | (refine St.at h 0 _ rfl rfl rfl (fun w hh => ?_); clear h; have h := hh; clear hh; simp only [List.set_cons_zero, List.set_cons_succ] at h)
    | refine ⟨by decide, ?_⟩
    | (refine hX _ _ ?_; dsimp only)
    | refine ⟨_, h.lda 0 _ rfl rfl, ?_⟩
    | refine ⟨_, _, _, h.lda 0 _ rfl rfl, ?_⟩
    | refine ⟨h.lda 0 _ rfl rfl, ?_⟩
    | exact h.lda 0 _ rfl rfl
    | refine ⟨_, rfl, ?_⟩
    | refine ⟨_, _, rfl, ?_⟩
    | refine ⟨_, _, _, rfl, ?_⟩
    | refine ⟨_, _, _, _, _, _, _, _, _, _, _, _, rfl, ?_⟩
    | refine ⟨_, _, _, _, _, _, _, _, _, _, _, _, _, rfl, ?_⟩
    | refine ctt rfl ?_
    | refine cff rfl ?_
    | refine Meet.dup ?_
    | intro j
    | rw [ws]
    | simp only [ws, add_mk]
    | refine And.intro ?_ ?_)
  exact Ret.mk ⟨rfl, h⟩

theorem code_num (k : Int) (hk : k = 2 ∨ k = 3 ∨ k = 4 ∨ k = 7) (h : Holds G w (all L)) : Calls pg f_bson_code #[.int .i64 k] w (Ret fun v w' => (∃ c : Int, (c != 0) = true ∧ v = .int .u8 c) ∧ Holds G w' (all L)) := by
  apply of_bson_code
  unfold c_bson_code
  rcases hk with rfl | rfl | rfl | rfl
  all_goals
    repeat' (first
      | (refine New.at h (fun b w hh => ?_); clear h; have h := hh; clear hh)
      | (refine Drew.of h (fun w hh => ?_); clear h; have h := hh; clear hh)
      | (refine St.at h 0 _ rfl rfl rfl (fun w hh => ?_); clear h; have h := hh; clear hh; simp only [List.set_cons_zero, List.set_cons_succ] at h)
      | refine ⟨_, h.lda 0 _ rfl rfl, ?_⟩
      | refine ⟨_, _, _, h.lda 0 _ rfl rfl, ?_⟩
      | refine ⟨h.lda 0 _ rfl rfl, ?_⟩
      | exact h.lda 0 _ rfl rfl
      | refine ⟨_, rfl, ?_⟩
      | refine ⟨_, _, rfl, ?_⟩
      | refine ⟨_, _, _, rfl, ?_⟩
      | refine ⟨_, _, _, _, _, _, _, _, _, _, _, _, rfl, ?_⟩
      | refine ⟨_, _, _, _, _, _, _, _, _, _, _, _, _, rfl, ?_⟩
      | refine ctt rfl ?_
      | refine cff rfl ?_
      | refine Meet.dup ?_
      | intro j
      | rw [ws]
      | simp only [ws, add_mk]
      | refine And.intro ?_ ?_)
  all_goals exact Ret.mk ⟨⟨_, rfl, rfl⟩, h⟩

theorem plain_num (k n : Int) (hk : k = 2 ∧ n = 0 ∨ k = 3 ∨ k = 4) (h : Holds G w (all L)) : Calls pg f_bson_plain #[vI k n] w (Ret fun v w' => v = .bool true ∧ Holds G w' (all L)) := by
  apply of_bson_plain
  unfold c_bson_plain
  rcases hk with ⟨rfl, rfl⟩ | rfl | rfl
  all_goals
    repeat' (first
      | (refine New.at h (fun b w hh => ?_); clear h; have h := hh; clear hh)
      | (refine Drew.of h (fun w hh => ?_); clear h; have h := hh; clear hh)
      | (refine St.at h 0 _ rfl rfl rfl (fun w hh => ?_); clear h; have h := hh; clear hh; simp only [List.set_cons_zero, List.set_cons_succ] at h)
      | refine ctt (beq_self_eq_true _) ?_
      | refine ⟨_, h.lda 0 _ rfl rfl, ?_⟩
      | refine ⟨_, _, _, h.lda 0 _ rfl rfl, ?_⟩
      | refine ⟨h.lda 0 _ rfl rfl, ?_⟩
      | exact h.lda 0 _ rfl rfl
      | refine ⟨_, rfl, ?_⟩
      | refine ⟨_, _, rfl, ?_⟩
      | refine ⟨_, _, _, rfl, ?_⟩
      | refine ⟨_, _, _, _, _, _, _, _, _, _, _, _, rfl, ?_⟩
      | refine ⟨_, _, _, _, _, _, _, _, _, _, _, _, _, rfl, ?_⟩
      | refine ctt rfl ?_
      | refine cff rfl ?_
      | refine Meet.dup ?_
      | intro j
      | rw [ws]
      | simp only [ws, add_mk]
      | refine And.intro ?_ ?_)
  all_goals exact Ret.mk ⟨rfl, h.tail⟩

theorem plain_list (a : Option Addr) (l c : Nat) (h : Holds G w (all L)) : Calls pg f_bson_plain #[.agg #[.int .i64 7, .int .i64 0, .string em, .slice none 0 0, .slice none 0 0, .slice a l c]] w (Ret fun v w' => v = .bool true ∧ Holds G w' (all L)) := by
  apply of_bson_plain
  unfold c_bson_plain
  repeat' (first
    | (refine New.at h (fun b w hh => ?_); clear h; have h := hh; clear hh)
    | (refine Drew.of h (fun w hh => ?_); clear h; have h := hh; clear hh)
    | (refine St.at h 0 _ rfl rfl rfl (fun w hh => ?_); clear h; have h := hh; clear hh; simp only [List.set_cons_zero, List.set_cons_succ] at h)
    | refine ctt (beq_self_eq_true _) ?_
    | refine ⟨_, h.lda 0 _ rfl rfl, ?_⟩
    | refine ⟨_, _, _, h.lda 0 _ rfl rfl, ?_⟩
    | refine ⟨h.lda 0 _ rfl rfl, ?_⟩
    | exact h.lda 0 _ rfl rfl
    | refine ⟨_, rfl, ?_⟩
    | refine ⟨_, _, rfl, ?_⟩
    | refine ⟨_, _, _, rfl, ?_⟩
    | refine ⟨_, _, _, _, _, _, _, _, _, _, _, _, rfl, ?_⟩
    | refine ⟨_, _, _, _, _, _, _, _, _, _, _, _, _, rfl, ?_⟩
    | refine ctt rfl ?_
    | refine cff rfl ?_
    | refine Meet.dup ?_
    | intro j
    | rw [ws]
    | simp only [ws, add_mk]
    | refine And.intro ?_ ?_)
  exact Ret.mk ⟨rfl, h.tail⟩

theorem plain_doc (a : Option Addr) (l c : Nat) (h : Holds G w (all L)) : Calls pg f_bson_plain #[.agg #[.int .i64 6, .int .i64 0, .string em, .slice none 0 0, .slice a l c, .slice none 0 0]] w (Ret fun v w' => v = .bool true ∧ Holds G w' (all L)) := by
  apply of_bson_plain
  unfold c_bson_plain
  repeat' (first
    | (refine New.at h (fun b w hh => ?_); clear h; have h := hh; clear hh)
    | (refine Drew.of h (fun w hh => ?_); clear h; have h := hh; clear hh)
    | (refine St.at h 0 _ rfl rfl rfl (fun w hh => ?_); clear h; have h := hh; clear hh; simp only [List.set_cons_zero, List.set_cons_succ] at h)
    | refine ctt (beq_self_eq_true _) ?_
    | refine ⟨_, h.lda 0 _ rfl rfl, ?_⟩
    | refine ⟨_, _, _, h.lda 0 _ rfl rfl, ?_⟩
    | refine ⟨h.lda 0 _ rfl rfl, ?_⟩
    | exact h.lda 0 _ rfl rfl
    | refine ⟨_, rfl, ?_⟩
    | refine ⟨_, _, rfl, ?_⟩
    | refine ⟨_, _, _, rfl, ?_⟩
    | refine ⟨_, _, _, _, _, _, _, _, _, _, _, _, rfl, ?_⟩
    | refine ⟨_, _, _, _, _, _, _, _, _, _, _, _, _, rfl, ?_⟩
    | refine ctt rfl ?_
    | refine cff rfl ?_
    | refine Meet.dup ?_
    | intro j
    | rw [ws]
    | simp only [ws, add_mk]
    | refine And.intro ?_ ?_)
  exact Ret.mk ⟨rfl, h.tail⟩

/-- The digits, each a string. -/
abbrev digits : ByteArray := ⟨#[48, 49, 50, 51, 52, 53, 54, 55, 56, 57, 97, 98, 99, 100, 101, 102, 103, 104, 105, 106, 107, 108, 109, 110, 111, 112, 113, 114, 115, 116, 117, 118, 119, 120, 121, 122]⟩

theorem Itoa_small (i : Int) (hi : i = 0 ∨ i = 1 ∨ i = 2) (h : Holds G w (all L)) : Calls pg f_strconv_Itoa #[.int .i64 i] w (Ret fun v w' => v = .string ⟨#[48 + UInt8.ofNat i.toNat]⟩ ∧ Holds G w' (all L)) := by
  have e1 : Calls pg f_internal_strconv_small #[.int .i64 i] w (Ret fun v w' => v = .string ⟨#[48 + UInt8.ofNat i.toNat]⟩ ∧ Holds G w' (all L)) := by
    apply of_internal_strconv_small
    unfold c_internal_strconv_small
    rcases hi with rfl | rfl | rfl
    all_goals
      repeat' (first
        | (refine New.at h (fun b w hh => ?_); clear h; have h := hh; clear hh)
        | (refine Drew.of h (fun w hh => ?_); clear h; have h := hh; clear hh)
        | (refine St.at h 0 _ rfl rfl rfl (fun w hh => ?_); clear h; have h := hh; clear hh; simp only [List.set_cons_zero, List.set_cons_succ] at h)
        | refine ⟨by decide, ?_⟩
        | refine ⟨_, h.lda 0 _ rfl rfl, ?_⟩
        | refine ⟨_, _, _, h.lda 0 _ rfl rfl, ?_⟩
        | refine ⟨h.lda 0 _ rfl rfl, ?_⟩
        | exact h.lda 0 _ rfl rfl
        | refine ⟨_, rfl, ?_⟩
        | refine ⟨_, _, rfl, ?_⟩
        | refine ⟨_, _, _, rfl, ?_⟩
        | refine ⟨_, _, _, _, _, _, _, _, _, _, _, _, rfl, ?_⟩
        | refine ⟨_, _, _, _, _, _, _, _, _, _, _, _, _, rfl, ?_⟩
        | refine ctt rfl ?_
        | refine cff rfl ?_
        | refine Meet.dup ?_
        | intro j
        | rw [ws]
        | simp only [ws, add_mk]
        | refine And.intro ?_ ?_)
    all_goals exact Ret.mk ⟨rfl, h⟩
  have e2 : Calls pg f_internal_strconv_FormatInt #[.int .i64 i, .int .i64 10] w (Ret fun v w' => v = .string ⟨#[48 + UInt8.ofNat i.toNat]⟩ ∧ Holds G w' (all L)) := by
    apply of_internal_strconv_FormatInt
    unfold c_internal_strconv_FormatInt
    rcases hi with rfl | rfl | rfl
    all_goals
      repeat' (first
        | (refine New.at h (fun b w hh => ?_); clear h; have h := hh; clear hh)
        | (refine Drew.of h (fun w hh => ?_); clear h; have h := hh; clear hh)
        | (refine St.at h 0 _ rfl rfl rfl (fun w hh => ?_); clear h; have h := hh; clear hh; simp only [List.set_cons_zero, List.set_cons_succ] at h)
        | (refine CallR.of e1 ?_; rintro _ w ⟨rfl, h⟩)
        | refine ⟨_, h.lda 0 _ rfl rfl, ?_⟩
        | refine ⟨_, _, _, h.lda 0 _ rfl rfl, ?_⟩
        | refine ⟨h.lda 0 _ rfl rfl, ?_⟩
        | exact h.lda 0 _ rfl rfl
        | refine ⟨_, rfl, ?_⟩
        | refine ⟨_, _, rfl, ?_⟩
        | refine ⟨_, _, _, rfl, ?_⟩
        | refine ⟨_, _, _, _, _, _, _, _, _, _, _, _, rfl, ?_⟩
        | refine ⟨_, _, _, _, _, _, _, _, _, _, _, _, _, rfl, ?_⟩
        | refine ctt rfl ?_
        | refine cff rfl ?_
        | refine Meet.dup ?_
        | intro j
        | rw [ws]
        | simp only [ws, add_mk]
        | refine And.intro ?_ ?_)
    all_goals exact Ret.mk ⟨rfl, h⟩
  have e3 : Calls pg f_internal_strconv_Itoa #[.int .i64 i] w (Ret fun v w' => v = .string ⟨#[48 + UInt8.ofNat i.toNat]⟩ ∧ Holds G w' (all L)) := by
    apply of_internal_strconv_Itoa
    unfold c_internal_strconv_Itoa
    repeat' (first
      | (refine New.at h (fun b w hh => ?_); clear h; have h := hh; clear hh)
      | (refine Drew.of h (fun w hh => ?_); clear h; have h := hh; clear hh)
      | (refine St.at h 0 _ rfl rfl rfl (fun w hh => ?_); clear h; have h := hh; clear hh; simp only [List.set_cons_zero, List.set_cons_succ] at h)
      | (refine CallR.of e2 ?_; rintro _ w ⟨rfl, h⟩)
      | refine ⟨_, h.lda 0 _ rfl rfl, ?_⟩
      | refine ⟨_, _, _, h.lda 0 _ rfl rfl, ?_⟩
      | refine ⟨h.lda 0 _ rfl rfl, ?_⟩
      | exact h.lda 0 _ rfl rfl
      | refine ⟨_, rfl, ?_⟩
      | refine ⟨_, _, rfl, ?_⟩
      | refine ⟨_, _, _, rfl, ?_⟩
      | refine ⟨_, _, _, _, _, _, _, _, _, _, _, _, rfl, ?_⟩
      | refine ⟨_, _, _, _, _, _, _, _, _, _, _, _, _, rfl, ?_⟩
      | refine ctt rfl ?_
      | refine cff rfl ?_
      | refine Meet.dup ?_
      | intro j
      | rw [ws]
      | simp only [ws, add_mk]
      | refine And.intro ?_ ?_)
    exact Ret.mk ⟨rfl, h⟩
  apply of_strconv_Itoa
  unfold c_strconv_Itoa
  repeat' (first
    | (refine New.at h (fun b w hh => ?_); clear h; have h := hh; clear hh)
    | (refine Drew.of h (fun w hh => ?_); clear h; have h := hh; clear hh)
    | (refine St.at h 0 _ rfl rfl rfl (fun w hh => ?_); clear h; have h := hh; clear hh; simp only [List.set_cons_zero, List.set_cons_succ] at h)
    | (refine CallR.of e3 ?_; rintro _ w ⟨rfl, h⟩)
    | refine ⟨_, h.lda 0 _ rfl rfl, ?_⟩
    | refine ⟨_, _, _, h.lda 0 _ rfl rfl, ?_⟩
    | refine ⟨h.lda 0 _ rfl rfl, ?_⟩
    | exact h.lda 0 _ rfl rfl
    | refine ⟨_, rfl, ?_⟩
    | refine ⟨_, _, rfl, ?_⟩
    | refine ⟨_, _, _, rfl, ?_⟩
    | refine ⟨_, _, _, _, _, _, _, _, _, _, _, _, rfl, ?_⟩
    | refine ⟨_, _, _, _, _, _, _, _, _, _, _, _, _, rfl, ?_⟩
    | refine ctt rfl ?_
    | refine cff rfl ?_
    | refine Meet.dup ?_
    | intro j
    | rw [ws]
    | simp only [ws, add_mk]
    | refine And.intro ?_ ?_)
  exact Ret.mk ⟨rfl, h⟩

theorem IndexByte_of (s : ByteArray) (c b : Nat) (hs : Lib.indexByte (Lib.bytesOf (s.data.toList.map fun x => (x.toNat : Int))) 0 = -1) (h : Holds G w (all (blk b t_uint8 (bytesRow s c).toList :: L))) :
    Calls pg f_bytes_IndexByte #[.slice (some ⟨b, 0, none⟩) s.size c, .int .u8 0] w (Ret fun v w' => v = .int .i64 (-1) ∧ Holds G w' (all L)) := by
  apply of_bytes_IndexByte
  unfold c_bytes_IndexByte
  refine indexByte_at Tryd.func85 (by kernel_rfl) (by kernel_rfl) (by kernel_rfl) (by kernel_rfl) (xs := s.data.toList.map fun x => (x.toNat : Int)) (by simp) (fun i hi => ?_) ?_
  · rw [add_mk]
    have hj : i < s.data.size := hi
    refine h.lda 0 (0 + i) rfl ?_
    rw [Array.getElem?_toList, Nat.zero_add, bytesRow_at s c i hj]
    rw [List.getD_eq_getElem?_getD, List.getElem?_map, Array.getElem?_toList, Array.getElem?_eq_getElem hj]
    rfl
  · refine ⟨_, rfl, Ret.mk ⟨?_, h.tail⟩⟩
    exact congrArg _ hs

/-- One field, whose value is weighed so. -/
theorem fields_one (b fb off c : Nat) (x d : Int) (nm : ByteArray) (k n : Int) (t : ByteArray) (a1 a2 a3 : Option Addr) (l1 c1 l2 c2 l3 c3 : Nat) (deep : Int) (hdeep : deep ≤ 32)
    (hnm : nm = ⟨#[]⟩ ∨ nm = ⟨#[48]⟩) (h5 : 5 ≤ IntKind.i64.wrap (65536 - x)) (h2 : IntKind.i64.wrap (2 + (nm.size : Int)) ≤ IntKind.i64.wrap (65536 - IntKind.i64.wrap (x + 5)))
    {L' : List HP} (hval : ∀ {w : World} {L1 : List HP}, Holds G w (all (blk b t_bson_weigher [.int .i64 (IntKind.i64.wrap (IntKind.i64.wrap (x + 5) + IntKind.i64.wrap (2 + (nm.size : Int))))] :: (L1 ++ L))) →
      Calls pg f_Pbson_weigher_value #[ptr b, .agg #[.int .i64 k, .int .i64 n, .string t, .slice a1 l1 c1, .slice a2 l2 c2, .slice a3 l3 c3], .int .i64 deep] w (Ret fun v w' => v = .tuple #[] ∧ Holds G w' (all (blk b t_bson_weigher [.int .i64 d] :: (L1 ++ L')))))
    (h : Holds G w (all (blk b t_bson_weigher [.int .i64 x] :: own t_api_Field 7 (some ⟨fb, off, none⟩) 1 c [.string nm, .int .i64 k, .int .i64 n, .string t, .slice a1 l1 c1, .slice a2 l2 c2, .slice a3 l3 c3] :: L))) :
    Calls pg f_Pbson_weigher_fields #[ptr b, .slice (some ⟨fb, off, none⟩) 1 c, .int .i64 deep] w (Ret fun v w' => v = .tuple #[] ∧ Holds G w' (all (blk b t_bson_weigher [.int .i64 d] :: L'))) := by
  apply of_Pbson_weigher_fields
  unfold c_Pbson_weigher_fields
  rw [decide_eq_true hdeep]
  refine CallR.of (must_ok _ h) ?_; rintro _ w ⟨rfl, h⟩; refine ⟨rfl, ?_⟩
  refine CallR.of (weigher_add b x 5 h5 h) ?_; rintro _ w ⟨rfl, h⟩; refine ⟨rfl, ?_⟩
  refine New.mapAt h (fun mb w h => ?_)
  refine Loop.start (fun X hX => ?_)
  refine hX _ _ ?_
  rcases hnm with rfl | rfl
  · repeat' (first
      | (refine New.at h (fun b w hh => ?_); clear h; have h := hh; clear hh)
      | (refine Drew.of h (fun w hh => ?_); clear h; have h := hh; clear hh)
      | (refine St.at h 0 _ rfl rfl rfl (fun w hh => ?_); clear h; have h := hh; clear hh; simp only [List.set_cons_zero, List.set_cons_succ] at h)
      | (refine St.at h 1 _ rfl rfl rfl (fun w hh => ?_); clear h; have h := hh; clear hh; simp only [List.set_cons_zero, List.set_cons_succ] at h)
      | (refine St.at h 2 _ rfl rfl rfl (fun w hh => ?_); clear h; have h := hh; clear hh; simp only [List.set_cons_zero, List.set_cons_succ] at h)
      | (refine St.at h 3 _ rfl rfl rfl (fun w hh => ?_); clear h; have h := hh; clear hh; simp only [List.set_cons_zero, List.set_cons_succ] at h)
      | (refine St.at h 4 _ rfl rfl rfl (fun w hh => ?_); clear h; have h := hh; clear hh; simp only [List.set_cons_zero, List.set_cons_succ] at h)
      | refine ⟨_, h.own_rd 2 0 rfl rfl rfl, ?_⟩
      | refine ⟨_, _, _, h.own_rd 2 0 rfl rfl rfl, ?_⟩
      | exact h.own_rd 2 0 rfl rfl rfl
      | refine ⟨_, h.own_rd 2 1 rfl rfl rfl, ?_⟩
      | refine ⟨_, _, _, h.own_rd 2 1 rfl rfl rfl, ?_⟩
      | exact h.own_rd 2 1 rfl rfl rfl
      | refine ⟨_, h.own_rd 2 2 rfl rfl rfl, ?_⟩
      | refine ⟨_, _, _, h.own_rd 2 2 rfl rfl rfl, ?_⟩
      | exact h.own_rd 2 2 rfl rfl rfl
      | refine ⟨_, h.own_rd 2 3 rfl rfl rfl, ?_⟩
      | refine ⟨_, _, _, h.own_rd 2 3 rfl rfl rfl, ?_⟩
      | exact h.own_rd 2 3 rfl rfl rfl
      | refine ⟨_, h.own_rd 2 4 rfl rfl rfl, ?_⟩
      | refine ⟨_, _, _, h.own_rd 2 4 rfl rfl rfl, ?_⟩
      | exact h.own_rd 2 4 rfl rfl rfl
      | refine ⟨_, h.own_rd 2 5 rfl rfl rfl, ?_⟩
      | refine ⟨_, _, _, h.own_rd 2 5 rfl rfl rfl, ?_⟩
      | exact h.own_rd 2 5 rfl rfl rfl
      | refine ⟨_, h.own_rd 2 6 rfl rfl rfl, ?_⟩
      | refine ⟨_, _, _, h.own_rd 2 6 rfl rfl rfl, ?_⟩
      | exact h.own_rd 2 6 rfl rfl rfl
      | refine ⟨by decide, ?_⟩
      | refine lookup_none u_map u_str z_struct h 1 rfl ?_
      | (refine CallR.of (Valid_none h) ?_; rintro _ w ⟨rfl, h⟩)
      | refine bytes_at u_str u_bytes u_u8 h (fun yb yc w h => ?_)
      | (refine CallR.of (IndexByte_of _ _ _ (by rfl) h) ?_; rintro _ w ⟨rfl, h⟩)
      | (refine CallR.of (must_ok _ h) ?_; rintro _ w ⟨rfl, h⟩; refine ⟨rfl, ?_⟩)
      | (refine update_none u_map u_str h 2 rfl (fun w h => ?_); simp only [List.set_cons_zero, List.set_cons_succ] at h)
      | (refine CallR.of (weigher_add _ _ _ h2 (h.bring 3 rfl)) ?_; rintro _ w ⟨rfl, h⟩; refine ⟨rfl, ?_⟩; simp only [List.eraseIdx_cons_zero, List.eraseIdx_cons_succ] at h)
      | (refine CallR.of (hval (L1 := [_, _, _, _]) h) ?_; rintro _ w ⟨rfl, h⟩; refine ⟨rfl, ?_⟩; simp only [List.cons_append, List.nil_append] at h)
      | refine hX _ _ ?_
      | refine ⟨_, h.lda 0 _ rfl rfl, ?_⟩
      | refine ⟨_, _, _, h.lda 0 _ rfl rfl, ?_⟩
      | refine ⟨h.lda 0 _ rfl rfl, ?_⟩
      | refine ⟨_, h.lda 1 _ rfl rfl, ?_⟩
      | refine ⟨_, _, _, h.lda 1 _ rfl rfl, ?_⟩
      | refine ⟨h.lda 1 _ rfl rfl, ?_⟩
      | refine ⟨_, h.lda 2 _ rfl rfl, ?_⟩
      | refine ⟨_, _, _, h.lda 2 _ rfl rfl, ?_⟩
      | refine ⟨h.lda 2 _ rfl rfl, ?_⟩
      | refine ⟨_, h.lda 3 _ rfl rfl, ?_⟩
      | refine ⟨_, _, _, h.lda 3 _ rfl rfl, ?_⟩
      | refine ⟨h.lda 3 _ rfl rfl, ?_⟩
      | refine ⟨_, h.lda 4 _ rfl rfl, ?_⟩
      | refine ⟨_, _, _, h.lda 4 _ rfl rfl, ?_⟩
      | refine ⟨h.lda 4 _ rfl rfl, ?_⟩
      | exact h.lda 0 _ rfl rfl
      | exact h.lda 1 _ rfl rfl
      | exact h.lda 2 _ rfl rfl
      | exact h.lda 3 _ rfl rfl
      | exact h.lda 4 _ rfl rfl
      | refine ⟨_, rfl, ?_⟩
      | refine ⟨_, _, rfl, ?_⟩
      | refine ⟨_, _, _, rfl, ?_⟩
      | refine ⟨_, _, _, _, _, _, _, _, _, _, _, _, rfl, ?_⟩
      | refine ⟨_, _, _, _, _, _, _, _, _, _, _, _, _, rfl, ?_⟩
      | refine ctt rfl ?_
      | refine cff rfl ?_
      | refine Meet.dup ?_
      | intro j
      | rw [ws]
      | simp only [ws, add_mk]
      | refine And.intro ?_ ?_)
    exact Ret.mk ⟨rfl, h.skip.skip.skip.skip⟩
  · repeat' (first
      | (refine New.at h (fun b w hh => ?_); clear h; have h := hh; clear hh)
      | (refine Drew.of h (fun w hh => ?_); clear h; have h := hh; clear hh)
      | (refine St.at h 0 _ rfl rfl rfl (fun w hh => ?_); clear h; have h := hh; clear hh; simp only [List.set_cons_zero, List.set_cons_succ] at h)
      | (refine St.at h 1 _ rfl rfl rfl (fun w hh => ?_); clear h; have h := hh; clear hh; simp only [List.set_cons_zero, List.set_cons_succ] at h)
      | (refine St.at h 2 _ rfl rfl rfl (fun w hh => ?_); clear h; have h := hh; clear hh; simp only [List.set_cons_zero, List.set_cons_succ] at h)
      | (refine St.at h 3 _ rfl rfl rfl (fun w hh => ?_); clear h; have h := hh; clear hh; simp only [List.set_cons_zero, List.set_cons_succ] at h)
      | (refine St.at h 4 _ rfl rfl rfl (fun w hh => ?_); clear h; have h := hh; clear hh; simp only [List.set_cons_zero, List.set_cons_succ] at h)
      | refine ⟨_, h.own_rd 2 0 rfl rfl rfl, ?_⟩
      | refine ⟨_, _, _, h.own_rd 2 0 rfl rfl rfl, ?_⟩
      | exact h.own_rd 2 0 rfl rfl rfl
      | refine ⟨_, h.own_rd 2 1 rfl rfl rfl, ?_⟩
      | refine ⟨_, _, _, h.own_rd 2 1 rfl rfl rfl, ?_⟩
      | exact h.own_rd 2 1 rfl rfl rfl
      | refine ⟨_, h.own_rd 2 2 rfl rfl rfl, ?_⟩
      | refine ⟨_, _, _, h.own_rd 2 2 rfl rfl rfl, ?_⟩
      | exact h.own_rd 2 2 rfl rfl rfl
      | refine ⟨_, h.own_rd 2 3 rfl rfl rfl, ?_⟩
      | refine ⟨_, _, _, h.own_rd 2 3 rfl rfl rfl, ?_⟩
      | exact h.own_rd 2 3 rfl rfl rfl
      | refine ⟨_, h.own_rd 2 4 rfl rfl rfl, ?_⟩
      | refine ⟨_, _, _, h.own_rd 2 4 rfl rfl rfl, ?_⟩
      | exact h.own_rd 2 4 rfl rfl rfl
      | refine ⟨_, h.own_rd 2 5 rfl rfl rfl, ?_⟩
      | refine ⟨_, _, _, h.own_rd 2 5 rfl rfl rfl, ?_⟩
      | exact h.own_rd 2 5 rfl rfl rfl
      | refine ⟨_, h.own_rd 2 6 rfl rfl rfl, ?_⟩
      | refine ⟨_, _, _, h.own_rd 2 6 rfl rfl rfl, ?_⟩
      | exact h.own_rd 2 6 rfl rfl rfl
      | refine ⟨by decide, ?_⟩
      | refine lookup_none u_map u_str z_struct h 1 rfl ?_
      | (refine CallR.of (Valid_0 h) ?_; rintro _ w ⟨rfl, h⟩)
      | refine bytes_at u_str u_bytes u_u8 h (fun yb yc w h => ?_)
      | (refine CallR.of (IndexByte_of _ _ _ (by rfl) h) ?_; rintro _ w ⟨rfl, h⟩)
      | (refine CallR.of (must_ok _ h) ?_; rintro _ w ⟨rfl, h⟩; refine ⟨rfl, ?_⟩)
      | (refine update_none u_map u_str h 2 rfl (fun w h => ?_); simp only [List.set_cons_zero, List.set_cons_succ] at h)
      | (refine CallR.of (weigher_add _ _ _ h2 (h.bring 3 rfl)) ?_; rintro _ w ⟨rfl, h⟩; refine ⟨rfl, ?_⟩; simp only [List.eraseIdx_cons_zero, List.eraseIdx_cons_succ] at h)
      | (refine CallR.of (hval (L1 := [_, _, _, _]) h) ?_; rintro _ w ⟨rfl, h⟩; refine ⟨rfl, ?_⟩; simp only [List.cons_append, List.nil_append] at h)
      | refine hX _ _ ?_
      | refine ⟨_, h.lda 0 _ rfl rfl, ?_⟩
      | refine ⟨_, _, _, h.lda 0 _ rfl rfl, ?_⟩
      | refine ⟨h.lda 0 _ rfl rfl, ?_⟩
      | refine ⟨_, h.lda 1 _ rfl rfl, ?_⟩
      | refine ⟨_, _, _, h.lda 1 _ rfl rfl, ?_⟩
      | refine ⟨h.lda 1 _ rfl rfl, ?_⟩
      | refine ⟨_, h.lda 2 _ rfl rfl, ?_⟩
      | refine ⟨_, _, _, h.lda 2 _ rfl rfl, ?_⟩
      | refine ⟨h.lda 2 _ rfl rfl, ?_⟩
      | refine ⟨_, h.lda 3 _ rfl rfl, ?_⟩
      | refine ⟨_, _, _, h.lda 3 _ rfl rfl, ?_⟩
      | refine ⟨h.lda 3 _ rfl rfl, ?_⟩
      | refine ⟨_, h.lda 4 _ rfl rfl, ?_⟩
      | refine ⟨_, _, _, h.lda 4 _ rfl rfl, ?_⟩
      | refine ⟨h.lda 4 _ rfl rfl, ?_⟩
      | exact h.lda 0 _ rfl rfl
      | exact h.lda 1 _ rfl rfl
      | exact h.lda 2 _ rfl rfl
      | exact h.lda 3 _ rfl rfl
      | exact h.lda 4 _ rfl rfl
      | refine ⟨_, rfl, ?_⟩
      | refine ⟨_, _, rfl, ?_⟩
      | refine ⟨_, _, _, rfl, ?_⟩
      | refine ⟨_, _, _, _, _, _, _, _, _, _, _, _, rfl, ?_⟩
      | refine ⟨_, _, _, _, _, _, _, _, _, _, _, _, _, rfl, ?_⟩
      | refine ctt rfl ?_
      | refine cff rfl ?_
      | refine Meet.dup ?_
      | intro j
      | rw [ws]
      | simp only [ws, add_mk]
      | refine And.intro ?_ ?_)
    exact Ret.mk ⟨rfl, h.skip.skip.skip.skip⟩

end
end Go.Proofs.Sd
