/- What a list of one weighs; Size. -/
import Derived.Test.YtnckkeefipaoeaaDoorAc3
set_option linter.unusedVariables false
set_option linter.unusedSimpArgs false
set_option maxRecDepth 100000
set_option maxHeartbeats 4000000
namespace Go.Proofs.Sd
open Go Go.Eng Go.Eng.HP Go.RowKit Go.Proofs
attribute [local irreducible] St New Drew Prim PrimU CallR CallV CallI CallX Meet Eng.Loop withSome HP.blk HP.mp Calls Holds Ret

section
variable {G : Gh} {w : World} {L : List HP}

theorem named_one (vb c : Nat) (k n : Int) (t : ByteArray) (a1 a2 a3 : Option Addr) (l1 c1 l2 c2 l3 c3 : Nat) (h : Holds G w (all (blk vb t_api_Value [.int .i64 k, .int .i64 n, .string t, .slice a1 l1 c1, .slice a2 l2 c2, .slice a3 l3 c3] :: L))) :
    Calls pg f_bson_named #[.slice (some ⟨vb, 0, none⟩) 1 c] w (Ret fun v w' => ∃ fb off c', v = .slice (some ⟨fb, off, none⟩) 1 c' ∧ Holds G w' (all (own t_api_Field 7 (some ⟨fb, off, none⟩) 1 c' [.string ⟨#[48]⟩, .int .i64 k, .int .i64 n, .string t, .slice a1 l1 c1, .slice a2 l2 c2, .slice a3 l3 c3] :: L))) := by
  apply of_bson_named
  unfold c_bson_named
  replace h : Holds G w (all (own t_api_Field 7 none 0 0 [] :: _)) := Holds.own_nil h
  refine Loop.start (fun X hX => ?_)
  refine hX _ _ ?_
  dsimp only
  repeat' (first
    | (refine New.at h (fun b w hh => ?_); clear h; have h := hh; clear hh)
    | (refine Drew.of h (fun w hh => ?_); clear h; have h := hh; clear hh)
    | (refine St.at h 0 _ rfl rfl rfl (fun w hh => ?_); clear h; have h := hh; clear hh; simp only [List.set_cons_zero, List.set_cons_succ] at h)
    | (refine St.at h 1 _ rfl rfl rfl (fun w hh => ?_); clear h; have h := hh; clear hh; simp only [List.set_cons_zero, List.set_cons_succ] at h)
    | (refine St.at h 2 _ rfl rfl rfl (fun w hh => ?_); clear h; have h := hh; clear hh; simp only [List.set_cons_zero, List.set_cons_succ] at h)
    | (refine St.at h 3 _ rfl rfl rfl (fun w hh => ?_); clear h; have h := hh; clear hh; simp only [List.set_cons_zero, List.set_cons_succ] at h)
    | (refine St.at h 4 _ rfl rfl rfl (fun w hh => ?_); clear h; have h := hh; clear hh; simp only [List.set_cons_zero, List.set_cons_succ] at h)
    | refine ⟨by decide, ?_⟩
    | (refine CallR.of (Itoa_small 0 (.inl rfl) h) ?_; rintro _ w ⟨rfl, h⟩)
    | refine ⟨_, h.lda 0 _ rfl rfl, ?_⟩
    | refine ⟨_, _, _, h.lda 0 _ rfl rfl, ?_⟩
    | refine ⟨h.lda 0 _ rfl rfl, ?_⟩
    | refine ⟨_, h.lda 1 _ rfl rfl, ?_⟩
    | refine ⟨_, _, _, h.lda 1 _ rfl rfl, ?_⟩
    | refine ⟨h.lda 1 _ rfl rfl, ?_⟩
    | refine ⟨_, h.lda 2 _ rfl rfl, ?_⟩
    | refine ⟨_, _, _, h.lda 2 _ rfl rfl, ?_⟩
    | refine ⟨h.lda 2 _ rfl rfl, ?_⟩
    | refine ⟨_, h.lda 3 _ rfl rfl, ?_⟩
    | refine ⟨_, _, _, h.lda 3 _ rfl rfl, ?_⟩
    | refine ⟨h.lda 3 _ rfl rfl, ?_⟩
    | refine ⟨_, h.lda 4 _ rfl rfl, ?_⟩
    | refine ⟨_, _, _, h.lda 4 _ rfl rfl, ?_⟩
    | refine ⟨h.lda 4 _ rfl rfl, ?_⟩
    | exact h.lda 0 _ rfl rfl
    | exact h.lda 1 _ rfl rfl
    | exact h.lda 2 _ rfl rfl
    | exact h.lda 3 _ rfl rfl
    | exact h.lda 4 _ rfl rfl
    | refine ⟨_, rfl, ?_⟩
    | refine ⟨_, _, rfl, ?_⟩
    | refine ⟨_, _, _, rfl, ?_⟩
    | refine ⟨_, _, _, _, _, _, _, _, _, _, _, _, rfl, ?_⟩
    | refine ⟨_, _, _, _, _, _, _, _, _, _, _, _, _, rfl, ?_⟩
    | refine ctt rfl ?_
    | refine cff rfl ?_
    | refine Meet.dup ?_
    | intro j
    | rw [ws]
    | simp only [ws, add_mk]
    | refine And.intro ?_ ?_)
  refine append_at tok rfl (.inl ⟨_, rfl⟩) rfl rfl rfl h 2 rfl (Src.blk_at h 0 rfl rfl rfl) (by decide) (by decide) (fun a' c' w h => ?_)
  replace h : Holds G w (all (own t_api_Field 7 a' 1 c' [.string ⟨#[48]⟩, .int .i64 k, .int .i64 n, .string t, .slice a1 l1 c1, .slice a2 l2 c2, .slice a3 l3 c3] :: _ :: _ :: _ :: L)) := h
  obtain ⟨fb, off, rfl⟩ := h.own_addr
  refine ⟨_, _, _, rfl, ?_⟩
  refine hX _ _ ?_
  dsimp only
  repeat' (first
    | (refine New.at h (fun b w hh => ?_); clear h; have h := hh; clear hh)
    | (refine Drew.of h (fun w hh => ?_); clear h; have h := hh; clear hh)
    | (refine St.at h 0 _ rfl rfl rfl (fun w hh => ?_); clear h; have h := hh; clear hh; simp only [List.set_cons_zero, List.set_cons_succ] at h)
    | refine ⟨_, h.lda 0 _ rfl rfl, ?_⟩
    | refine ⟨_, _, _, h.lda 0 _ rfl rfl, ?_⟩
    | refine ⟨h.lda 0 _ rfl rfl, ?_⟩
    | exact h.lda 0 _ rfl rfl
    | refine ⟨_, rfl, ?_⟩
    | refine ⟨_, _, rfl, ?_⟩
    | refine ⟨_, _, _, rfl, ?_⟩
    | refine ⟨_, _, _, _, _, _, _, _, _, _, _, _, rfl, ?_⟩
    | refine ⟨_, _, _, _, _, _, _, _, _, _, _, _, _, rfl, ?_⟩
    | refine ctt rfl ?_
    | refine cff rfl ?_
    | refine Meet.dup ?_
    | intro j
    | rw [ws]
    | simp only [ws, add_mk]
    | refine And.intro ?_ ?_)
  exact Ret.mk ⟨_, _, _, rfl, h.skip.skip.skip⟩

/-- What a number's value weighs. -/
def wgt (k : Int) : Int := if k = 3 then 4 else if k = 4 then 8 else 0

theorem value_num (b : Nat) (x k n deep : Int) (hk : k = 2 ∧ n = 0 ∨ k = 3 ∧ n = IntKind.i64.wrap (IntKind.i32.wrap n) ∨ k = 4) (hx : wgt k ≤ IntKind.i64.wrap (65536 - x)) (h : Holds G w (all (blk b t_bson_weigher [.int .i64 x] :: L))) :
    Calls pg f_Pbson_weigher_value #[ptr b, vI k n, .int .i64 deep] w (Ret fun v w' => v = .tuple #[] ∧ Holds G w' (all (blk b t_bson_weigher [.int .i64 (if k = 2 then x else IntKind.i64.wrap (x + wgt k))] :: L))) := by
  apply of_Pbson_weigher_value
  unfold c_Pbson_weigher_value
  have hc : ∀ {w : World} {L : List HP}, Holds G w (all L) → Calls pg f_bson_code #[.int .i64 k] w (Ret fun v w' => (∃ c : Int, (c != 0) = true ∧ v = .int .u8 c) ∧ Holds G w' (all L)) := fun h => code_num k (by omega) h
  have hp : ∀ {w : World} {L : List HP}, Holds G w (all L) → Calls pg f_bson_plain #[vI k n] w (Ret fun v w' => v = .bool true ∧ Holds G w' (all L)) := fun h => plain_num k n (by omega) h
  rcases hk with ⟨rfl, rfl⟩ | ⟨rfl, hn⟩ | rfl
  · repeat' (first
      | (refine New.at h (fun b w hh => ?_); clear h; have h := hh; clear hh)
      | (refine Drew.of h (fun w hh => ?_); clear h; have h := hh; clear hh)
      | (refine St.at h 0 _ rfl rfl rfl (fun w hh => ?_); clear h; have h := hh; clear hh; simp only [List.set_cons_zero, List.set_cons_succ] at h)
      | (refine St.at h 1 _ rfl rfl rfl (fun w hh => ?_); clear h; have h := hh; clear hh; simp only [List.set_cons_zero, List.set_cons_succ] at h)
      | (refine St.at h 2 _ rfl rfl rfl (fun w hh => ?_); clear h; have h := hh; clear hh; simp only [List.set_cons_zero, List.set_cons_succ] at h)
      | (refine CallR.of (hc h) ?_; rintro _ w ⟨⟨cc, hcc, rfl⟩, h⟩)
      | refine ctt hcc ?_
      | (refine CallR.of (hp h) ?_; rintro _ w ⟨rfl, h⟩)
      | (refine CallR.of (must_ok _ h) ?_; rintro _ w ⟨rfl, h⟩; refine ⟨rfl, ?_⟩)
      | refine ⟨_, h.lda 0 _ rfl rfl, ?_⟩
      | refine ⟨_, _, _, h.lda 0 _ rfl rfl, ?_⟩
      | refine ⟨h.lda 0 _ rfl rfl, ?_⟩
      | refine ⟨_, h.lda 1 _ rfl rfl, ?_⟩
      | refine ⟨_, _, _, h.lda 1 _ rfl rfl, ?_⟩
      | refine ⟨h.lda 1 _ rfl rfl, ?_⟩
      | refine ⟨_, h.lda 2 _ rfl rfl, ?_⟩
      | refine ⟨_, _, _, h.lda 2 _ rfl rfl, ?_⟩
      | refine ⟨h.lda 2 _ rfl rfl, ?_⟩
      | exact h.lda 0 _ rfl rfl
      | exact h.lda 1 _ rfl rfl
      | exact h.lda 2 _ rfl rfl
      | refine ⟨_, rfl, ?_⟩
      | refine ⟨_, _, rfl, ?_⟩
      | refine ⟨_, _, _, rfl, ?_⟩
      | refine ⟨_, _, _, _, _, _, _, _, _, _, _, _, rfl, ?_⟩
      | refine ⟨_, _, _, _, _, _, _, _, _, _, _, _, _, rfl, ?_⟩
      | refine ctt rfl ?_
      | refine cff rfl ?_
      | refine Meet.dup ?_
      | intro j
      | rw [ws]
      | simp only [ws, add_mk]
      | refine And.intro ?_ ?_)
    exact Ret.mk ⟨rfl, h.tail⟩
  · have hn2 : (n == IntKind.i64.wrap (IntKind.i32.wrap n)) = true := beq_of hn
    repeat' (first
      | (refine New.at h (fun b w hh => ?_); clear h; have h := hh; clear hh)
      | (refine Drew.of h (fun w hh => ?_); clear h; have h := hh; clear hh)
      | (refine St.at h 0 _ rfl rfl rfl (fun w hh => ?_); clear h; have h := hh; clear hh; simp only [List.set_cons_zero, List.set_cons_succ] at h)
      | (refine St.at h 1 _ rfl rfl rfl (fun w hh => ?_); clear h; have h := hh; clear hh; simp only [List.set_cons_zero, List.set_cons_succ] at h)
      | (refine St.at h 2 _ rfl rfl rfl (fun w hh => ?_); clear h; have h := hh; clear hh; simp only [List.set_cons_zero, List.set_cons_succ] at h)
      | (refine CallR.of (hc h) ?_; rintro _ w ⟨⟨cc, hcc, rfl⟩, h⟩)
      | refine ctt hcc ?_
      | (refine CallR.of (hp h) ?_; rintro _ w ⟨rfl, h⟩)
      | (refine CallR.of (must_ok _ h) ?_; rintro _ w ⟨rfl, h⟩; refine ⟨rfl, ?_⟩)
      | (rw [hn2]; refine CallR.of (must_ok _ h) ?_; rintro _ w ⟨rfl, h⟩; refine ⟨rfl, ?_⟩)
      | (refine CallR.of (weigher_add _ _ _ hx (h.bring 1 rfl)) ?_; rintro _ w ⟨rfl, h⟩; refine ⟨rfl, ?_⟩)
      | refine ⟨_, h.lda 0 _ rfl rfl, ?_⟩
      | refine ⟨_, _, _, h.lda 0 _ rfl rfl, ?_⟩
      | refine ⟨h.lda 0 _ rfl rfl, ?_⟩
      | refine ⟨_, h.lda 1 _ rfl rfl, ?_⟩
      | refine ⟨_, _, _, h.lda 1 _ rfl rfl, ?_⟩
      | refine ⟨h.lda 1 _ rfl rfl, ?_⟩
      | refine ⟨_, h.lda 2 _ rfl rfl, ?_⟩
      | refine ⟨_, _, _, h.lda 2 _ rfl rfl, ?_⟩
      | refine ⟨h.lda 2 _ rfl rfl, ?_⟩
      | exact h.lda 0 _ rfl rfl
      | exact h.lda 1 _ rfl rfl
      | exact h.lda 2 _ rfl rfl
      | refine ⟨_, rfl, ?_⟩
      | refine ⟨_, _, rfl, ?_⟩
      | refine ⟨_, _, _, rfl, ?_⟩
      | refine ⟨_, _, _, _, _, _, _, _, _, _, _, _, rfl, ?_⟩
      | refine ⟨_, _, _, _, _, _, _, _, _, _, _, _, _, rfl, ?_⟩
      | refine ctt rfl ?_
      | refine cff rfl ?_
      | refine Meet.dup ?_
      | intro j
      | rw [ws]
      | simp only [ws, add_mk]
      | refine And.intro ?_ ?_)
    exact Ret.mk ⟨rfl, h.skip⟩
  · repeat' (first
      | (refine New.at h (fun b w hh => ?_); clear h; have h := hh; clear hh)
      | (refine Drew.of h (fun w hh => ?_); clear h; have h := hh; clear hh)
      | (refine St.at h 0 _ rfl rfl rfl (fun w hh => ?_); clear h; have h := hh; clear hh; simp only [List.set_cons_zero, List.set_cons_succ] at h)
      | (refine St.at h 1 _ rfl rfl rfl (fun w hh => ?_); clear h; have h := hh; clear hh; simp only [List.set_cons_zero, List.set_cons_succ] at h)
      | (refine St.at h 2 _ rfl rfl rfl (fun w hh => ?_); clear h; have h := hh; clear hh; simp only [List.set_cons_zero, List.set_cons_succ] at h)
      | (refine CallR.of (hc h) ?_; rintro _ w ⟨⟨cc, hcc, rfl⟩, h⟩)
      | refine ctt hcc ?_
      | (refine CallR.of (hp h) ?_; rintro _ w ⟨rfl, h⟩)
      | (refine CallR.of (must_ok _ h) ?_; rintro _ w ⟨rfl, h⟩; refine ⟨rfl, ?_⟩)
      | (refine CallR.of (weigher_add _ _ _ hx (h.bring 1 rfl)) ?_; rintro _ w ⟨rfl, h⟩; refine ⟨rfl, ?_⟩)
      | refine ⟨_, h.lda 0 _ rfl rfl, ?_⟩
      | refine ⟨_, _, _, h.lda 0 _ rfl rfl, ?_⟩
      | refine ⟨h.lda 0 _ rfl rfl, ?_⟩
      | refine ⟨_, h.lda 1 _ rfl rfl, ?_⟩
      | refine ⟨_, _, _, h.lda 1 _ rfl rfl, ?_⟩
      | refine ⟨h.lda 1 _ rfl rfl, ?_⟩
      | refine ⟨_, h.lda 2 _ rfl rfl, ?_⟩
      | refine ⟨_, _, _, h.lda 2 _ rfl rfl, ?_⟩
      | refine ⟨h.lda 2 _ rfl rfl, ?_⟩
      | exact h.lda 0 _ rfl rfl
      | exact h.lda 1 _ rfl rfl
      | exact h.lda 2 _ rfl rfl
      | refine ⟨_, rfl, ?_⟩
      | refine ⟨_, _, rfl, ?_⟩
      | refine ⟨_, _, _, rfl, ?_⟩
      | refine ⟨_, _, _, _, _, _, _, _, _, _, _, _, rfl, ?_⟩
      | refine ⟨_, _, _, _, _, _, _, _, _, _, _, _, _, rfl, ?_⟩
      | refine ctt rfl ?_
      | refine cff rfl ?_
      | refine Meet.dup ?_
      | intro j
      | rw [ws]
      | simp only [ws, add_mk]
      | refine And.intro ?_ ?_)
    exact Ret.mk ⟨rfl, h.skip⟩

/-- What a list of one number weighs. -/
theorem value_one (b vb c : Nat) (x k n deep : Int) (hk : k = 2 ∧ n = 0 ∨ k = 3 ∧ n = IntKind.i64.wrap (IntKind.i32.wrap n) ∨ k = 4)
    (hdeep : IntKind.i64.wrap (deep + 1) ≤ 32) (hx : x = 7 ∨ x = 14) (h : Holds G w (all (blk b t_bson_weigher [.int .i64 x] :: blk vb t_api_Value [.int .i64 k, .int .i64 n, .string em, .slice none 0 0, .slice none 0 0, .slice none 0 0] :: L))) :
    Calls pg f_Pbson_weigher_value #[ptr b, .agg #[.int .i64 7, .int .i64 0, .string em, .slice none 0 0, .slice none 0 0, .slice (some ⟨vb, 0, none⟩) 1 c], .int .i64 deep] w
      (Ret fun v w' => v = .tuple #[] ∧ Holds G w' (all (blk b t_bson_weigher [.int .i64 (x + 8 + wgt k)] :: L))) := by
  apply of_Pbson_weigher_value
  unfold c_Pbson_weigher_value
  have hk' := hk
  have hv : ∀ {w : World} {L1 : List HP}, Holds G w (all (blk b t_bson_weigher [.int .i64 (IntKind.i64.wrap (IntKind.i64.wrap (x + 5) + IntKind.i64.wrap (2 + ((⟨#[48]⟩ : ByteArray).size : Int))))] :: (L1 ++ L))) →
      Calls pg f_Pbson_weigher_value #[ptr b, vI k n, .int .i64 (IntKind.i64.wrap (deep + 1))] w (Ret fun v w' => v = .tuple #[] ∧ Holds G w' (all (blk b t_bson_weigher [.int .i64 (x + 8 + wgt k)] :: (L1 ++ L)))) := by
    intro w L1 h
    refine Calls.mono (value_num b _ k n _ hk ?_ h) ?_
    · rcases hx with rfl | rfl <;> rcases hk' with ⟨rfl, _⟩ | ⟨rfl, _⟩ | rfl <;> decide
    · intro e w' he
      have e1 : (if k = 2 then IntKind.i64.wrap (IntKind.i64.wrap (x + 5) + IntKind.i64.wrap (2 + ((⟨#[48]⟩ : ByteArray).size : Int))) else IntKind.i64.wrap (IntKind.i64.wrap (IntKind.i64.wrap (x + 5) + IntKind.i64.wrap (2 + ((⟨#[48]⟩ : ByteArray).size : Int))) + wgt k)) = x + 8 + wgt k := by
        rcases hx with rfl | rfl <;> rcases hk' with ⟨rfl, _⟩ | ⟨rfl, _⟩ | rfl <;> decide
      rw [e1] at he
      exact he
  repeat' (first
    | (refine New.at h (fun b w hh => ?_); clear h; have h := hh; clear hh)
    | (refine Drew.of h (fun w hh => ?_); clear h; have h := hh; clear hh)
    | (refine St.at h 0 _ rfl rfl rfl (fun w hh => ?_); clear h; have h := hh; clear hh; simp only [List.set_cons_zero, List.set_cons_succ] at h)
    | (refine St.at h 1 _ rfl rfl rfl (fun w hh => ?_); clear h; have h := hh; clear hh; simp only [List.set_cons_zero, List.set_cons_succ] at h)
    | (refine St.at h 2 _ rfl rfl rfl (fun w hh => ?_); clear h; have h := hh; clear hh; simp only [List.set_cons_zero, List.set_cons_succ] at h)
    | (refine St.at h 3 _ rfl rfl rfl (fun w hh => ?_); clear h; have h := hh; clear hh; simp only [List.set_cons_zero, List.set_cons_succ] at h)
    | (refine CallR.of (code_num _ (.inr (.inr (.inr rfl))) h) ?_; rintro _ w ⟨⟨cc, hcc, rfl⟩, h⟩)
    | refine ctt hcc ?_
    | (refine CallR.of (plain_list _ _ _ h) ?_; rintro _ w ⟨rfl, h⟩)
    | (refine CallR.of (must_ok _ h) ?_; rintro _ w ⟨rfl, h⟩; refine ⟨rfl, ?_⟩)
    | (refine CallR.of (named_one _ _ _ _ _ _ _ _ _ _ _ _ _ _ (h.bring 2 rfl)) ?_; rintro _ w ⟨fb, off, c', rfl, h⟩; simp only [List.eraseIdx_cons_zero, List.eraseIdx_cons_succ] at h)
    | refine ⟨_, h.lda 0 _ rfl rfl, ?_⟩
    | refine ⟨_, _, _, h.lda 0 _ rfl rfl, ?_⟩
    | refine ⟨h.lda 0 _ rfl rfl, ?_⟩
    | refine ⟨_, h.lda 1 _ rfl rfl, ?_⟩
    | refine ⟨_, _, _, h.lda 1 _ rfl rfl, ?_⟩
    | refine ⟨h.lda 1 _ rfl rfl, ?_⟩
    | refine ⟨_, h.lda 2 _ rfl rfl, ?_⟩
    | refine ⟨_, _, _, h.lda 2 _ rfl rfl, ?_⟩
    | refine ⟨h.lda 2 _ rfl rfl, ?_⟩
    | refine ⟨_, h.lda 3 _ rfl rfl, ?_⟩
    | refine ⟨_, _, _, h.lda 3 _ rfl rfl, ?_⟩
    | refine ⟨h.lda 3 _ rfl rfl, ?_⟩
    | exact h.lda 0 _ rfl rfl
    | exact h.lda 1 _ rfl rfl
    | exact h.lda 2 _ rfl rfl
    | exact h.lda 3 _ rfl rfl
    | refine ⟨_, rfl, ?_⟩
    | refine ⟨_, _, rfl, ?_⟩
    | refine ⟨_, _, _, rfl, ?_⟩
    | refine ⟨_, _, _, _, _, _, _, _, _, _, _, _, rfl, ?_⟩
    | refine ⟨_, _, _, _, _, _, _, _, _, _, _, _, _, rfl, ?_⟩
    | refine ctt rfl ?_
    | refine cff rfl ?_
    | refine Meet.dup ?_
    | intro j
    | rw [ws]
    | simp only [ws, add_mk]
    | refine And.intro ?_ ?_)
  have h2 := h.bring 2 rfl
  simp only [List.eraseIdx_cons_zero, List.eraseIdx_cons_succ] at h2
  refine CallR.of (fields_one _ fb off c' x (x + 8 + wgt k) ⟨#[48]⟩ _ _ _ _ _ _ _ _ _ _ _ _ _ hdeep (.inr rfl) (by rcases hx with rfl | rfl <;> decide) (by rcases hx with rfl | rfl <;> decide)
    (L' := blk b t_api_Value [.int .i64 7, .int .i64 0, .string em, .slice none 0 0, .slice none 0 0, .slice (some ⟨vb, 0, none⟩) 1 c] :: L) (fun {w L1} h => by rw [List.append_cons] at h ⊢; exact hv h) h2) ?_
  rintro _ w ⟨rfl, h⟩
  exact ⟨rfl, Ret.mk ⟨rfl, h.skip⟩⟩

/-- What a document of one field without a name weighs. -/
theorem Size_one (fb : Nat) (d : Int) (k n : Int) (t : ByteArray) (a1 a2 a3 : Option Addr) (l1 c1 l2 c2 l3 c3 : Nat) {L' : List HP}
    (hval : ∀ {b : Nat} {w : World} {L1 : List HP}, Holds G w (all (blk b t_bson_weigher [.int .i64 7] :: (L1 ++ L))) →
      Calls pg f_Pbson_weigher_value #[ptr b, .agg #[.int .i64 k, .int .i64 n, .string t, .slice a1 l1 c1, .slice a2 l2 c2, .slice a3 l3 c3], .int .i64 1] w (Ret fun v w' => v = .tuple #[] ∧ Holds G w' (all (blk b t_bson_weigher [.int .i64 d] :: (L1 ++ L')))))
    (h : Holds G w (all (blk fb t_api_Field [.string em, .int .i64 k, .int .i64 n, .string t, .slice a1 l1 c1, .slice a2 l2 c2, .slice a3 l3 c3] :: L))) :
    Calls pg f_bson_Size #[.agg #[.int .i64 6, .int .i64 0, .string em, .slice none 0 0, .slice (some ⟨fb, 0, none⟩) 1 1, .slice none 0 0]] w (Ret fun v w' => v = .int .i64 d ∧ Holds G w' (all L')) := by
  apply of_bson_Size
  unfold c_bson_Size
  have key : ∀ {w : World} {b4 b2 b0 eb : Nat}, Holds G w (all (blk eb t_api_Errno [.int .i64 0] :: blk b4 t_Pbson_weigher [ptr b2] :: blk b2 t_bson_weigher [.int .i64 0] ::
      blk b0 t_api_Value [.int .i64 6, .int .i64 0, .string em, .slice none 0 0, .slice (some ⟨fb, 0, none⟩) 1 1, .slice none 0 0] ::
      blk fb t_api_Field [.string em, .int .i64 k, .int .i64 n, .string t, .slice a1 l1 c1, .slice a2 l2 c2, .slice a3 l3 c3] :: L)) →
      Calls pg f_bson_Size_1 #[ptr b4, ptr b0] w (Ret fun v w' => v = .tuple #[] ∧ Holds G w' (all (blk eb t_api_Errno [.int .i64 0] :: blk b2 t_bson_weigher [.int .i64 d] :: blk b4 t_Pbson_weigher [ptr b2] ::
      blk b0 t_api_Value [.int .i64 6, .int .i64 0, .string em, .slice none 0 0, .slice (some ⟨fb, 0, none⟩) 1 1, .slice none 0 0] :: L'))) := by
    intro w b4 b2 b0 eb h
    apply of_bson_Size_1
    unfold c_bson_Size_1
    repeat' (first
      | (refine New.at h (fun b w hh => ?_); clear h; have h := hh; clear hh)
      | (refine Drew.of h (fun w hh => ?_); clear h; have h := hh; clear hh)
      | (refine St.at h 0 _ rfl rfl rfl (fun w hh => ?_); clear h; have h := hh; clear hh; simp only [List.set_cons_zero, List.set_cons_succ] at h)
      | (refine St.at h 1 _ rfl rfl rfl (fun w hh => ?_); clear h; have h := hh; clear hh; simp only [List.set_cons_zero, List.set_cons_succ] at h)
      | (refine St.at h 2 _ rfl rfl rfl (fun w hh => ?_); clear h; have h := hh; clear hh; simp only [List.set_cons_zero, List.set_cons_succ] at h)
      | (refine St.at h 3 _ rfl rfl rfl (fun w hh => ?_); clear h; have h := hh; clear hh; simp only [List.set_cons_zero, List.set_cons_succ] at h)
      | (refine St.at h 4 _ rfl rfl rfl (fun w hh => ?_); clear h; have h := hh; clear hh; simp only [List.set_cons_zero, List.set_cons_succ] at h)
      | refine ⟨_, h.lda 0 _ rfl rfl, ?_⟩
      | refine ⟨_, _, _, h.lda 0 _ rfl rfl, ?_⟩
      | refine ⟨h.lda 0 _ rfl rfl, ?_⟩
      | refine ⟨_, h.lda 1 _ rfl rfl, ?_⟩
      | refine ⟨_, _, _, h.lda 1 _ rfl rfl, ?_⟩
      | refine ⟨h.lda 1 _ rfl rfl, ?_⟩
      | refine ⟨_, h.lda 2 _ rfl rfl, ?_⟩
      | refine ⟨_, _, _, h.lda 2 _ rfl rfl, ?_⟩
      | refine ⟨h.lda 2 _ rfl rfl, ?_⟩
      | refine ⟨_, h.lda 3 _ rfl rfl, ?_⟩
      | refine ⟨_, _, _, h.lda 3 _ rfl rfl, ?_⟩
      | refine ⟨h.lda 3 _ rfl rfl, ?_⟩
      | refine ⟨_, h.lda 4 _ rfl rfl, ?_⟩
      | refine ⟨_, _, _, h.lda 4 _ rfl rfl, ?_⟩
      | refine ⟨h.lda 4 _ rfl rfl, ?_⟩
      | exact h.lda 0 _ rfl rfl
      | exact h.lda 1 _ rfl rfl
      | exact h.lda 2 _ rfl rfl
      | exact h.lda 3 _ rfl rfl
      | exact h.lda 4 _ rfl rfl
      | refine ⟨_, rfl, ?_⟩
      | refine ⟨_, _, rfl, ?_⟩
      | refine ⟨_, _, _, rfl, ?_⟩
      | refine ⟨_, _, _, _, _, _, _, _, _, _, _, _, rfl, ?_⟩
      | refine ⟨_, _, _, _, _, _, _, _, _, _, _, _, _, rfl, ?_⟩
      | refine ctt rfl ?_
      | refine cff rfl ?_
      | refine Meet.dup ?_
      | intro j
      | rw [ws]
      | simp only [ws, add_mk]
      | refine And.intro ?_ ?_)
    have h1 := (h.bring 4 rfl).own_of (sz := 7) (n := 1) rfl
    simp only [List.eraseIdx_cons_zero, List.eraseIdx_cons_succ] at h1
    have h2 := h1.bring 3 rfl
    simp only [List.eraseIdx_cons_zero, List.eraseIdx_cons_succ] at h2
    refine CallR.of (fields_one b2 fb 0 1 0 d em k n t a1 a2 a3 l1 c1 l2 c2 l3 c3 1 (by decide) (.inl rfl) (by decide) (by decide) (L' := blk eb t_api_Errno [.int .i64 0] :: blk b4 t_Pbson_weigher [ptr b2] ::
      blk b0 t_api_Value [.int .i64 6, .int .i64 0, .string em, .slice none 0 0, .slice (some ⟨fb, 0, none⟩) 1 1, .slice none 0 0] :: L') (fun {w L1} h => ?_) h2) ?_
    · rw [List.append_cons, List.append_cons, List.append_cons] at h ⊢
      exact hval h
    · rintro _ w ⟨rfl, h⟩
      exact ⟨rfl, Ret.mk ⟨rfl, h.bring 1 rfl⟩⟩
  repeat' (first
    | (refine New.at h (fun b w hh => ?_); clear h; have h := hh; clear hh)
    | (refine Drew.of h (fun w hh => ?_); clear h; have h := hh; clear hh)
    | (refine St.at h 0 _ rfl rfl rfl (fun w hh => ?_); clear h; have h := hh; clear hh; simp only [List.set_cons_zero, List.set_cons_succ] at h)
    | (refine St.at h 1 _ rfl rfl rfl (fun w hh => ?_); clear h; have h := hh; clear hh; simp only [List.set_cons_zero, List.set_cons_succ] at h)
    | (refine St.at h 2 _ rfl rfl rfl (fun w hh => ?_); clear h; have h := hh; clear hh; simp only [List.set_cons_zero, List.set_cons_succ] at h)
    | (refine St.at h 3 _ rfl rfl rfl (fun w hh => ?_); clear h; have h := hh; clear hh; simp only [List.set_cons_zero, List.set_cons_succ] at h)
    | (refine St.at h 4 _ rfl rfl rfl (fun w hh => ?_); clear h; have h := hh; clear hh; simp only [List.set_cons_zero, List.set_cons_succ] at h)
    | (refine CallR.of (plain_doc _ _ _ h) ?_; rintro _ w ⟨rfl, h⟩)
    | (refine CallR.of (tried _ h key) ?_; rintro _ w ⟨rfl, h⟩)
    | refine ⟨_, h.lda 0 _ rfl rfl, ?_⟩
    | refine ⟨_, _, _, h.lda 0 _ rfl rfl, ?_⟩
    | refine ⟨h.lda 0 _ rfl rfl, ?_⟩
    | refine ⟨_, h.lda 1 _ rfl rfl, ?_⟩
    | refine ⟨_, _, _, h.lda 1 _ rfl rfl, ?_⟩
    | refine ⟨h.lda 1 _ rfl rfl, ?_⟩
    | refine ⟨_, h.lda 2 _ rfl rfl, ?_⟩
    | refine ⟨_, _, _, h.lda 2 _ rfl rfl, ?_⟩
    | refine ⟨h.lda 2 _ rfl rfl, ?_⟩
    | refine ⟨_, h.lda 3 _ rfl rfl, ?_⟩
    | refine ⟨_, _, _, h.lda 3 _ rfl rfl, ?_⟩
    | refine ⟨h.lda 3 _ rfl rfl, ?_⟩
    | refine ⟨_, h.lda 4 _ rfl rfl, ?_⟩
    | refine ⟨_, _, _, h.lda 4 _ rfl rfl, ?_⟩
    | refine ⟨h.lda 4 _ rfl rfl, ?_⟩
    | exact h.lda 0 _ rfl rfl
    | exact h.lda 1 _ rfl rfl
    | exact h.lda 2 _ rfl rfl
    | exact h.lda 3 _ rfl rfl
    | exact h.lda 4 _ rfl rfl
    | refine ⟨_, rfl, ?_⟩
    | refine ⟨_, _, rfl, ?_⟩
    | refine ⟨_, _, _, rfl, ?_⟩
    | refine ⟨_, _, _, _, _, _, _, _, _, _, _, _, rfl, ?_⟩
    | refine ⟨_, _, _, _, _, _, _, _, _, _, _, _, _, rfl, ?_⟩
    | refine ctt rfl ?_
    | refine cff rfl ?_
    | refine Meet.dup ?_
    | intro j
    | rw [ws]
    | simp only [ws, add_mk]
    | refine And.intro ?_ ?_)
  exact Ret.mk ⟨rfl, h.tail.tail.tail⟩

theorem Size_same (fb : Nat) (d : Int) (k n : Int) (t : ByteArray) (a1 a2 a3 : Option Addr) (l1 c1 l2 c2 l3 c3 : Nat)
    (hval : ∀ {b : Nat} {w : World} {L1 : List HP}, Holds G w (all (blk b t_bson_weigher [.int .i64 7] :: (L1 ++ L))) →
      Calls pg f_Pbson_weigher_value #[ptr b, .agg #[.int .i64 k, .int .i64 n, .string t, .slice a1 l1 c1, .slice a2 l2 c2, .slice a3 l3 c3], .int .i64 1] w (Ret fun v w' => v = .tuple #[] ∧ Holds G w' (all (blk b t_bson_weigher [.int .i64 d] :: (L1 ++ L)))))
    (h : Holds G w (all (blk fb t_api_Field [.string em, .int .i64 k, .int .i64 n, .string t, .slice a1 l1 c1, .slice a2 l2 c2, .slice a3 l3 c3] :: L))) :
    Calls pg f_bson_Size #[.agg #[.int .i64 6, .int .i64 0, .string em, .slice none 0 0, .slice (some ⟨fb, 0, none⟩) 1 1, .slice none 0 0]] w (Ret fun v w' => v = .int .i64 d ∧ Holds G w' (all L)) :=
  Size_one fb d k n t a1 a2 a3 l1 c1 l2 c2 l3 c3 hval h

theorem own_num (k n : Int) (hk : k = 2 ∧ n = 0 ∨ k = 3 ∧ n = IntKind.i64.wrap (IntKind.i32.wrap n) ∨ k = 4) (h : Holds G w (all L)) :
    Calls pg f_accum_own #[vI k n] w (Ret fun v w' => v = .int .i64 (wgt k) ∧ Holds G w' (all L)) := by
  apply of_accum_own
  unfold c_accum_own
  have hk' := hk
  repeat' (first
    | (refine New.at h (fun b w hh => ?_); clear h; have h := hh; clear hh)
    | (refine Drew.of h (fun w hh => ?_); clear h; have h := hh; clear hh)
    | (refine St.at h 0 _ rfl rfl rfl (fun w hh => ?_); clear h; have h := hh; clear hh; simp only [List.set_cons_zero, List.set_cons_succ] at h)
    | (refine St.at h 1 _ rfl rfl rfl (fun w hh => ?_); clear h; have h := hh; clear hh; simp only [List.set_cons_zero, List.set_cons_succ] at h)
    | (refine St.at h 2 _ rfl rfl rfl (fun w hh => ?_); clear h; have h := hh; clear hh; simp only [List.set_cons_zero, List.set_cons_succ] at h)
    | refine ⟨_, h.lda 0 _ rfl rfl, ?_⟩
    | refine ⟨_, _, _, h.lda 0 _ rfl rfl, ?_⟩
    | refine ⟨h.lda 0 _ rfl rfl, ?_⟩
    | refine ⟨_, h.lda 1 _ rfl rfl, ?_⟩
    | refine ⟨_, _, _, h.lda 1 _ rfl rfl, ?_⟩
    | refine ⟨h.lda 1 _ rfl rfl, ?_⟩
    | refine ⟨_, h.lda 2 _ rfl rfl, ?_⟩
    | refine ⟨_, _, _, h.lda 2 _ rfl rfl, ?_⟩
    | refine ⟨h.lda 2 _ rfl rfl, ?_⟩
    | exact h.lda 0 _ rfl rfl
    | exact h.lda 1 _ rfl rfl
    | exact h.lda 2 _ rfl rfl
    | refine ⟨_, rfl, ?_⟩
    | refine ⟨_, _, rfl, ?_⟩
    | refine ⟨_, _, _, rfl, ?_⟩
    | refine ⟨_, _, _, _, _, _, _, _, _, _, _, _, rfl, ?_⟩
    | refine ⟨_, _, _, _, _, _, _, _, _, _, _, _, _, rfl, ?_⟩
    | refine ctt rfl ?_
    | refine cff rfl ?_
    | refine Meet.dup ?_
    | intro j
    | rw [ws]
    | simp only [ws, add_mk]
    | refine And.intro ?_ ?_)
  refine CallR.of (Size_same _ (7 + wgt k) _ _ _ _ _ _ _ _ _ _ _ _ (fun {b w L1} h => ?_) h) ?_
  · refine Calls.mono (value_num b 7 k n 1 hk ?_ h) ?_
    · rcases hk' with ⟨rfl, _⟩ | ⟨rfl, _⟩ | rfl <;> decide
    · intro e w' he
      have e1 : (if k = 2 then 7 else IntKind.i64.wrap (7 + wgt k)) = 7 + wgt k := by rcases hk' with ⟨rfl, _⟩ | ⟨rfl, _⟩ | rfl <;> decide
      rw [e1] at he
      exact he
  · rintro _ w ⟨rfl, h⟩
    refine ⟨_, rfl, Ret.mk ⟨?_, h.tail⟩⟩
    have e1 : IntKind.i64.wrap (7 + wgt k - 7) = wgt k := by rcases hk' with ⟨rfl, _⟩ | ⟨rfl, _⟩ | rfl <;> decide
    rw [e1]

end
end Go.Proofs.Sd
