/- The methods of a state. -/
import Derived.Test.YtnckkeefipaoeaaDoorAc0
set_option linter.unusedVariables false
set_option linter.unusedSimpArgs false
set_option maxRecDepth 100000
set_option maxHeartbeats 4000000
namespace Go.Proofs.Sd
open Go Go.Eng Go.Eng.HP Go.RowKit Go.Proofs
attribute [local irreducible] St New Drew Prim PrimU CallR CallV CallI CallX Meet Eng.Loop withSome HP.blk HP.mp Calls Holds Ret

/-- A state whose value has a kind and a number alone. -/
abbrev sta (s : Nat) (f : FuncId) (many k n size : Int) (told : Bool) : HP :=
  blk s t_accum_State [.func (.func f) #[.pointer (some ⟨s, 0, none⟩)] #[], .int .i64 many, .int .i64 k, .int .i64 n, .string em, .slice none 0 0, .slice none 0 0, .slice none 0 0, .int .i64 size, .bool told]

section
variable {G : Gh} {w : World} {L : List HP}

theorem isNil_fn {f : Fn} {a b : Array Value} {K : Bool → Prop} (h : K false) : isNilFn (.func f a b) K := h
theorem CallV.of2 {f : Nat} {s : Nat} {args : List Value} {w : World} {Kp : List PanicEntry → World → Prop} {K : Value → World → Prop}
    (hb : bl f = false) (h : CallR pg f (ptr s :: args) w Kp K) : CallV pg bl (.func (.func f) #[ptr s] #[]) args w Kp K := by
  refine CallV.of hb ?_
  simpa using h

theorem none_any (s : Option Addr) (k n : Int) (t : ByteArray) (a b c : Option Addr) (al ac bl' bc cl cc : Nat) (h : Holds G w (all L)) :
    Calls pg f_Paccum_State_none #[.pointer s, .agg #[.int .i64 k, .int .i64 n, .string t, .slice a al ac, .slice b bl' bc, .slice c cl cc]] w (Ret fun v w' => v = .int .i64 0 ∧ Holds G w' (all L)) := by
  apply of_Paccum_State_none
  unfold c_Paccum_State_none
  repeat' (first
    | (refine New.at h (fun b w hh => ?_); clear h; have h := hh; clear hh)
    | (refine Drew.of h (fun w hh => ?_); clear h; have h := hh; clear hh)
    | (refine St.at h 0 _ rfl rfl rfl (fun w hh => ?_); clear h; have h := hh; clear hh; simp only [List.set_cons_zero, List.set_cons_succ] at h)
    | (refine St.at h 1 _ rfl rfl rfl (fun w hh => ?_); clear h; have h := hh; clear hh; simp only [List.set_cons_zero, List.set_cons_succ] at h)
    | (refine St.at h 2 _ rfl rfl rfl (fun w hh => ?_); clear h; have h := hh; clear hh; simp only [List.set_cons_zero, List.set_cons_succ] at h)
    | (refine St.at h 3 _ rfl rfl rfl (fun w hh => ?_); clear h; have h := hh; clear hh; simp only [List.set_cons_zero, List.set_cons_succ] at h)
    | refine ⟨_, h.lda 0 _ rfl rfl, ?_⟩
    | refine ⟨_, _, _, h.lda 0 _ rfl rfl, ?_⟩
    | refine ⟨h.lda 0 _ rfl rfl, ?_⟩
    | refine ⟨_, h.lda 1 _ rfl rfl, ?_⟩
    | refine ⟨_, _, _, h.lda 1 _ rfl rfl, ?_⟩
    | refine ⟨h.lda 1 _ rfl rfl, ?_⟩
    | refine ⟨_, h.lda 2 _ rfl rfl, ?_⟩
    | refine ⟨_, _, _, h.lda 2 _ rfl rfl, ?_⟩
    | refine ⟨h.lda 2 _ rfl rfl, ?_⟩
    | refine ⟨_, h.lda 3 _ rfl rfl, ?_⟩
    | refine ⟨_, _, _, h.lda 3 _ rfl rfl, ?_⟩
    | refine ⟨h.lda 3 _ rfl rfl, ?_⟩
    | exact h.lda 0 _ rfl rfl
    | exact h.lda 1 _ rfl rfl
    | exact h.lda 2 _ rfl rfl
    | exact h.lda 3 _ rfl rfl
    | refine ⟨_, rfl, ?_⟩
    | refine ⟨_, _, rfl, ?_⟩
    | refine ⟨_, _, _, rfl, ?_⟩
    | refine ⟨_, _, _, _, _, _, _, _, _, _, _, _, rfl, ?_⟩
    | refine ⟨_, _, _, _, _, _, _, _, _, _, _, _, _, rfl, ?_⟩
    | refine ctt rfl ?_
    | refine cff rfl ?_
    | refine Meet.dup ?_
    | intro j
    | rw [ws]
    | simp only [ws, add_mk]
    | refine And.intro ?_ ?_)
  exact Ret.mk ⟨rfl, h.tail⟩

theorem sum_other (s : Option Addr) (k n : Int) (t : ByteArray) (a b c : Option Addr) (al ac bl' bc cl cc : Nat) (h3 : k ≠ 3) (h4 : k ≠ 4) (h : Holds G w (all L)) :
    Calls pg f_Paccum_State_sum #[.pointer s, .agg #[.int .i64 k, .int .i64 n, .string t, .slice a al ac, .slice b bl' bc, .slice c cl cc]] w (Ret fun v w' => v = .int .i64 0 ∧ Holds G w' (all L)) := by
  apply of_Paccum_State_sum
  unfold c_Paccum_State_sum
  repeat' (first
    | (refine New.at h (fun b w hh => ?_); clear h; have h := hh; clear hh)
    | (refine Drew.of h (fun w hh => ?_); clear h; have h := hh; clear hh)
    | (refine St.at h 0 _ rfl rfl rfl (fun w hh => ?_); clear h; have h := hh; clear hh; simp only [List.set_cons_zero, List.set_cons_succ] at h)
    | (refine St.at h 1 _ rfl rfl rfl (fun w hh => ?_); clear h; have h := hh; clear hh; simp only [List.set_cons_zero, List.set_cons_succ] at h)
    | (refine St.at h 2 _ rfl rfl rfl (fun w hh => ?_); clear h; have h := hh; clear hh; simp only [List.set_cons_zero, List.set_cons_succ] at h)
    | (refine St.at h 3 _ rfl rfl rfl (fun w hh => ?_); clear h; have h := hh; clear hh; simp only [List.set_cons_zero, List.set_cons_succ] at h)
    | refine ctt (bne_of h3) ?_
    | refine ctt (bne_of h4) ?_
    | refine ⟨_, h.lda 0 _ rfl rfl, ?_⟩
    | refine ⟨_, _, _, h.lda 0 _ rfl rfl, ?_⟩
    | refine ⟨h.lda 0 _ rfl rfl, ?_⟩
    | refine ⟨_, h.lda 1 _ rfl rfl, ?_⟩
    | refine ⟨_, _, _, h.lda 1 _ rfl rfl, ?_⟩
    | refine ⟨h.lda 1 _ rfl rfl, ?_⟩
    | refine ⟨_, h.lda 2 _ rfl rfl, ?_⟩
    | refine ⟨_, _, _, h.lda 2 _ rfl rfl, ?_⟩
    | refine ⟨h.lda 2 _ rfl rfl, ?_⟩
    | refine ⟨_, h.lda 3 _ rfl rfl, ?_⟩
    | refine ⟨_, _, _, h.lda 3 _ rfl rfl, ?_⟩
    | refine ⟨h.lda 3 _ rfl rfl, ?_⟩
    | exact h.lda 0 _ rfl rfl
    | exact h.lda 1 _ rfl rfl
    | exact h.lda 2 _ rfl rfl
    | exact h.lda 3 _ rfl rfl
    | refine ⟨_, rfl, ?_⟩
    | refine ⟨_, _, rfl, ?_⟩
    | refine ⟨_, _, _, rfl, ?_⟩
    | refine ⟨_, _, _, _, _, _, _, _, _, _, _, _, rfl, ?_⟩
    | refine ⟨_, _, _, _, _, _, _, _, _, _, _, _, _, rfl, ?_⟩
    | refine ctt rfl ?_
    | refine cff rfl ?_
    | refine Meet.dup ?_
    | intro j
    | rw [ws]
    | simp only [ws, add_mk]
    | refine And.intro ?_ ?_)
  exact Ret.mk ⟨rfl, h.tail⟩

theorem sum_num (s : Nat) (many k n : Int) (told : Bool) (kv x : Int) (hk : k = 3 ∨ k = 4) (hv : kv = 3 ∨ kv = 4) (hx : sumOk n x = true) (h : Holds G w (all (sta s f_Paccum_State_sum many k n 0 told :: L))) :
    Calls pg f_Paccum_State_sum #[ptr s, vI kv x] w (Ret fun v w' => v = .int .i64 0 ∧ Holds G w' (all (sta s f_Paccum_State_sum many (sumKind k kv (IntKind.i64.wrap (n + x))) (IntKind.i64.wrap (n + x)) 0 told :: L))) := by
  apply of_Paccum_State_sum
  unfold c_Paccum_State_sum
  have hv' := hv
  rcases hv' with rfl | rfl
  all_goals
    repeat' (first
      | (refine New.at h (fun b w hh => ?_); clear h; have h := hh; clear hh)
      | (refine Drew.of h (fun w hh => ?_); clear h; have h := hh; clear hh)
      | (refine St.at h 0 _ rfl rfl rfl (fun w hh => ?_); clear h; have h := hh; clear hh; simp only [List.set_cons_zero, List.set_cons_succ] at h)
      | (refine St.at h 1 _ rfl rfl rfl (fun w hh => ?_); clear h; have h := hh; clear hh; simp only [List.set_cons_zero, List.set_cons_succ] at h)
      | (refine St.at h 2 _ rfl rfl rfl (fun w hh => ?_); clear h; have h := hh; clear hh; simp only [List.set_cons_zero, List.set_cons_succ] at h)
      | (refine St.at h 3 _ rfl rfl rfl (fun w hh => ?_); clear h; have h := hh; clear hh; simp only [List.set_cons_zero, List.set_cons_succ] at h)
      | (refine CallR.of (num_Add _ _ _ _ _ _ _ _ rfl (fun h => reckoned _ _ _ _ hk hv hx h) h) ?_; rintro _ w ⟨rfl, h⟩)
      | refine ⟨_, h.lda 0 _ rfl rfl, ?_⟩
      | refine ⟨_, _, _, h.lda 0 _ rfl rfl, ?_⟩
      | refine ⟨h.lda 0 _ rfl rfl, ?_⟩
      | refine ⟨_, h.lda 1 _ rfl rfl, ?_⟩
      | refine ⟨_, _, _, h.lda 1 _ rfl rfl, ?_⟩
      | refine ⟨h.lda 1 _ rfl rfl, ?_⟩
      | refine ⟨_, h.lda 2 _ rfl rfl, ?_⟩
      | refine ⟨_, _, _, h.lda 2 _ rfl rfl, ?_⟩
      | refine ⟨h.lda 2 _ rfl rfl, ?_⟩
      | refine ⟨_, h.lda 3 _ rfl rfl, ?_⟩
      | refine ⟨_, _, _, h.lda 3 _ rfl rfl, ?_⟩
      | refine ⟨h.lda 3 _ rfl rfl, ?_⟩
      | exact h.lda 0 _ rfl rfl
      | exact h.lda 1 _ rfl rfl
      | exact h.lda 2 _ rfl rfl
      | exact h.lda 3 _ rfl rfl
      | refine ⟨_, rfl, ?_⟩
      | refine ⟨_, _, rfl, ?_⟩
      | refine ⟨_, _, _, rfl, ?_⟩
      | refine ⟨_, _, _, _, _, _, _, _, _, _, _, _, rfl, ?_⟩
      | refine ⟨_, _, _, _, _, _, _, _, _, _, _, _, _, rfl, ?_⟩
      | refine ctt rfl ?_
      | refine cff rfl ?_
      | refine Meet.dup ?_
      | intro j
      | rw [ws]
      | simp only [ws, add_mk]
      | refine And.intro ?_ ?_)
    all_goals exact Ret.mk ⟨rfl, h.tail.tail⟩

theorem sum_bad (s : Nat) (many k n : Int) (told : Bool) (kv x : Int) (hk : k = 3 ∨ k = 4) (hv : kv = 3 ∨ kv = 4) (hx : sumOk n x = false) (h : Holds G w (all (sta s f_Paccum_State_sum many k n 0 told :: L))) :
    Calls pg f_Paccum_State_sum #[ptr s, vI kv x] w (Ret fun v w' => v = .int .i64 10 ∧ Holds G w' (all (sta s f_Paccum_State_sum many k n 0 told :: L))) := by
  apply of_Paccum_State_sum
  unfold c_Paccum_State_sum
  have hv' := hv
  rcases hv' with rfl | rfl
  all_goals
    repeat' (first
      | (refine New.at h (fun b w hh => ?_); clear h; have h := hh; clear hh)
      | (refine Drew.of h (fun w hh => ?_); clear h; have h := hh; clear hh)
      | (refine St.at h 0 _ rfl rfl rfl (fun w hh => ?_); clear h; have h := hh; clear hh; simp only [List.set_cons_zero, List.set_cons_succ] at h)
      | (refine St.at h 1 _ rfl rfl rfl (fun w hh => ?_); clear h; have h := hh; clear hh; simp only [List.set_cons_zero, List.set_cons_succ] at h)
      | (refine St.at h 2 _ rfl rfl rfl (fun w hh => ?_); clear h; have h := hh; clear hh; simp only [List.set_cons_zero, List.set_cons_succ] at h)
      | (refine St.at h 3 _ rfl rfl rfl (fun w hh => ?_); clear h; have h := hh; clear hh; simp only [List.set_cons_zero, List.set_cons_succ] at h)
      | (refine CallR.of (num_Add _ _ _ _ _ _ _ _ rfl (fun h => reckoned_bad _ _ _ _ hk hv hx h) h) ?_; rintro _ w ⟨rfl, h⟩)
      | refine ⟨_, h.lda 0 _ rfl rfl, ?_⟩
      | refine ⟨_, _, _, h.lda 0 _ rfl rfl, ?_⟩
      | refine ⟨h.lda 0 _ rfl rfl, ?_⟩
      | refine ⟨_, h.lda 1 _ rfl rfl, ?_⟩
      | refine ⟨_, _, _, h.lda 1 _ rfl rfl, ?_⟩
      | refine ⟨h.lda 1 _ rfl rfl, ?_⟩
      | refine ⟨_, h.lda 2 _ rfl rfl, ?_⟩
      | refine ⟨_, _, _, h.lda 2 _ rfl rfl, ?_⟩
      | refine ⟨h.lda 2 _ rfl rfl, ?_⟩
      | refine ⟨_, h.lda 3 _ rfl rfl, ?_⟩
      | refine ⟨_, _, _, h.lda 3 _ rfl rfl, ?_⟩
      | refine ⟨h.lda 3 _ rfl rfl, ?_⟩
      | exact h.lda 0 _ rfl rfl
      | exact h.lda 1 _ rfl rfl
      | exact h.lda 2 _ rfl rfl
      | exact h.lda 3 _ rfl rfl
      | refine ⟨_, rfl, ?_⟩
      | refine ⟨_, _, rfl, ?_⟩
      | refine ⟨_, _, _, rfl, ?_⟩
      | refine ⟨_, _, _, _, _, _, _, _, _, _, _, _, rfl, ?_⟩
      | refine ⟨_, _, _, _, _, _, _, _, _, _, _, _, _, rfl, ?_⟩
      | refine ctt rfl ?_
      | refine cff rfl ?_
      | refine Meet.dup ?_
      | intro j
      | rw [ws]
      | simp only [ws, add_mk]
      | refine And.intro ?_ ?_)
    all_goals exact Ret.mk ⟨rfl, h.tail.tail⟩

theorem better_skip (s : Nat) (f : Nat) (many k n size : Int) (told : Bool) (kv d : Int) (hv : kv = 0 ∨ kv = 2) (h : Holds G w (all (sta s f many k n size told :: L))) :
    Calls pg f_Paccum_State_better #[ptr s, vI kv 0, .int .i64 d] w (Ret fun v w' => v = .tuple #[] ∧ Holds G w' (all (sta s f many k n size told :: L))) := by
  apply of_Paccum_State_better
  unfold c_Paccum_State_better
  rcases hv with rfl | rfl
  all_goals
    repeat' (first
      | (refine New.at h (fun b w hh => ?_); clear h; have h := hh; clear hh)
      | (refine Drew.of h (fun w hh => ?_); clear h; have h := hh; clear hh)
      | (refine St.at h 0 _ rfl rfl rfl (fun w hh => ?_); clear h; have h := hh; clear hh; simp only [List.set_cons_zero, List.set_cons_succ] at h)
      | (refine St.at h 1 _ rfl rfl rfl (fun w hh => ?_); clear h; have h := hh; clear hh; simp only [List.set_cons_zero, List.set_cons_succ] at h)
      | (refine St.at h 2 _ rfl rfl rfl (fun w hh => ?_); clear h; have h := hh; clear hh; simp only [List.set_cons_zero, List.set_cons_succ] at h)
      | (refine St.at h 3 _ rfl rfl rfl (fun w hh => ?_); clear h; have h := hh; clear hh; simp only [List.set_cons_zero, List.set_cons_succ] at h)
      | refine ⟨_, h.lda 0 _ rfl rfl, ?_⟩
      | refine ⟨_, _, _, h.lda 0 _ rfl rfl, ?_⟩
      | refine ⟨h.lda 0 _ rfl rfl, ?_⟩
      | refine ⟨_, h.lda 1 _ rfl rfl, ?_⟩
      | refine ⟨_, _, _, h.lda 1 _ rfl rfl, ?_⟩
      | refine ⟨h.lda 1 _ rfl rfl, ?_⟩
      | refine ⟨_, h.lda 2 _ rfl rfl, ?_⟩
      | refine ⟨_, _, _, h.lda 2 _ rfl rfl, ?_⟩
      | refine ⟨h.lda 2 _ rfl rfl, ?_⟩
      | refine ⟨_, h.lda 3 _ rfl rfl, ?_⟩
      | refine ⟨_, _, _, h.lda 3 _ rfl rfl, ?_⟩
      | refine ⟨h.lda 3 _ rfl rfl, ?_⟩
      | exact h.lda 0 _ rfl rfl
      | exact h.lda 1 _ rfl rfl
      | exact h.lda 2 _ rfl rfl
      | exact h.lda 3 _ rfl rfl
      | refine ⟨_, rfl, ?_⟩
      | refine ⟨_, _, rfl, ?_⟩
      | refine ⟨_, _, _, rfl, ?_⟩
      | refine ⟨_, _, _, _, _, _, _, _, _, _, _, _, rfl, ?_⟩
      | refine ⟨_, _, _, _, _, _, _, _, _, _, _, _, _, rfl, ?_⟩
      | refine ctt rfl ?_
      | refine cff rfl ?_
      | refine Meet.dup ?_
      | intro j
      | rw [ws]
      | simp only [ws, add_mk]
      | refine And.intro ?_ ?_)
    all_goals exact Ret.mk ⟨rfl, h.tail⟩

theorem better_first (s : Nat) (f : Nat) (many n size : Int) (told : Bool) (kv x d : Int) (hv : kv = 3 ∨ kv = 4) (h : Holds G w (all (sta s f many 0 n size told :: L))) :
    Calls pg f_Paccum_State_better #[ptr s, vI kv x, .int .i64 d] w (Ret fun v w' => v = .tuple #[] ∧ Holds G w' (all (sta s f many kv x size told :: L))) := by
  apply of_Paccum_State_better
  unfold c_Paccum_State_better
  rcases hv with rfl | rfl
  all_goals
    repeat' (first
      | (refine New.at h (fun b w hh => ?_); clear h; have h := hh; clear hh)
      | (refine Drew.of h (fun w hh => ?_); clear h; have h := hh; clear hh)
      | (refine St.at h 0 _ rfl rfl rfl (fun w hh => ?_); clear h; have h := hh; clear hh; simp only [List.set_cons_zero, List.set_cons_succ] at h)
      | (refine St.at h 1 _ rfl rfl rfl (fun w hh => ?_); clear h; have h := hh; clear hh; simp only [List.set_cons_zero, List.set_cons_succ] at h)
      | (refine St.at h 2 _ rfl rfl rfl (fun w hh => ?_); clear h; have h := hh; clear hh; simp only [List.set_cons_zero, List.set_cons_succ] at h)
      | (refine St.at h 3 _ rfl rfl rfl (fun w hh => ?_); clear h; have h := hh; clear hh; simp only [List.set_cons_zero, List.set_cons_succ] at h)
      | (refine CallR.of (Copy_num _ _ h) ?_; rintro _ w ⟨rfl, h⟩)
      | refine ⟨_, h.lda 0 _ rfl rfl, ?_⟩
      | refine ⟨_, _, _, h.lda 0 _ rfl rfl, ?_⟩
      | refine ⟨h.lda 0 _ rfl rfl, ?_⟩
      | refine ⟨_, h.lda 1 _ rfl rfl, ?_⟩
      | refine ⟨_, _, _, h.lda 1 _ rfl rfl, ?_⟩
      | refine ⟨h.lda 1 _ rfl rfl, ?_⟩
      | refine ⟨_, h.lda 2 _ rfl rfl, ?_⟩
      | refine ⟨_, _, _, h.lda 2 _ rfl rfl, ?_⟩
      | refine ⟨h.lda 2 _ rfl rfl, ?_⟩
      | refine ⟨_, h.lda 3 _ rfl rfl, ?_⟩
      | refine ⟨_, _, _, h.lda 3 _ rfl rfl, ?_⟩
      | refine ⟨h.lda 3 _ rfl rfl, ?_⟩
      | exact h.lda 0 _ rfl rfl
      | exact h.lda 1 _ rfl rfl
      | exact h.lda 2 _ rfl rfl
      | exact h.lda 3 _ rfl rfl
      | refine ⟨_, rfl, ?_⟩
      | refine ⟨_, _, rfl, ?_⟩
      | refine ⟨_, _, _, rfl, ?_⟩
      | refine ⟨_, _, _, _, _, _, _, _, _, _, _, _, rfl, ?_⟩
      | refine ⟨_, _, _, _, _, _, _, _, _, _, _, _, _, rfl, ?_⟩
      | refine ctt rfl ?_
      | refine cff rfl ?_
      | refine Meet.dup ?_
      | intro j
      | rw [ws]
      | simp only [ws, add_mk]
      | refine And.intro ?_ ?_)
    all_goals exact Ret.mk ⟨rfl, h.tail⟩

theorem better_num (s : Nat) (f : Nat) (many k n size : Int) (told : Bool) (kv x d : Int) (hk : k = 3 ∨ k = 4) (hv : kv = 3 ∨ kv = 4) (h : Holds G w (all (sta s f many k n size told :: L))) :
    Calls pg f_Paccum_State_better #[ptr s, vI kv x, .int .i64 d] w (Ret fun v w' => v = .tuple #[] ∧ Holds G w' (all (sta s f many (if cmpI x n = d then kv else k) (if cmpI x n = d then x else n) size told :: L))) := by
  apply of_Paccum_State_better
  unfold c_Paccum_State_better
  have hv' := hv
  have hk' := hk
  by_cases hc : cmpI x n = d
  · rw [if_pos hc, if_pos hc]
    rcases hv' with rfl | rfl <;> rcases hk' with rfl | rfl
    all_goals
      repeat' (first
        | (refine New.at h (fun b w hh => ?_); clear h; have h := hh; clear hh)
        | (refine Drew.of h (fun w hh => ?_); clear h; have h := hh; clear hh)
        | (refine St.at h 0 _ rfl rfl rfl (fun w hh => ?_); clear h; have h := hh; clear hh; simp only [List.set_cons_zero, List.set_cons_succ] at h)
        | (refine St.at h 1 _ rfl rfl rfl (fun w hh => ?_); clear h; have h := hh; clear hh; simp only [List.set_cons_zero, List.set_cons_succ] at h)
        | (refine St.at h 2 _ rfl rfl rfl (fun w hh => ?_); clear h; have h := hh; clear hh; simp only [List.set_cons_zero, List.set_cons_succ] at h)
        | (refine St.at h 3 _ rfl rfl rfl (fun w hh => ?_); clear h; have h := hh; clear hh; simp only [List.set_cons_zero, List.set_cons_succ] at h)
        | (refine CallR.of (Compare_num _ _ _ _ hv hk h) ?_; rintro _ w ⟨rfl, h⟩)
        | (refine CallR.of (Copy_num _ _ h) ?_; rintro _ w ⟨rfl, h⟩)
        | refine ctt (beq_of hc) ?_
        | refine ⟨_, h.lda 0 _ rfl rfl, ?_⟩
        | refine ⟨_, _, _, h.lda 0 _ rfl rfl, ?_⟩
        | refine ⟨h.lda 0 _ rfl rfl, ?_⟩
        | refine ⟨_, h.lda 1 _ rfl rfl, ?_⟩
        | refine ⟨_, _, _, h.lda 1 _ rfl rfl, ?_⟩
        | refine ⟨h.lda 1 _ rfl rfl, ?_⟩
        | refine ⟨_, h.lda 2 _ rfl rfl, ?_⟩
        | refine ⟨_, _, _, h.lda 2 _ rfl rfl, ?_⟩
        | refine ⟨h.lda 2 _ rfl rfl, ?_⟩
        | refine ⟨_, h.lda 3 _ rfl rfl, ?_⟩
        | refine ⟨_, _, _, h.lda 3 _ rfl rfl, ?_⟩
        | refine ⟨h.lda 3 _ rfl rfl, ?_⟩
        | exact h.lda 0 _ rfl rfl
        | exact h.lda 1 _ rfl rfl
        | exact h.lda 2 _ rfl rfl
        | exact h.lda 3 _ rfl rfl
        | refine ⟨_, rfl, ?_⟩
        | refine ⟨_, _, rfl, ?_⟩
        | refine ⟨_, _, _, rfl, ?_⟩
        | refine ⟨_, _, _, _, _, _, _, _, _, _, _, _, rfl, ?_⟩
        | refine ⟨_, _, _, _, _, _, _, _, _, _, _, _, _, rfl, ?_⟩
        | refine ctt rfl ?_
        | refine cff rfl ?_
        | refine Meet.dup ?_
        | intro j
        | rw [ws]
        | simp only [ws, add_mk]
        | refine And.intro ?_ ?_)
      all_goals exact Ret.mk ⟨rfl, h.tail⟩
  · rw [if_neg hc, if_neg hc]
    rcases hv' with rfl | rfl <;> rcases hk' with rfl | rfl
    all_goals
      repeat' (first
        | (refine New.at h (fun b w hh => ?_); clear h; have h := hh; clear hh)
        | (refine Drew.of h (fun w hh => ?_); clear h; have h := hh; clear hh)
        | (refine St.at h 0 _ rfl rfl rfl (fun w hh => ?_); clear h; have h := hh; clear hh; simp only [List.set_cons_zero, List.set_cons_succ] at h)
        | (refine St.at h 1 _ rfl rfl rfl (fun w hh => ?_); clear h; have h := hh; clear hh; simp only [List.set_cons_zero, List.set_cons_succ] at h)
        | (refine St.at h 2 _ rfl rfl rfl (fun w hh => ?_); clear h; have h := hh; clear hh; simp only [List.set_cons_zero, List.set_cons_succ] at h)
        | (refine St.at h 3 _ rfl rfl rfl (fun w hh => ?_); clear h; have h := hh; clear hh; simp only [List.set_cons_zero, List.set_cons_succ] at h)
        | (refine CallR.of (Compare_num _ _ _ _ hv hk h) ?_; rintro _ w ⟨rfl, h⟩)
        | (refine CallR.of (Copy_num _ _ h) ?_; rintro _ w ⟨rfl, h⟩)
        | refine cff (beq_no hc) ?_
        | refine ⟨_, h.lda 0 _ rfl rfl, ?_⟩
        | refine ⟨_, _, _, h.lda 0 _ rfl rfl, ?_⟩
        | refine ⟨h.lda 0 _ rfl rfl, ?_⟩
        | refine ⟨_, h.lda 1 _ rfl rfl, ?_⟩
        | refine ⟨_, _, _, h.lda 1 _ rfl rfl, ?_⟩
        | refine ⟨h.lda 1 _ rfl rfl, ?_⟩
        | refine ⟨_, h.lda 2 _ rfl rfl, ?_⟩
        | refine ⟨_, _, _, h.lda 2 _ rfl rfl, ?_⟩
        | refine ⟨h.lda 2 _ rfl rfl, ?_⟩
        | refine ⟨_, h.lda 3 _ rfl rfl, ?_⟩
        | refine ⟨_, _, _, h.lda 3 _ rfl rfl, ?_⟩
        | refine ⟨h.lda 3 _ rfl rfl, ?_⟩
        | exact h.lda 0 _ rfl rfl
        | exact h.lda 1 _ rfl rfl
        | exact h.lda 2 _ rfl rfl
        | exact h.lda 3 _ rfl rfl
        | refine ⟨_, rfl, ?_⟩
        | refine ⟨_, _, rfl, ?_⟩
        | refine ⟨_, _, _, rfl, ?_⟩
        | refine ⟨_, _, _, _, _, _, _, _, _, _, _, _, rfl, ?_⟩
        | refine ⟨_, _, _, _, _, _, _, _, _, _, _, _, _, rfl, ?_⟩
        | refine ctt rfl ?_
        | refine cff rfl ?_
        | refine Meet.dup ?_
        | intro j
        | rw [ws]
        | simp only [ws, add_mk]
        | refine And.intro ?_ ?_)
      all_goals exact Ret.mk ⟨rfl, h.tail⟩

theorem least_of (s : Nat) (f : Nat) (many k n size : Int) (told : Bool) (kv x : Int) (A : HP)
    (hb : ∀ {w : World} {L : List HP}, Holds G w (all (sta s f many k n size told :: L)) → Calls pg f_Paccum_State_better #[ptr s, vI kv x, .int .i64 (-1)] w (Ret fun v w' => v = .tuple #[] ∧ Holds G w' (all (A :: L))))
    (h : Holds G w (all (sta s f many k n size told :: L))) :
    Calls pg f_Paccum_State_least #[ptr s, vI kv x] w (Ret fun v w' => v = .int .i64 0 ∧ Holds G w' (all (A :: L))) := by
  apply of_Paccum_State_least
  unfold c_Paccum_State_least
  repeat' (first
    | (refine New.at h (fun b w hh => ?_); clear h; have h := hh; clear hh)
    | (refine Drew.of h (fun w hh => ?_); clear h; have h := hh; clear hh)
    | (refine St.at h 0 _ rfl rfl rfl (fun w hh => ?_); clear h; have h := hh; clear hh; simp only [List.set_cons_zero, List.set_cons_succ] at h)
    | (refine St.at h 1 _ rfl rfl rfl (fun w hh => ?_); clear h; have h := hh; clear hh; simp only [List.set_cons_zero, List.set_cons_succ] at h)
    | (refine St.at h 2 _ rfl rfl rfl (fun w hh => ?_); clear h; have h := hh; clear hh; simp only [List.set_cons_zero, List.set_cons_succ] at h)
    | (refine St.at h 3 _ rfl rfl rfl (fun w hh => ?_); clear h; have h := hh; clear hh; simp only [List.set_cons_zero, List.set_cons_succ] at h)
    | (refine CallR.of (hb (h.bring 1 rfl)) ?_; rintro _ w ⟨rfl, h⟩)
    | refine ⟨rfl, ?_⟩
    | refine ⟨_, h.lda 0 _ rfl rfl, ?_⟩
    | refine ⟨_, _, _, h.lda 0 _ rfl rfl, ?_⟩
    | refine ⟨h.lda 0 _ rfl rfl, ?_⟩
    | refine ⟨_, h.lda 1 _ rfl rfl, ?_⟩
    | refine ⟨_, _, _, h.lda 1 _ rfl rfl, ?_⟩
    | refine ⟨h.lda 1 _ rfl rfl, ?_⟩
    | refine ⟨_, h.lda 2 _ rfl rfl, ?_⟩
    | refine ⟨_, _, _, h.lda 2 _ rfl rfl, ?_⟩
    | refine ⟨h.lda 2 _ rfl rfl, ?_⟩
    | refine ⟨_, h.lda 3 _ rfl rfl, ?_⟩
    | refine ⟨_, _, _, h.lda 3 _ rfl rfl, ?_⟩
    | refine ⟨h.lda 3 _ rfl rfl, ?_⟩
    | exact h.lda 0 _ rfl rfl
    | exact h.lda 1 _ rfl rfl
    | exact h.lda 2 _ rfl rfl
    | exact h.lda 3 _ rfl rfl
    | refine ⟨_, rfl, ?_⟩
    | refine ⟨_, _, rfl, ?_⟩
    | refine ⟨_, _, _, rfl, ?_⟩
    | refine ⟨_, _, _, _, _, _, _, _, _, _, _, _, rfl, ?_⟩
    | refine ⟨_, _, _, _, _, _, _, _, _, _, _, _, _, rfl, ?_⟩
    | refine ctt rfl ?_
    | refine cff rfl ?_
    | refine Meet.dup ?_
    | intro j
    | rw [ws]
    | simp only [ws, add_mk]
    | refine And.intro ?_ ?_)
  exact Ret.mk ⟨rfl, (h.bring 1 rfl).tail⟩

theorem greatest_of (s : Nat) (f : Nat) (many k n size : Int) (told : Bool) (kv x : Int) (A : HP)
    (hb : ∀ {w : World} {L : List HP}, Holds G w (all (sta s f many k n size told :: L)) → Calls pg f_Paccum_State_better #[ptr s, vI kv x, .int .i64 1] w (Ret fun v w' => v = .tuple #[] ∧ Holds G w' (all (A :: L))))
    (h : Holds G w (all (sta s f many k n size told :: L))) :
    Calls pg f_Paccum_State_greatest #[ptr s, vI kv x] w (Ret fun v w' => v = .int .i64 0 ∧ Holds G w' (all (A :: L))) := by
  apply of_Paccum_State_greatest
  unfold c_Paccum_State_greatest
  repeat' (first
    | (refine New.at h (fun b w hh => ?_); clear h; have h := hh; clear hh)
    | (refine Drew.of h (fun w hh => ?_); clear h; have h := hh; clear hh)
    | (refine St.at h 0 _ rfl rfl rfl (fun w hh => ?_); clear h; have h := hh; clear hh; simp only [List.set_cons_zero, List.set_cons_succ] at h)
    | (refine St.at h 1 _ rfl rfl rfl (fun w hh => ?_); clear h; have h := hh; clear hh; simp only [List.set_cons_zero, List.set_cons_succ] at h)
    | (refine St.at h 2 _ rfl rfl rfl (fun w hh => ?_); clear h; have h := hh; clear hh; simp only [List.set_cons_zero, List.set_cons_succ] at h)
    | (refine St.at h 3 _ rfl rfl rfl (fun w hh => ?_); clear h; have h := hh; clear hh; simp only [List.set_cons_zero, List.set_cons_succ] at h)
    | (refine CallR.of (hb (h.bring 1 rfl)) ?_; rintro _ w ⟨rfl, h⟩)
    | refine ⟨rfl, ?_⟩
    | refine ⟨_, h.lda 0 _ rfl rfl, ?_⟩
    | refine ⟨_, _, _, h.lda 0 _ rfl rfl, ?_⟩
    | refine ⟨h.lda 0 _ rfl rfl, ?_⟩
    | refine ⟨_, h.lda 1 _ rfl rfl, ?_⟩
    | refine ⟨_, _, _, h.lda 1 _ rfl rfl, ?_⟩
    | refine ⟨h.lda 1 _ rfl rfl, ?_⟩
    | refine ⟨_, h.lda 2 _ rfl rfl, ?_⟩
    | refine ⟨_, _, _, h.lda 2 _ rfl rfl, ?_⟩
    | refine ⟨h.lda 2 _ rfl rfl, ?_⟩
    | refine ⟨_, h.lda 3 _ rfl rfl, ?_⟩
    | refine ⟨_, _, _, h.lda 3 _ rfl rfl, ?_⟩
    | refine ⟨h.lda 3 _ rfl rfl, ?_⟩
    | exact h.lda 0 _ rfl rfl
    | exact h.lda 1 _ rfl rfl
    | exact h.lda 2 _ rfl rfl
    | exact h.lda 3 _ rfl rfl
    | refine ⟨_, rfl, ?_⟩
    | refine ⟨_, _, rfl, ?_⟩
    | refine ⟨_, _, _, rfl, ?_⟩
    | refine ⟨_, _, _, _, _, _, _, _, _, _, _, _, rfl, ?_⟩
    | refine ⟨_, _, _, _, _, _, _, _, _, _, _, _, _, rfl, ?_⟩
    | refine ctt rfl ?_
    | refine cff rfl ?_
    | refine Meet.dup ?_
    | intro j
    | rw [ws]
    | simp only [ws, add_mk]
    | refine And.intro ?_ ?_)
  exact Ret.mk ⟨rfl, (h.bring 1 rfl).tail⟩

theorem first_of (s : Nat) (f : Nat) (k n size : Int) (told : Bool) (kv x : Int) (h : Holds G w (all (sta s f 0 k n size told :: L))) :
    Calls pg f_Paccum_State_first #[ptr s, vI kv x] w (Ret fun v w' => v = .int .i64 0 ∧ Holds G w' (all (sta s f 0 kv x size told :: L))) := by
  apply of_Paccum_State_first
  unfold c_Paccum_State_first
  repeat' (first
    | (refine New.at h (fun b w hh => ?_); clear h; have h := hh; clear hh)
    | (refine Drew.of h (fun w hh => ?_); clear h; have h := hh; clear hh)
    | (refine St.at h 0 _ rfl rfl rfl (fun w hh => ?_); clear h; have h := hh; clear hh; simp only [List.set_cons_zero, List.set_cons_succ] at h)
    | (refine St.at h 1 _ rfl rfl rfl (fun w hh => ?_); clear h; have h := hh; clear hh; simp only [List.set_cons_zero, List.set_cons_succ] at h)
    | (refine St.at h 2 _ rfl rfl rfl (fun w hh => ?_); clear h; have h := hh; clear hh; simp only [List.set_cons_zero, List.set_cons_succ] at h)
    | (refine St.at h 3 _ rfl rfl rfl (fun w hh => ?_); clear h; have h := hh; clear hh; simp only [List.set_cons_zero, List.set_cons_succ] at h)
    | (refine CallR.of (Copy_num _ _ h) ?_; rintro _ w ⟨rfl, h⟩)
    | refine ⟨_, h.lda 0 _ rfl rfl, ?_⟩
    | refine ⟨_, _, _, h.lda 0 _ rfl rfl, ?_⟩
    | refine ⟨h.lda 0 _ rfl rfl, ?_⟩
    | refine ⟨_, h.lda 1 _ rfl rfl, ?_⟩
    | refine ⟨_, _, _, h.lda 1 _ rfl rfl, ?_⟩
    | refine ⟨h.lda 1 _ rfl rfl, ?_⟩
    | refine ⟨_, h.lda 2 _ rfl rfl, ?_⟩
    | refine ⟨_, _, _, h.lda 2 _ rfl rfl, ?_⟩
    | refine ⟨h.lda 2 _ rfl rfl, ?_⟩
    | refine ⟨_, h.lda 3 _ rfl rfl, ?_⟩
    | refine ⟨_, _, _, h.lda 3 _ rfl rfl, ?_⟩
    | refine ⟨h.lda 3 _ rfl rfl, ?_⟩
    | exact h.lda 0 _ rfl rfl
    | exact h.lda 1 _ rfl rfl
    | exact h.lda 2 _ rfl rfl
    | exact h.lda 3 _ rfl rfl
    | refine ⟨_, rfl, ?_⟩
    | refine ⟨_, _, rfl, ?_⟩
    | refine ⟨_, _, _, rfl, ?_⟩
    | refine ⟨_, _, _, _, _, _, _, _, _, _, _, _, rfl, ?_⟩
    | refine ⟨_, _, _, _, _, _, _, _, _, _, _, _, _, rfl, ?_⟩
    | refine ctt rfl ?_
    | refine cff rfl ?_
    | refine Meet.dup ?_
    | intro j
    | rw [ws]
    | simp only [ws, add_mk]
    | refine And.intro ?_ ?_)
  exact Ret.mk ⟨rfl, h.tail⟩

theorem first_more (s : Nat) (f : Nat) (many k n size : Int) (told : Bool) (kv x : Int) (hm : many ≠ 0) (h : Holds G w (all (sta s f many k n size told :: L))) :
    Calls pg f_Paccum_State_first #[ptr s, vI kv x] w (Ret fun v w' => v = .int .i64 0 ∧ Holds G w' (all (sta s f many k n size told :: L))) := by
  apply of_Paccum_State_first
  unfold c_Paccum_State_first
  repeat' (first
    | (refine New.at h (fun b w hh => ?_); clear h; have h := hh; clear hh)
    | (refine Drew.of h (fun w hh => ?_); clear h; have h := hh; clear hh)
    | (refine St.at h 0 _ rfl rfl rfl (fun w hh => ?_); clear h; have h := hh; clear hh; simp only [List.set_cons_zero, List.set_cons_succ] at h)
    | (refine St.at h 1 _ rfl rfl rfl (fun w hh => ?_); clear h; have h := hh; clear hh; simp only [List.set_cons_zero, List.set_cons_succ] at h)
    | (refine St.at h 2 _ rfl rfl rfl (fun w hh => ?_); clear h; have h := hh; clear hh; simp only [List.set_cons_zero, List.set_cons_succ] at h)
    | (refine St.at h 3 _ rfl rfl rfl (fun w hh => ?_); clear h; have h := hh; clear hh; simp only [List.set_cons_zero, List.set_cons_succ] at h)
    | refine cff (beq_no hm) ?_
    | refine ⟨_, h.lda 0 _ rfl rfl, ?_⟩
    | refine ⟨_, _, _, h.lda 0 _ rfl rfl, ?_⟩
    | refine ⟨h.lda 0 _ rfl rfl, ?_⟩
    | refine ⟨_, h.lda 1 _ rfl rfl, ?_⟩
    | refine ⟨_, _, _, h.lda 1 _ rfl rfl, ?_⟩
    | refine ⟨h.lda 1 _ rfl rfl, ?_⟩
    | refine ⟨_, h.lda 2 _ rfl rfl, ?_⟩
    | refine ⟨_, _, _, h.lda 2 _ rfl rfl, ?_⟩
    | refine ⟨h.lda 2 _ rfl rfl, ?_⟩
    | refine ⟨_, h.lda 3 _ rfl rfl, ?_⟩
    | refine ⟨_, _, _, h.lda 3 _ rfl rfl, ?_⟩
    | refine ⟨h.lda 3 _ rfl rfl, ?_⟩
    | exact h.lda 0 _ rfl rfl
    | exact h.lda 1 _ rfl rfl
    | exact h.lda 2 _ rfl rfl
    | exact h.lda 3 _ rfl rfl
    | refine ⟨_, rfl, ?_⟩
    | refine ⟨_, _, rfl, ?_⟩
    | refine ⟨_, _, _, rfl, ?_⟩
    | refine ⟨_, _, _, _, _, _, _, _, _, _, _, _, rfl, ?_⟩
    | refine ⟨_, _, _, _, _, _, _, _, _, _, _, _, _, rfl, ?_⟩
    | refine ctt rfl ?_
    | refine cff rfl ?_
    | refine Meet.dup ?_
    | intro j
    | rw [ws]
    | simp only [ws, add_mk]
    | refine And.intro ?_ ?_)
  exact Ret.mk ⟨rfl, h.tail⟩

theorem last_of (s : Nat) (f : Nat) (many k n size : Int) (told : Bool) (kv x : Int) (h : Holds G w (all (sta s f many k n size told :: L))) :
    Calls pg f_Paccum_State_last #[ptr s, vI kv x] w (Ret fun v w' => v = .int .i64 0 ∧ Holds G w' (all (sta s f many kv x size told :: L))) := by
  apply of_Paccum_State_last
  unfold c_Paccum_State_last
  repeat' (first
    | (refine New.at h (fun b w hh => ?_); clear h; have h := hh; clear hh)
    | (refine Drew.of h (fun w hh => ?_); clear h; have h := hh; clear hh)
    | (refine St.at h 0 _ rfl rfl rfl (fun w hh => ?_); clear h; have h := hh; clear hh; simp only [List.set_cons_zero, List.set_cons_succ] at h)
    | (refine St.at h 1 _ rfl rfl rfl (fun w hh => ?_); clear h; have h := hh; clear hh; simp only [List.set_cons_zero, List.set_cons_succ] at h)
    | (refine St.at h 2 _ rfl rfl rfl (fun w hh => ?_); clear h; have h := hh; clear hh; simp only [List.set_cons_zero, List.set_cons_succ] at h)
    | (refine St.at h 3 _ rfl rfl rfl (fun w hh => ?_); clear h; have h := hh; clear hh; simp only [List.set_cons_zero, List.set_cons_succ] at h)
    | (refine CallR.of (Copy_num _ _ h) ?_; rintro _ w ⟨rfl, h⟩)
    | refine ⟨_, h.lda 0 _ rfl rfl, ?_⟩
    | refine ⟨_, _, _, h.lda 0 _ rfl rfl, ?_⟩
    | refine ⟨h.lda 0 _ rfl rfl, ?_⟩
    | refine ⟨_, h.lda 1 _ rfl rfl, ?_⟩
    | refine ⟨_, _, _, h.lda 1 _ rfl rfl, ?_⟩
    | refine ⟨h.lda 1 _ rfl rfl, ?_⟩
    | refine ⟨_, h.lda 2 _ rfl rfl, ?_⟩
    | refine ⟨_, _, _, h.lda 2 _ rfl rfl, ?_⟩
    | refine ⟨h.lda 2 _ rfl rfl, ?_⟩
    | refine ⟨_, h.lda 3 _ rfl rfl, ?_⟩
    | refine ⟨_, _, _, h.lda 3 _ rfl rfl, ?_⟩
    | refine ⟨h.lda 3 _ rfl rfl, ?_⟩
    | exact h.lda 0 _ rfl rfl
    | exact h.lda 1 _ rfl rfl
    | exact h.lda 2 _ rfl rfl
    | exact h.lda 3 _ rfl rfl
    | refine ⟨_, rfl, ?_⟩
    | refine ⟨_, _, rfl, ?_⟩
    | refine ⟨_, _, _, rfl, ?_⟩
    | refine ⟨_, _, _, _, _, _, _, _, _, _, _, _, rfl, ?_⟩
    | refine ⟨_, _, _, _, _, _, _, _, _, _, _, _, _, rfl, ?_⟩
    | refine ctt rfl ?_
    | refine cff rfl ?_
    | refine Meet.dup ?_
    | intro j
    | rw [ws]
    | simp only [ws, add_mk]
    | refine And.intro ?_ ?_)
  exact Ret.mk ⟨rfl, h.tail⟩

/-- Add goes by the state's own function. -/
theorem Add_of (s : Nat) (f : Nat) (many k n size : Int) (told : Bool) (k' n' size' : Int) (told' : Bool) (kv x : Int) (t : ByteArray) (a b c : Option Addr) (al ac bl' bc cl cc : Nat) (hf : bl f = false)
    (hb : ∀ {w : World} {L : List HP}, Holds G w (all (sta s f many k n size told :: L)) →
      Calls pg f #[ptr s, .agg #[.int .i64 kv, .int .i64 x, .string t, .slice a al ac, .slice b bl' bc, .slice c cl cc]] w (Ret fun v w' => v = .int .i64 0 ∧ Holds G w' (all (sta s f many k' n' size' told' :: L))))
    (h : Holds G w (all (sta s f many k n size told :: L))) :
    Calls pg f_Paccum_State_Add #[ptr s, .agg #[.int .i64 kv, .int .i64 x, .string t, .slice a al ac, .slice b bl' bc, .slice c cl cc]] w (Ret fun v w' => v = .int .i64 0 ∧ Holds G w' (all (sta s f (IntKind.i64.wrap (many + 1)) k' n' size' told' :: L))) := by
  apply of_Paccum_State_Add
  unfold c_Paccum_State_Add
  repeat' (first
    | (refine New.at h (fun b w hh => ?_); clear h; have h := hh; clear hh)
    | (refine Drew.of h (fun w hh => ?_); clear h; have h := hh; clear hh)
    | (refine St.at h 0 _ rfl rfl rfl (fun w hh => ?_); clear h; have h := hh; clear hh; simp only [List.set_cons_zero, List.set_cons_succ] at h)
    | (refine St.at h 1 _ rfl rfl rfl (fun w hh => ?_); clear h; have h := hh; clear hh; simp only [List.set_cons_zero, List.set_cons_succ] at h)
    | (refine St.at h 2 _ rfl rfl rfl (fun w hh => ?_); clear h; have h := hh; clear hh; simp only [List.set_cons_zero, List.set_cons_succ] at h)
    | (refine St.at h 3 _ rfl rfl rfl (fun w hh => ?_); clear h; have h := hh; clear hh; simp only [List.set_cons_zero, List.set_cons_succ] at h)
    | refine isNil_fn ?_
    | (refine CallV.of2 hf (CallR.of (hb (h.bring 1 rfl)) ?_); rintro _ w ⟨rfl, h⟩; simp only [List.eraseIdx_cons_zero, List.eraseIdx_cons_succ] at h)
    | refine ⟨_, h.lda 0 _ rfl rfl, ?_⟩
    | refine ⟨_, _, _, h.lda 0 _ rfl rfl, ?_⟩
    | refine ⟨h.lda 0 _ rfl rfl, ?_⟩
    | refine ⟨_, h.lda 1 _ rfl rfl, ?_⟩
    | refine ⟨_, _, _, h.lda 1 _ rfl rfl, ?_⟩
    | refine ⟨h.lda 1 _ rfl rfl, ?_⟩
    | refine ⟨_, h.lda 2 _ rfl rfl, ?_⟩
    | refine ⟨_, _, _, h.lda 2 _ rfl rfl, ?_⟩
    | refine ⟨h.lda 2 _ rfl rfl, ?_⟩
    | refine ⟨_, h.lda 3 _ rfl rfl, ?_⟩
    | refine ⟨_, _, _, h.lda 3 _ rfl rfl, ?_⟩
    | refine ⟨h.lda 3 _ rfl rfl, ?_⟩
    | exact h.lda 0 _ rfl rfl
    | exact h.lda 1 _ rfl rfl
    | exact h.lda 2 _ rfl rfl
    | exact h.lda 3 _ rfl rfl
    | refine ⟨_, rfl, ?_⟩
    | refine ⟨_, _, rfl, ?_⟩
    | refine ⟨_, _, _, rfl, ?_⟩
    | refine ⟨_, _, _, _, _, _, _, _, _, _, _, _, rfl, ?_⟩
    | refine ⟨_, _, _, _, _, _, _, _, _, _, _, _, _, rfl, ?_⟩
    | refine ctt rfl ?_
    | refine cff rfl ?_
    | refine Meet.dup ?_
    | intro j
    | rw [ws]
    | simp only [ws, add_mk]
    | refine And.intro ?_ ?_)
  exact Ret.mk ⟨rfl, (h.bring 1 rfl).tail⟩

/-- Add where the state's own function refuses. -/
theorem Add_bad (s : Nat) (f : Nat) (many k n size : Int) (told : Bool) (kv x e : Int) (he : e ≠ 0) (hf : bl f = false)
    (hb : ∀ {w : World} {L : List HP}, Holds G w (all (sta s f many k n size told :: L)) →
      Calls pg f #[ptr s, vI kv x] w (Ret fun v w' => v = .int .i64 e ∧ Holds G w' (all (sta s f many k n size told :: L))))
    (h : Holds G w (all (sta s f many k n size told :: L))) :
    Calls pg f_Paccum_State_Add #[ptr s, vI kv x] w (Ret fun v w' => v = .int .i64 e ∧ Holds G w' (all (sta s f many k n size told :: L))) := by
  apply of_Paccum_State_Add
  unfold c_Paccum_State_Add
  repeat' (first
    | (refine New.at h (fun b w hh => ?_); clear h; have h := hh; clear hh)
    | (refine Drew.of h (fun w hh => ?_); clear h; have h := hh; clear hh)
    | (refine St.at h 0 _ rfl rfl rfl (fun w hh => ?_); clear h; have h := hh; clear hh; simp only [List.set_cons_zero, List.set_cons_succ] at h)
    | (refine St.at h 1 _ rfl rfl rfl (fun w hh => ?_); clear h; have h := hh; clear hh; simp only [List.set_cons_zero, List.set_cons_succ] at h)
    | (refine St.at h 2 _ rfl rfl rfl (fun w hh => ?_); clear h; have h := hh; clear hh; simp only [List.set_cons_zero, List.set_cons_succ] at h)
    | (refine St.at h 3 _ rfl rfl rfl (fun w hh => ?_); clear h; have h := hh; clear hh; simp only [List.set_cons_zero, List.set_cons_succ] at h)
    | refine isNil_fn ?_
    | (refine CallV.of2 hf (CallR.of (hb (h.bring 1 rfl)) ?_); rintro _ w ⟨rfl, h⟩; simp only [List.eraseIdx_cons_zero, List.eraseIdx_cons_succ] at h)
    | refine cff (beq_no he) ?_
    | refine ⟨_, h.lda 0 _ rfl rfl, ?_⟩
    | refine ⟨_, _, _, h.lda 0 _ rfl rfl, ?_⟩
    | refine ⟨h.lda 0 _ rfl rfl, ?_⟩
    | refine ⟨_, h.lda 1 _ rfl rfl, ?_⟩
    | refine ⟨_, _, _, h.lda 1 _ rfl rfl, ?_⟩
    | refine ⟨h.lda 1 _ rfl rfl, ?_⟩
    | refine ⟨_, h.lda 2 _ rfl rfl, ?_⟩
    | refine ⟨_, _, _, h.lda 2 _ rfl rfl, ?_⟩
    | refine ⟨h.lda 2 _ rfl rfl, ?_⟩
    | refine ⟨_, h.lda 3 _ rfl rfl, ?_⟩
    | refine ⟨_, _, _, h.lda 3 _ rfl rfl, ?_⟩
    | refine ⟨h.lda 3 _ rfl rfl, ?_⟩
    | exact h.lda 0 _ rfl rfl
    | exact h.lda 1 _ rfl rfl
    | exact h.lda 2 _ rfl rfl
    | exact h.lda 3 _ rfl rfl
    | refine ⟨_, rfl, ?_⟩
    | refine ⟨_, _, rfl, ?_⟩
    | refine ⟨_, _, _, rfl, ?_⟩
    | refine ⟨_, _, _, _, _, _, _, _, _, _, _, _, rfl, ?_⟩
    | refine ⟨_, _, _, _, _, _, _, _, _, _, _, _, _, rfl, ?_⟩
    | refine ctt rfl ?_
    | refine cff rfl ?_
    | refine Meet.dup ?_
    | intro j
    | rw [ws]
    | simp only [ws, add_mk]
    | refine And.intro ?_ ?_)
  exact Ret.mk ⟨rfl, (h.bring 1 rfl).tail⟩

end
end Go.Proofs.Sd
