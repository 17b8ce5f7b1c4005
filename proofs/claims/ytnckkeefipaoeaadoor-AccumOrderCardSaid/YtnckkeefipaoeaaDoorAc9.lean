/- The law of what is known by hand. -/
import Derived.Test.YtnckkeefipaoeaaDoorAc8
set_option linter.unusedVariables false
set_option linter.unusedSimpArgs false
set_option maxRecDepth 100000
set_option maxHeartbeats 20000000
namespace Go.Proofs.Sd
open Go Go.Eng Go.Eng.HP Go.RowKit Go.Proofs
attribute [local irreducible] St New Drew Prim PrimU CallR CallV CallI CallX Meet Eng.Loop withSome HP.blk HP.mp Calls Holds Ret

section
variable {G : Gh} {w : World} {L : List HP}

theorem Add_sum (s : Nat) (many k n : Int) (told : Bool) (kv x : Int) (hk : k = 3 ∨ k = 4) (hv : kv = 3 ∨ kv = 4) (hx : sumOk n x = true) (h : Holds G w (all (sta s f_Paccum_State_sum many k n 0 told :: L))) :
    Calls pg f_Paccum_State_Add #[ptr s, vI kv x] w (Ret fun v w' => v = .int .i64 0 ∧ Holds G w' (all (sta s f_Paccum_State_sum (IntKind.i64.wrap (many + 1)) (sumKind k kv (IntKind.i64.wrap (n + x))) (IntKind.i64.wrap (n + x)) 0 told :: L))) :=
  Add_of s _ many k n 0 told _ _ _ _ kv x _ _ _ _ _ _ _ _ _ _ rfl (fun h => sum_num s many k n told kv x hk hv hx h) h

theorem Add_sum_other (s : Nat) (many k n : Int) (told : Bool) (kv x : Int) (t : ByteArray) (a b c : Option Addr) (al ac bl' bc cl cc : Nat) (h3 : kv ≠ 3) (h4 : kv ≠ 4) (h : Holds G w (all (sta s f_Paccum_State_sum many k n 0 told :: L))) :
    Calls pg f_Paccum_State_Add #[ptr s, .agg #[.int .i64 kv, .int .i64 x, .string t, .slice a al ac, .slice b bl' bc, .slice c cl cc]] w (Ret fun v w' => v = .int .i64 0 ∧ Holds G w' (all (sta s f_Paccum_State_sum (IntKind.i64.wrap (many + 1)) k n 0 told :: L))) :=
  Add_of s _ many k n 0 told _ _ _ _ kv x _ _ _ _ _ _ _ _ _ _ rfl (fun h => sum_other _ kv x t a b c al ac bl' bc cl cc h3 h4 h) h

theorem Add_sum_bad (s : Nat) (many k n : Int) (told : Bool) (kv x : Int) (hk : k = 3 ∨ k = 4) (hv : kv = 3 ∨ kv = 4) (hx : sumOk n x = false) (h : Holds G w (all (sta s f_Paccum_State_sum many k n 0 told :: L))) :
    Calls pg f_Paccum_State_Add #[ptr s, vI kv x] w (Ret fun v w' => v = .int .i64 10 ∧ Holds G w' (all (sta s f_Paccum_State_sum many k n 0 told :: L))) :=
  Add_bad s _ many k n 0 told kv x 10 (by decide) rfl (fun h => sum_bad s many k n told kv x hk hv hx h) h

theorem Add_count (s : Nat) (many k n size : Int) (told : Bool) (kv x : Int) (t : ByteArray) (a b c : Option Addr) (al ac bl' bc cl cc : Nat) (h : Holds G w (all (sta s f_Paccum_State_none many k n size told :: L))) :
    Calls pg f_Paccum_State_Add #[ptr s, .agg #[.int .i64 kv, .int .i64 x, .string t, .slice a al ac, .slice b bl' bc, .slice c cl cc]] w (Ret fun v w' => v = .int .i64 0 ∧ Holds G w' (all (sta s f_Paccum_State_none (IntKind.i64.wrap (many + 1)) k n size told :: L))) :=
  Add_of s _ many k n size told _ _ _ _ kv x _ _ _ _ _ _ _ _ _ _ rfl (fun h => none_any _ kv x t a b c al ac bl' bc cl cc h) h

theorem Add_first0 (s : Nat) (k n size : Int) (told : Bool) (kv x : Int) (h : Holds G w (all (sta s f_Paccum_State_first 0 k n size told :: L))) :
    Calls pg f_Paccum_State_Add #[ptr s, vI kv x] w (Ret fun v w' => v = .int .i64 0 ∧ Holds G w' (all (sta s f_Paccum_State_first (IntKind.i64.wrap (0 + 1)) kv x size told :: L))) :=
  Add_of s _ 0 k n size told _ _ _ _ kv x _ _ _ _ _ _ _ _ _ _ rfl (fun h => first_of s _ k n size told kv x h) h

theorem Add_first1 (s : Nat) (many k n size : Int) (told : Bool) (kv x : Int) (hm : many ≠ 0) (h : Holds G w (all (sta s f_Paccum_State_first many k n size told :: L))) :
    Calls pg f_Paccum_State_Add #[ptr s, vI kv x] w (Ret fun v w' => v = .int .i64 0 ∧ Holds G w' (all (sta s f_Paccum_State_first (IntKind.i64.wrap (many + 1)) k n size told :: L))) :=
  Add_of s _ many k n size told _ _ _ _ kv x _ _ _ _ _ _ _ _ _ _ rfl (fun h => first_more s _ many k n size told kv x hm h) h

theorem Add_last (s : Nat) (many k n size : Int) (told : Bool) (kv x : Int) (h : Holds G w (all (sta s f_Paccum_State_last many k n size told :: L))) :
    Calls pg f_Paccum_State_Add #[ptr s, vI kv x] w (Ret fun v w' => v = .int .i64 0 ∧ Holds G w' (all (sta s f_Paccum_State_last (IntKind.i64.wrap (many + 1)) kv x size told :: L))) :=
  Add_of s _ many k n size told _ _ _ _ kv x _ _ _ _ _ _ _ _ _ _ rfl (fun h => last_of s _ many k n size told kv x h) h

theorem Add_least_skip (s : Nat) (many k n size : Int) (told : Bool) (kv : Int) (hv : kv = 0 ∨ kv = 2) (h : Holds G w (all (sta s f_Paccum_State_least many k n size told :: L))) :
    Calls pg f_Paccum_State_Add #[ptr s, vI kv 0] w (Ret fun v w' => v = .int .i64 0 ∧ Holds G w' (all (sta s f_Paccum_State_least (IntKind.i64.wrap (many + 1)) k n size told :: L))) :=
  Add_of s _ many k n size told _ _ _ _ kv 0 _ _ _ _ _ _ _ _ _ _ rfl (fun h => least_of s _ many k n size told kv 0 _ (fun h => better_skip s _ many k n size told kv (-1) hv h) h) h

theorem Add_least_first (s : Nat) (many n size : Int) (told : Bool) (kv x : Int) (hv : kv = 3 ∨ kv = 4) (h : Holds G w (all (sta s f_Paccum_State_least many 0 n size told :: L))) :
    Calls pg f_Paccum_State_Add #[ptr s, vI kv x] w (Ret fun v w' => v = .int .i64 0 ∧ Holds G w' (all (sta s f_Paccum_State_least (IntKind.i64.wrap (many + 1)) kv x size told :: L))) :=
  Add_of s _ many 0 n size told _ _ _ _ kv x _ _ _ _ _ _ _ _ _ _ rfl (fun h => least_of s _ many 0 n size told kv x _ (fun h => better_first s _ many n size told kv x (-1) hv h) h) h

theorem Add_least_num (s : Nat) (many k n size : Int) (told : Bool) (kv x : Int) (hk : k = 3 ∨ k = 4) (hv : kv = 3 ∨ kv = 4) (h : Holds G w (all (sta s f_Paccum_State_least many k n size told :: L))) :
    Calls pg f_Paccum_State_Add #[ptr s, vI kv x] w (Ret fun v w' => v = .int .i64 0 ∧ Holds G w' (all (sta s f_Paccum_State_least (IntKind.i64.wrap (many + 1)) (if cmpI x n = (-1) then kv else k) (if cmpI x n = (-1) then x else n) size told :: L))) :=
  Add_of s _ many k n size told _ _ _ _ kv x _ _ _ _ _ _ _ _ _ _ rfl (fun h => least_of s _ many k n size told kv x _ (fun h => better_num s _ many k n size told kv x (-1) hk hv h) h) h

theorem Add_greatest_skip (s : Nat) (many k n size : Int) (told : Bool) (kv : Int) (hv : kv = 0 ∨ kv = 2) (h : Holds G w (all (sta s f_Paccum_State_greatest many k n size told :: L))) :
    Calls pg f_Paccum_State_Add #[ptr s, vI kv 0] w (Ret fun v w' => v = .int .i64 0 ∧ Holds G w' (all (sta s f_Paccum_State_greatest (IntKind.i64.wrap (many + 1)) k n size told :: L))) :=
  Add_of s _ many k n size told _ _ _ _ kv 0 _ _ _ _ _ _ _ _ _ _ rfl (fun h => greatest_of s _ many k n size told kv 0 _ (fun h => better_skip s _ many k n size told kv 1 hv h) h) h

theorem Add_greatest_first (s : Nat) (many n size : Int) (told : Bool) (kv x : Int) (hv : kv = 3 ∨ kv = 4) (h : Holds G w (all (sta s f_Paccum_State_greatest many 0 n size told :: L))) :
    Calls pg f_Paccum_State_Add #[ptr s, vI kv x] w (Ret fun v w' => v = .int .i64 0 ∧ Holds G w' (all (sta s f_Paccum_State_greatest (IntKind.i64.wrap (many + 1)) kv x size told :: L))) :=
  Add_of s _ many 0 n size told _ _ _ _ kv x _ _ _ _ _ _ _ _ _ _ rfl (fun h => greatest_of s _ many 0 n size told kv x _ (fun h => better_first s _ many n size told kv x 1 hv h) h) h

theorem Add_greatest_num (s : Nat) (many k n size : Int) (told : Bool) (kv x : Int) (hk : k = 3 ∨ k = 4) (hv : kv = 3 ∨ kv = 4) (h : Holds G w (all (sta s f_Paccum_State_greatest many k n size told :: L))) :
    Calls pg f_Paccum_State_Add #[ptr s, vI kv x] w (Ret fun v w' => v = .int .i64 0 ∧ Holds G w' (all (sta s f_Paccum_State_greatest (IntKind.i64.wrap (many + 1)) (if cmpI x n = 1 then kv else k) (if cmpI x n = 1 then x else n) size told :: L))) :=
  Add_of s _ many k n size told _ _ _ _ kv x _ _ _ _ _ _ _ _ _ _ rfl (fun h => greatest_of s _ many k n size told kv x _ (fun h => better_num s _ many k n size told kv x 1 hk hv h) h) h

theorem known_1 (n : Int) (h : Holds G w (all L)) : Calls pg f_aqueductlaw12_AccumKnown_1 #[.int .i64 n] w (Ret fun v w' => v = vI 4 n ∧ Holds G w' (all L)) := by
  apply of_aqueductlaw12_AccumKnown_1
  unfold c_aqueductlaw12_AccumKnown_1
  repeat' (first
    | (refine New.at h (fun b w hh => ?_); clear h; have h := hh; clear hh)
    | (refine Drew.of h (fun w hh => ?_); clear h; have h := hh; clear hh)
    | (refine St.at h 0 _ rfl rfl rfl (fun w hh => ?_); clear h; have h := hh; clear hh; simp only [List.set_cons_zero, List.set_cons_succ] at h)
    | refine ⟨_, h.lda 0 _ rfl rfl, ?_⟩
    | refine ⟨_, _, _, h.lda 0 _ rfl rfl, ?_⟩
    | refine ⟨h.lda 0 _ rfl rfl, ?_⟩
    | exact h.lda 0 _ rfl rfl
    | refine ⟨_, rfl, ?_⟩
    | refine ⟨_, _, rfl, ?_⟩
    | refine ⟨_, _, _, rfl, ?_⟩
    | refine ⟨_, _, _, _, _, _, _, _, _, _, _, _, rfl, ?_⟩
    | refine ⟨_, _, _, _, _, _, _, _, _, _, _, _, _, rfl, ?_⟩
    | refine ctt rfl ?_
    | refine cff rfl ?_
    | refine Meet.dup ?_
    | intro j
    | rw [ws]
    | simp only [ws, add_mk]
    | refine And.intro ?_ ?_)
  exact Ret.mk ⟨rfl, h.tail⟩

/-- The document's example holds. -/
theorem awake (h : Holds G w (all L)) : Calls pg f_aqueductlaw12_awake #[] w (Ret fun v w' => v = .bool true ∧ Holds G w' (all L)) := by
  apply of_aqueductlaw12_awake
  unfold c_aqueductlaw12_awake
  repeat' (first
    | (refine New.at h (fun b w hh => ?_); clear h; have h := hh; clear hh)
    | (refine Drew.of h (fun w hh => ?_); clear h; have h := hh; clear hh)
    | (refine St.at h 0 _ rfl rfl rfl (fun w hh => ?_); clear h; have h := hh; clear hh; simp only [List.set_cons_zero, List.set_cons_succ] at h)
    | (refine St.at h 1 _ rfl rfl rfl (fun w hh => ?_); clear h; have h := hh; clear hh; simp only [List.set_cons_zero, List.set_cons_succ] at h)
    | (refine CallR.of (New_sum h) ?_; rintro _ w ⟨s, rfl, h⟩)
    | (refine CallR.of (Add_sum _ _ _ _ _ _ _ (by decide) (by decide) (by decide) h) ?_; rintro _ w ⟨rfl, h⟩)
    | (refine CallR.of (Add_sum_other _ _ _ _ _ _ _ _ _ _ _ _ _ _ _ _ _ (by decide) (by decide) h) ?_; rintro _ w ⟨rfl, h⟩)
    | (refine CallR.of (Value_num _ _ _ _ _ _ (by decide) h) ?_; rintro _ w ⟨rfl, h⟩)
    | (refine CallR.of (Kind_of _ _ rfl h) ?_; rintro _ w ⟨rfl, h⟩)
    | (refine CallR.of (Size_num _ _ _ _ _ (by decide) (h.bring 1 rfl)) ?_; rintro _ w ⟨rfl, h⟩)
    | refine ⟨_, h.lda 0 _ rfl rfl, ?_⟩
    | refine ⟨_, _, _, h.lda 0 _ rfl rfl, ?_⟩
    | refine ⟨h.lda 0 _ rfl rfl, ?_⟩
    | refine ⟨_, h.lda 1 _ rfl rfl, ?_⟩
    | refine ⟨_, _, _, h.lda 1 _ rfl rfl, ?_⟩
    | refine ⟨h.lda 1 _ rfl rfl, ?_⟩
    | exact h.lda 0 _ rfl rfl
    | exact h.lda 1 _ rfl rfl
    | refine ⟨_, rfl, ?_⟩
    | refine ⟨_, _, rfl, ?_⟩
    | refine ⟨_, _, _, rfl, ?_⟩
    | refine ⟨_, _, _, _, _, _, _, _, _, _, _, _, rfl, ?_⟩
    | refine ⟨_, _, _, _, _, _, _, _, _, _, _, _, _, rfl, ?_⟩
    | refine ctt rfl ?_
    | refine cff rfl ?_
    | refine Meet.dup ?_
    | intro j
    | rw [ws]
    | simp only [ws, add_mk]
    | refine And.intro ?_ ?_)
  exact Ret.mk ⟨rfl, h.tail.tail⟩

end
end Go.Proofs.Sd
