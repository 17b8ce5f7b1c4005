/- The law AccumOrder, walked. -/
import Derived.Test.YtnckkeefipaoeaaDoorVa3
import Derived.Test.YtnckkeefipaoeaaDoorAc9
set_option linter.unusedVariables false
set_option linter.unusedSimpArgs false
set_option maxRecDepth 100000
set_option maxHeartbeats 20000000
namespace Go.Proofs.Sd
open Go Go.Eng Go.Eng.HP Go.RowKit Go.Proofs
attribute [local irreducible] St New Drew Prim PrimU CallR CallV CallI CallX Meet Eng.Loop withSome HP.blk HP.mp Calls Holds Ret

theorem wrap32_id {x : Int} (h0 : -2147483648 ≤ x) (h1 : x < 2147483648) : IntKind.i32.wrap x = x := by
  unfold IntKind.wrap
  simp only [IntKind.signed, IntKind.bits, Bool.true_and]
  simp only [Int.reducePow, Nat.reduceSub]
  split
  · next h =>
    have h := of_decide_eq_true h
    omega
  · next h =>
    have h : ¬ _ := fun hp => h (decide_eq_true hp)
    omega

theorem ofKind3 {x : Int} (h0 : -2147483648 ≤ x) (h1 : x < 2147483648) : ofKind x = 3 := by
  unfold ofKind
  rw [wrap32_id h0 h1, wrap64_id ⟨by omega, by omega⟩]
  exact if_pos rfl

theorem sumKind3 {x : Int} (h0 : -2147483648 ≤ x) (h1 : x < 2147483648) : sumKind 3 3 x = 3 := by
  unfold sumKind
  rw [if_neg (by decide)]
  exact ofKind3 h0 h1

theorem sumOk_small {x y : Int} (h0 : -1000000000 ≤ x ∧ x ≤ 1000000000) (h1 : -1000000000 ≤ y ∧ y ≤ 1000000000) : sumOk x y = true := by
  unfold sumOk
  rw [wrap64_id (x := x + y) ⟨by omega, by omega⟩]
  by_cases hy : y > 0
  · rw [decide_eq_true hy, decide_eq_true (by omega)]
    rfl
  · rw [decide_eq_false hy, decide_eq_false (by omega)]
    rfl

section
variable {G : Gh} {w : World} {L : List HP}

theorem Add_least_u (s : Nat) (m k n x lo : Int) (hk : k = 0 ∧ x = lo ∨ k = 3 ∧ n = lo) (h : Holds G w (all (sta s f_Paccum_State_least m k n 0 false :: L))) :
    Calls pg f_Paccum_State_Add #[ptr s, vI 3 x] w (Ret fun v w' => v = .int .i64 0 ∧ Holds G w' (all (sta s f_Paccum_State_least (IntKind.i64.wrap (m + 1)) 3 (if x < lo then x else lo) 0 false :: L))) := by
  rcases hk with ⟨rfl, rfl⟩ | ⟨rfl, rfl⟩
  · have := Add_least_first s m n 0 false 3 x (.inl rfl) h
    rw [if_neg (by omega)]
    exact this
  · have := Add_least_num s m 3 n 0 false 3 x (.inl rfl) (.inl rfl) h
    have e : (if cmpI x n = -1 then (3 : Int) else 3) = 3 := by split <;> rfl
    have e2 : (if cmpI x n = -1 then x else n) = if x < n then x else n := by
      unfold cmpI
      by_cases h1 : x < n
      · simp [h1]
      · by_cases h2 : x > n <;> simp [h1, h2]
    rw [e, e2] at this
    exact this

theorem Add_greatest_u (s : Nat) (m k n x lo : Int) (hk : k = 0 ∧ x = lo ∨ k = 3 ∧ n = lo) (h : Holds G w (all (sta s f_Paccum_State_greatest m k n 0 false :: L))) :
    Calls pg f_Paccum_State_Add #[ptr s, vI 3 x] w (Ret fun v w' => v = .int .i64 0 ∧ Holds G w' (all (sta s f_Paccum_State_greatest (IntKind.i64.wrap (m + 1)) 3 (if x > lo then x else lo) 0 false :: L))) := by
  rcases hk with ⟨rfl, rfl⟩ | ⟨rfl, rfl⟩
  · have := Add_greatest_first s m n 0 false 3 x (.inl rfl) h
    rw [if_neg (by omega)]
    exact this
  · have := Add_greatest_num s m 3 n 0 false 3 x (.inl rfl) (.inl rfl) h
    have e : (if cmpI x n = 1 then (3 : Int) else 3) = 3 := by split <;> rfl
    have e2 : (if cmpI x n = 1 then x else n) = if x > n then x else n := by
      unfold cmpI
      by_cases h1 : x < n
      · have : ¬ x > n := by omega
        simp [h1, this]
      · by_cases h2 : x > n <;> simp [h1, h2]
    rw [e, e2] at this
    exact this

theorem Add_first_u (s : Nat) (i : Nat) (k n x fi : Int) (hk : i = 0 ∧ x = fi ∨ i ≠ 0 ∧ k = 3 ∧ n = fi) (h : Holds G w (all (sta s f_Paccum_State_first (i : Int) k n 0 false :: L))) :
    Calls pg f_Paccum_State_Add #[ptr s, vI 3 x] w (Ret fun v w' => v = .int .i64 0 ∧ Holds G w' (all (sta s f_Paccum_State_first (IntKind.i64.wrap ((i : Int) + 1)) 3 fi 0 false :: L))) := by
  rcases hk with ⟨rfl, rfl⟩ | ⟨h0, rfl, rfl⟩
  · exact Add_first0 s k n 0 false 3 x h
  · exact Add_first1 s _ 3 n 0 false 3 x (by omega) h

/-- A row of small numbers. -/
def I16 (G : Gh) (xs : List Int) (a : Option Addr) (n : Nat) : Prop :=
  n = xs.length ∧ ∀ (i : Nat) (hi : i < xs.length), -32768 ≤ xs[i] ∧ xs[i] < 32768 ∧ ∃ b off, a = some ⟨b, off, none⟩ ∧ G.cell b (off + i) = some (.int .i16 xs[i])

theorem order_walk {xs : List Int} {a : Option Addr} {n c : Nat} {d : Nat} {ts : List VT} {a2 : Option Addr} {n2 c2 : Nat} (hx : I16 G xs a n) (hv : Vs G d ts a2 n2) (h : Holds G w (all L)) :
    Calls pg f_aqueductlaw12_AccumOrder #[.slice a n c, .slice a2 n2 c2] w (Ret fun v w' => v = .bool true ∧ ∃ G', G ≤ G' ∧ Holds G' w' (all L)) := by
  obtain ⟨rfl, hxs⟩ := hx
  apply of_aqueductlaw12_AccumOrder
  unfold c_aqueductlaw12_AccumOrder
  refine CallR.of (awake h) ?_
  rintro _ w ⟨rfl, h⟩
  refine ⟨_, rfl, ?_⟩
  refine cff rfl ?_
  refine Meet.mk (fun b w => (b = false → xs.length ≤ 40 ∧ xs.length ≠ 0 ∧ ts.length ≤ 30 ∧ Vs G 61 ts a2 n2 ∧ ts.length ≤ xs.length) ∧ Holds G w (all L)) ?_ ?_
  · refine cif (fun _ => ?_) (fun h40 => ?_)
    · exact ⟨(fun hx => by cases hx), h⟩
    refine cif (fun _ => ?_) (fun h0 => ?_)
    · exact ⟨(fun hx => by cases hx), h⟩
    refine CallR.of (Few_ok hv h) ?_
    rintro _ w ⟨⟨bb, rfl, hbb⟩, h⟩
    refine ⟨_, rfl, ?_⟩
    cases bb with
    | false =>
      refine ctt rfl ?_
      exact ⟨(fun hx => by cases hx), h⟩
    | true =>
      refine cff rfl ?_
      obtain ⟨h30, hv61⟩ := hbb rfl
      refine ⟨fun hx => ?_, h⟩
      have h1 := of_decide_eq_false h40
      have h2 := of_decide_eq_false hx
      have h3 : ¬ ((xs.length : Int) = 0) := fun e => by rw [e] at h0; cases h0
      have := hv61.1
      exact ⟨by omega, by omega, h30, hv61, by omega⟩
  rintro b w ⟨hb, h⟩ j
  refine cif (fun _ => ?_) (fun hbf => ?_)
  · exact Ret.mk ⟨rfl, G, Gh.refl G, h⟩
  obtain ⟨h40, h0, h30, hv61, hle⟩ := hb hbf
  clear hb hv
  obtain ⟨rfl, hbig, hts⟩ := hv61
  obtain ⟨-, -, xb, xoff, rfl, -⟩ := hxs 0 (by omega)
  have hxr : ∀ (i : Nat) (hi : i < xs.length), G.cell xb (xoff + i) = some (.int .i16 xs[i]) := fun i hi => by
    obtain ⟨_, _, b', off', e, hc⟩ := hxs i hi
    cases e
    exact hc
  have hxi : ∀ (i : Nat) (hi : i < xs.length), -32768 ≤ xs[i] ∧ xs[i] < 32768 := fun i hi => ⟨(hxs i hi).1, (hxs i hi).2.1⟩
  clear hxs
  refine Loop.inv (I := fun s' w => ∃ (i : Nat) (u : Bool) (G1 : Gh), s' = (u, (i : Int)) ∧ i ≤ ts.length ∧ (∀ m (hm : m < ts.length), m < i → ∃ b off r', a2 = some ⟨b, off, none⟩ ∧ (∀ j v, (Vr.cells r')[j]? = some v → G.cell b (off + m * 6 + j) = some v) ∧ r'.k ≠ 3 ∧ r'.k ≠ 4) ∧ G ≤ G1 ∧ Holds G1 w (all L))
    (fun s' _ => ts.length - s'.2.toNat) ?_ ⟨0, _, G, rfl, Nat.zero_le _, (fun m hm h => absurd h (Nat.not_lt_zero _)), Gh.refl G, h⟩
  clear h
  rintro X s' w ⟨i, u, G1, rfl, hi, hks, hG1, h⟩ hX
  intro j
  dsimp only
  by_cases hi' : i < ts.length
  · refine ctt (decide_eq_true (by omega)) ?_
    obtain ⟨fb, foff, cs, e1, ⟨r', rfl, hr'⟩, hlen, hc⟩ := hts i _ (List.getElem?_eq_getElem hi')
    have hb2 : 0 ≤ ((i : Nat) : Int) ∧ ((i : Nat) : Int) < ((ts.length : Nat) : Int) := ⟨by omega, by omega⟩
    have hc1 := fun j v hj => Gh.cell_mono hG1 (hc j v hj)
    rw [e1]
    refine Meet.mk (fun b w => ∃ G2, G1 ≤ G2 ∧ (b = false → r'.k ≠ 3 ∧ r'.k ≠ 4) ∧ Holds G2 w (all L)) ?_ ?_
    · simp only [ws, add_mk, Int.toNat_natCast]
      refine And.intro hb2 ?_
      refine ⟨_, h.rd (hc1 0 _ rfl), ?_⟩
      refine cif (fun _ => ?_) (fun h3 => ?_)
      · exact ⟨G1, Gh.refl G1, (fun hx => by cases hx), h⟩
      refine And.intro hb2 ?_
      refine ⟨_, h.rd (hc1 0 _ rfl), ?_⟩
      refine cif (fun _ => ?_) (fun h4 => ?_)
      · exact ⟨G1, Gh.refl G1, (fun hx => by cases hx), h⟩
      refine And.intro hb2 ?_
      repeat' (first
        | (refine New.at h (fun b w hh => ?_); clear h; have h := hh; clear hh)
        | (refine Drew.of h (fun w hh => ?_); clear h; have h := hh; clear hh)
        | (refine St.at h 0 _ rfl rfl rfl (fun w hh => ?_); clear h; have h := hh; clear hh; simp only [List.set_cons_zero, List.set_cons_succ] at h)
        | refine ⟨_, h.rd (hc1 0 _ rfl), ?_⟩
        | refine ⟨_, _, _, h.rd (hc1 0 _ rfl), ?_⟩
        | exact h.rd (hc1 0 _ rfl)
        | refine ⟨h.rd (hc1 0 _ rfl), ?_⟩
        | refine ⟨_, h.rd (hc1 1 _ rfl), ?_⟩
        | refine ⟨_, _, _, h.rd (hc1 1 _ rfl), ?_⟩
        | exact h.rd (hc1 1 _ rfl)
        | refine ⟨h.rd (hc1 1 _ rfl), ?_⟩
        | refine ⟨_, h.rd (hc1 2 _ rfl), ?_⟩
        | refine ⟨_, _, _, h.rd (hc1 2 _ rfl), ?_⟩
        | exact h.rd (hc1 2 _ rfl)
        | refine ⟨h.rd (hc1 2 _ rfl), ?_⟩
        | refine ⟨_, h.rd (hc1 3 _ rfl), ?_⟩
        | refine ⟨_, _, _, h.rd (hc1 3 _ rfl), ?_⟩
        | exact h.rd (hc1 3 _ rfl)
        | refine ⟨h.rd (hc1 3 _ rfl), ?_⟩
        | refine ⟨_, h.rd (hc1 4 _ rfl), ?_⟩
        | refine ⟨_, _, _, h.rd (hc1 4 _ rfl), ?_⟩
        | exact h.rd (hc1 4 _ rfl)
        | refine ⟨h.rd (hc1 4 _ rfl), ?_⟩
        | refine ⟨_, h.rd (hc1 5 _ rfl), ?_⟩
        | refine ⟨_, _, _, h.rd (hc1 5 _ rfl), ?_⟩
        | exact h.rd (hc1 5 _ rfl)
        | refine ⟨h.rd (hc1 5 _ rfl), ?_⟩
        | refine ⟨_, h.lda 0 _ rfl rfl, ?_⟩
        | refine ⟨_, _, _, h.lda 0 _ rfl rfl, ?_⟩
        | refine ⟨h.lda 0 _ rfl rfl, ?_⟩
        | exact h.lda 0 _ rfl rfl
        | refine ⟨_, rfl, ?_⟩
        | refine ⟨_, _, rfl, ?_⟩
        | refine ⟨_, _, _, rfl, ?_⟩
        | refine ⟨_, _, _, _, _, _, _, _, _, _, _, _, rfl, ?_⟩
        | refine ⟨_, _, _, _, _, _, _, _, _, _, _, _, _, rfl, ?_⟩
        | refine ctt rfl ?_
        | refine cff rfl ?_
        | refine Meet.dup ?_
        | intro j
        | rw [ws]
        | simp only [ws, add_mk]
        | refine And.intro ?_ ?_)
      -- the document of one field without a name
      obtain ⟨G2, hG2, hcell, h⟩ := Holds.blk_freeze h
      have hdoc : VC G2 (62) (.mk 6 0 em [] [(em, ts[i])] []) ⟨6, 0, em, none, 0, 0, some ⟨b, 0, none⟩, 1, 1, none, 0, 0⟩ := by
        refine ⟨rfl, rfl, rfl, Bs.nil, rfl, rfl, ?_, VsAt.nil, ⟨by omega, by omega⟩, ⟨by omega, by omega⟩, by decide, by decide, (show 1 ≤ big by decide), by decide⟩
        intro m t hm
        cases m with
        | succ m => simp at hm
        | zero =>
          simp only [List.getElem?_cons_zero, Option.some.injEq] at hm
          subst hm
          refine ⟨b, 0, _, rfl, ⟨r', rfl, (show 0 ≤ big by decide), hr'.mono (Gh.trans hG1 hG2) (Nat.le_refl _)⟩, rfl, fun j v hj => ?_⟩
          have := hcell j
          rw [Nat.zero_mul, Nat.add_zero, Nat.zero_add]
          rw [this]
          exact hj
      refine CallR.of (May_ok hdoc h) ?_
      rintro _ w ⟨bb, G3, rfl, hG3, h⟩
      refine ⟨_, rfl, ?_⟩
      exact ⟨G3, Gh.trans hG2 hG3, (fun _ => ⟨(fun e => by rw [e] at h3; cases h3), (fun e => by rw [e] at h4; cases h4)⟩), h⟩
    · rintro b w ⟨G2, hG2, hb, h⟩ j
      refine cif (fun _ => ?_) (fun hbf => ?_)
      · exact Ret.mk ⟨rfl, G2, Gh.trans hG1 hG2, h⟩
      rw [wrap64_id (x := (i : Int) + 1) ⟨by omega, by omega⟩]
      refine hX _ _ ⟨i + 1, u, G2, rfl, by omega, fun m hm hmi => ?_, Gh.trans hG1 hG2, h⟩ (by dsimp only; omega)
      by_cases hmi' : m < i
      · exact hks m hm hmi'
      · obtain rfl : m = i := by omega
        exact ⟨fb, foff, r', e1, hc, hb hbf⟩
  · refine cff (decide_eq_false (by omega)) ?_
    obtain rfl : i = ts.length := by omega
    clear hX hi' hi
    have hn : ∀ m, m < xs.length → (0 : Int) ≤ (m : Int) ∧ (m : Int) < ((xs.length : Nat) : Int) := fun m hm => ⟨by omega, by omega⟩
    refine CallR.of (New_sum h) ?_; rintro _ w ⟨s1, rfl, h⟩; refine ⟨_, rfl, ?_⟩
    refine CallR.of (New_plain 2 _ (.inl ⟨rfl, rfl⟩) h) ?_; rintro _ w ⟨s2, rfl, h⟩; refine ⟨_, rfl, ?_⟩
    refine CallR.of (New_plain 3 _ (.inr (.inl ⟨rfl, rfl⟩)) h) ?_; rintro _ w ⟨s3, rfl, h⟩; refine ⟨_, rfl, ?_⟩
    refine CallR.of (New_plain 4 _ (.inr (.inr (.inl ⟨rfl, rfl⟩))) h) ?_; rintro _ w ⟨s4, rfl, h⟩; refine ⟨_, rfl, ?_⟩
    refine CallR.of (New_plain 5 _ (.inr (.inr (.inr ⟨rfl, rfl⟩))) h) ?_; rintro _ w ⟨s5, rfl, h⟩; refine ⟨_, rfl, ?_⟩
    refine CallR.of (New_count h) ?_; rintro _ w ⟨s6, rfl, h⟩; refine ⟨_, rfl, ?_⟩
    refine Drew.of h (fun w h => ?_)
    have hxr1 := fun i hi => Gh.cell_mono hG1 (hxr i hi)
    have hx0 := hxi 0 (by omega)
    simp only [ws, add_mk, Int.toNat_natCast, Nat.mul_one]
    refine And.intro (hn 0 (by omega)) ?_
    refine ⟨_, h.rd (hxr1 0 (by omega)), ?_⟩
    refine And.intro (hn 0 (by omega)) ?_
    refine ⟨_, h.rd (hxr1 0 (by omega)), ?_⟩
    rw [wrap64_id (x := xs[0]) ⟨by omega, by omega⟩]
    have h := (((((h.bring 1 rfl).bring 2 rfl).bring 3 rfl).bring 4 rfl).bring 5 rfl)
    simp only [List.eraseIdx_cons_zero, List.eraseIdx_cons_succ] at h
    refine Loop.inv (I := fun s' w => ∃ (i : Nat) (u : Bool) (sm lo hi many m1 m2 m3 m5 k n2 n3 n4 n5 : Int), s' = (sm, lo, hi, u, many, (i : Int)) ∧ i ≤ xs.length ∧ -(40000 * (i : Int)) ≤ sm ∧ sm ≤ 40000 * (i : Int) ∧ -32768 ≤ lo ∧ lo < 32768 ∧ -32768 ≤ hi ∧ hi < 32768 ∧ 0 ≤ many ∧ many ≤ 2 * (i : Int) ∧
        (i = 0 ∧ k = 0 ∧ lo = xs[0] ∧ hi = xs[0] ∨ i ≠ 0 ∧ k = 3 ∧ n2 = lo ∧ n3 = hi ∧ n4 = xs[0] ∧ (∃ hl : i - 1 < xs.length, n5 = xs[i - 1])) ∧
        Holds G1 w (all (sta s1 f_Paccum_State_sum m1 3 sm 0 false :: sta s2 f_Paccum_State_least m2 k n2 0 false :: sta s3 f_Paccum_State_greatest m3 k n3 0 false :: sta s4 f_Paccum_State_first (i : Int) k n4 0 false :: sta s5 f_Paccum_State_last m5 k n5 0 false :: sta s6 f_Paccum_State_none many 0 0 0 true :: L)))
      (fun s' _ => xs.length - s'.2.2.2.2.2.toNat) ?_ ⟨0, _, _, _, _, _, _, _, _, _, _, _, _, _, _, rfl, Nat.zero_le _, by omega, by omega, by omega, by omega, by omega, by omega, by omega, by omega, .inl ⟨rfl, rfl, rfl, rfl⟩, h⟩
    clear h
    rintro X s' w ⟨i, u, sm, lo, hi, many, m1, m2, m3, m5, k, n2, n3, n4, n5, rfl, hi0, hs1, hs2, hl1, hl2, hh1, hh2, hm1, hm2, hst, h⟩ hX
    intro j
    dsimp only
    by_cases hi' : i < xs.length
    · refine ctt (decide_eq_true (by omega)) ?_
      have hxx := hxi i hi'
      refine Meet.dup ?_
      refine And.intro (hn i hi') ?_
      refine ⟨_, h.rd (hxr1 i hi'), ?_⟩
      rw [wrap64_id (x := xs[i]) ⟨by omega, by omega⟩]
      refine New.at h (fun b w h => ?_)
      refine St.at h 0 0 rfl rfl rfl (fun w h => ?_)
      refine St.at h 0 1 rfl rfl rfl (fun w h => ?_)
      refine St.at h 0 2 rfl rfl rfl (fun w h => ?_)
      refine St.at h 0 3 rfl rfl rfl (fun w h => ?_)
      refine St.at h 0 4 rfl rfl rfl (fun w h => ?_)
      refine St.at h 0 5 rfl rfl rfl (fun w h => ?_)
      simp only [List.set_cons_zero, List.set_cons_succ] at h
      refine Drew.of h (fun w h => ?_)
      refine ⟨_, h.lda 0 1 rfl rfl, ?_⟩
      refine ⟨_, h.lda 0 1 rfl rfl, ?_⟩
      refine ⟨_, h.lda 0 1 rfl rfl, ?_⟩
      refine Meet.dup ?_
      refine ⟨_, h.lda 0 0 rfl rfl, _, h.lda 0 1 rfl rfl, _, h.lda 0 2 rfl rfl, _, _, _, h.lda 0 3 rfl rfl, _, _, _, h.lda 0 4 rfl rfl, _, _, _, h.lda 0 5 rfl rfl, ?_⟩
      refine CallR.of (Add_sum s1 _ _ _ _ 3 _ (.inl rfl) (.inl rfl) (sumOk_small ⟨by omega, by omega⟩ ⟨by omega, by omega⟩) (h.bring 1 rfl)) ?_
      rintro _ w ⟨rfl, h⟩
      have e1 : IntKind.i64.wrap (sm + xs[i]) = sm + xs[i] := wrap64_id ⟨by omega, by omega⟩
      rw [e1, sumKind3 (by omega) (by omega)] at h
      simp only [List.eraseIdx_cons_zero, List.eraseIdx_cons_succ] at h
      refine ⟨_, rfl, cff rfl ?_⟩
      refine ⟨_, h.lda 1 0 rfl rfl, _, h.lda 1 1 rfl rfl, _, h.lda 1 2 rfl rfl, _, _, _, h.lda 1 3 rfl rfl, _, _, _, h.lda 1 4 rfl rfl, _, _, _, h.lda 1 5 rfl rfl, ?_⟩
      refine CallR.of (Add_least_u s2 _ _ _ _ lo ?_ (h.bring 2 rfl)) ?_
      · rcases hst with ⟨rfl, rfl, q1, q2⟩ | ⟨_, rfl, q1, q2, _⟩
        · exact .inl ⟨rfl, q1.symm⟩
        · exact .inr ⟨rfl, q1⟩
      rintro _ w ⟨rfl, h⟩
      simp only [List.eraseIdx_cons_zero, List.eraseIdx_cons_succ] at h
      refine ⟨_, rfl, cff rfl ?_⟩
      refine ⟨_, h.lda 2 0 rfl rfl, _, h.lda 2 1 rfl rfl, _, h.lda 2 2 rfl rfl, _, _, _, h.lda 2 3 rfl rfl, _, _, _, h.lda 2 4 rfl rfl, _, _, _, h.lda 2 5 rfl rfl, ?_⟩
      refine CallR.of (Add_greatest_u s3 _ _ _ _ hi ?_ (h.bring 3 rfl)) ?_
      · rcases hst with ⟨rfl, rfl, q1, q2⟩ | ⟨_, rfl, q1, q2, _⟩
        · exact .inl ⟨rfl, q2.symm⟩
        · exact .inr ⟨rfl, q2⟩
      rintro _ w ⟨rfl, h⟩
      simp only [List.eraseIdx_cons_zero, List.eraseIdx_cons_succ] at h
      refine ⟨_, rfl, cff rfl ?_⟩
      refine ⟨_, h.lda 3 0 rfl rfl, _, h.lda 3 1 rfl rfl, _, h.lda 3 2 rfl rfl, _, _, _, h.lda 3 3 rfl rfl, _, _, _, h.lda 3 4 rfl rfl, _, _, _, h.lda 3 5 rfl rfl, ?_⟩
      refine CallR.of (Add_first_u s4 i _ _ _ xs[0] ?_ (h.bring 4 rfl)) ?_
      · rcases hst with ⟨rfl, rfl, q1, q2⟩ | ⟨q0, rfl, q1, q2, q3, _⟩
        · exact .inl ⟨rfl, rfl⟩
        · exact .inr ⟨q0, rfl, q3⟩
      rintro _ w ⟨rfl, h⟩
      simp only [List.eraseIdx_cons_zero, List.eraseIdx_cons_succ] at h
      refine ⟨_, rfl, cff rfl ?_⟩
      refine ⟨_, h.lda 4 0 rfl rfl, _, h.lda 4 1 rfl rfl, _, h.lda 4 2 rfl rfl, _, _, _, h.lda 4 3 rfl rfl, _, _, _, h.lda 4 4 rfl rfl, _, _, _, h.lda 4 5 rfl rfl, ?_⟩
      refine CallR.of (Add_last s5 _ _ _ _ _ _ _ (h.bring 5 rfl)) ?_
      rintro _ w ⟨rfl, h⟩
      simp only [List.eraseIdx_cons_zero, List.eraseIdx_cons_succ] at h
      refine ⟨_, rfl, cff rfl ?_⟩
      refine ⟨_, h.lda 5 0 rfl rfl, _, h.lda 5 1 rfl rfl, _, h.lda 5 2 rfl rfl, _, _, _, h.lda 5 3 rfl rfl, _, _, _, h.lda 5 4 rfl rfl, _, _, _, h.lda 5 5 rfl rfl, ?_⟩
      refine CallR.of (Add_count s6 _ _ _ _ _ _ _ _ _ _ _ _ _ _ _ _ _ (h.bring 6 rfl)) ?_
      rintro _ w ⟨rfl, h⟩
      simp only [List.eraseIdx_cons_zero, List.eraseIdx_cons_succ] at h
      refine ⟨_, rfl, ?_⟩
      intro j
      refine cff rfl ?_
      have e2 : IntKind.i64.wrap (many + 1) = many + 1 := wrap64_id ⟨by omega, by omega⟩
      have e3 : IntKind.i64.wrap ((i : Int) + 1) = ((i + 1 : Nat) : Int) := wrap64_id ⟨by omega, by omega⟩
      rw [e2, e3] at h
      rw [e1, e2]
      have fin : ∀ (w : World) (m1 : Int) (many' : Int), 0 ≤ many' → many' ≤ 2 * (i : Int) + 2 → (∃ m2 m3 m5, Holds G1 w (all (sta s1 f_Paccum_State_sum m1 3 (sm + xs[i]) 0 false :: sta s2 f_Paccum_State_least m2 3 (if xs[i] < lo then xs[i] else lo) 0 false :: sta s3 f_Paccum_State_greatest m3 3 (if xs[i] > hi then xs[i] else hi) 0 false :: sta s4 f_Paccum_State_first ((i + 1 : Nat) : Int) 3 xs[0] 0 false :: sta s5 f_Paccum_State_last m5 3 xs[i] 0 false :: sta s6 f_Paccum_State_none many' 0 0 0 true :: L))) →
          X (sm + xs[i], (if xs[i] < lo then xs[i] else lo), (if xs[i] > hi then xs[i] else hi), u, many', IntKind.i64.wrap ((i : Int) + 1)) w := by
        rintro w m1 many' q1 q2 ⟨m2, m3, m5, h⟩
        rw [e3]
        refine hX _ _ ⟨i + 1, u, _, _, _, _, _, _, _, _, _, _, _, _, _, rfl, by omega, by omega, by omega, ?_, ?_, ?_, ?_, q1, by omega, .inr ⟨by omega, rfl, rfl, rfl, rfl, (show i + 1 - 1 < xs.length by omega), rfl⟩, h⟩ (by dsimp only; omega)
        · split <;> omega
        · split <;> omega
        · split <;> omega
        · split <;> omega
      by_cases hit : i < ts.length
      · obtain ⟨tb, toff, r', rfl, hc, h3, h4⟩ := hks i hit hit
        have hc1 := fun j v hj => Gh.cell_mono hG1 (hc j v hj)
        refine ctt (decide_eq_true (by omega)) ?_
        refine Meet.dup ?_
        simp only [ws, add_mk, Int.toNat_natCast]
        have hb2 : 0 ≤ ((i : Nat) : Int) ∧ ((i : Nat) : Int) < ((ts.length : Nat) : Int) := ⟨by omega, by omega⟩
        refine And.intro hb2 ?_
        repeat' (first
          | (refine New.at h (fun b w hh => ?_); clear h; have h := hh; clear hh)
          | (refine Drew.of h (fun w hh => ?_); clear h; have h := hh; clear hh)
          | (refine St.at h 0 _ rfl rfl rfl (fun w hh => ?_); clear h; have h := hh; clear hh; simp only [List.set_cons_zero, List.set_cons_succ] at h)
          | refine ⟨_, h.rd (hc1 0 _ rfl), ?_⟩
          | refine ⟨_, _, _, h.rd (hc1 0 _ rfl), ?_⟩
          | exact h.rd (hc1 0 _ rfl)
          | refine ⟨h.rd (hc1 0 _ rfl), ?_⟩
          | refine ⟨_, h.rd (hc1 1 _ rfl), ?_⟩
          | refine ⟨_, _, _, h.rd (hc1 1 _ rfl), ?_⟩
          | exact h.rd (hc1 1 _ rfl)
          | refine ⟨h.rd (hc1 1 _ rfl), ?_⟩
          | refine ⟨_, h.rd (hc1 2 _ rfl), ?_⟩
          | refine ⟨_, _, _, h.rd (hc1 2 _ rfl), ?_⟩
          | exact h.rd (hc1 2 _ rfl)
          | refine ⟨h.rd (hc1 2 _ rfl), ?_⟩
          | refine ⟨_, h.rd (hc1 3 _ rfl), ?_⟩
          | refine ⟨_, _, _, h.rd (hc1 3 _ rfl), ?_⟩
          | exact h.rd (hc1 3 _ rfl)
          | refine ⟨h.rd (hc1 3 _ rfl), ?_⟩
          | refine ⟨_, h.rd (hc1 4 _ rfl), ?_⟩
          | refine ⟨_, _, _, h.rd (hc1 4 _ rfl), ?_⟩
          | exact h.rd (hc1 4 _ rfl)
          | refine ⟨h.rd (hc1 4 _ rfl), ?_⟩
          | refine ⟨_, h.rd (hc1 5 _ rfl), ?_⟩
          | refine ⟨_, _, _, h.rd (hc1 5 _ rfl), ?_⟩
          | exact h.rd (hc1 5 _ rfl)
          | refine ⟨h.rd (hc1 5 _ rfl), ?_⟩
          | refine ⟨_, h.lda 0 _ rfl rfl, ?_⟩
          | refine ⟨_, _, _, h.lda 0 _ rfl rfl, ?_⟩
          | refine ⟨h.lda 0 _ rfl rfl, ?_⟩
          | exact h.lda 0 _ rfl rfl
          | refine ⟨_, rfl, ?_⟩
          | refine ⟨_, _, rfl, ?_⟩
          | refine ⟨_, _, _, rfl, ?_⟩
          | refine ⟨_, _, _, _, _, _, _, _, _, _, _, _, rfl, ?_⟩
          | refine ⟨_, _, _, _, _, _, _, _, _, _, _, _, _, rfl, ?_⟩
          | refine ctt rfl ?_
          | refine cff rfl ?_
          | refine Meet.dup ?_
          | intro j
          | rw [ws]
          | simp only [ws, add_mk]
          | refine And.intro ?_ ?_)
        refine CallR.of (Add_sum_other s1 _ _ _ _ _ _ _ _ _ _ _ _ _ _ _ _ h3 h4 (h.bring 5 rfl)) ?_
        rintro _ w ⟨rfl, h⟩
        simp only [List.eraseIdx_cons_zero, List.eraseIdx_cons_succ] at h
        refine ⟨_, rfl, cff rfl ?_⟩
        refine And.intro hb2 ?_
        repeat' (first
          | (refine New.at h (fun b w hh => ?_); clear h; have h := hh; clear hh)
          | (refine Drew.of h (fun w hh => ?_); clear h; have h := hh; clear hh)
          | (refine St.at h 0 _ rfl rfl rfl (fun w hh => ?_); clear h; have h := hh; clear hh; simp only [List.set_cons_zero, List.set_cons_succ] at h)
          | refine ⟨_, h.rd (hc1 0 _ rfl), ?_⟩
          | refine ⟨_, _, _, h.rd (hc1 0 _ rfl), ?_⟩
          | exact h.rd (hc1 0 _ rfl)
          | refine ⟨h.rd (hc1 0 _ rfl), ?_⟩
          | refine ⟨_, h.rd (hc1 1 _ rfl), ?_⟩
          | refine ⟨_, _, _, h.rd (hc1 1 _ rfl), ?_⟩
          | exact h.rd (hc1 1 _ rfl)
          | refine ⟨h.rd (hc1 1 _ rfl), ?_⟩
          | refine ⟨_, h.rd (hc1 2 _ rfl), ?_⟩
          | refine ⟨_, _, _, h.rd (hc1 2 _ rfl), ?_⟩
          | exact h.rd (hc1 2 _ rfl)
          | refine ⟨h.rd (hc1 2 _ rfl), ?_⟩
          | refine ⟨_, h.rd (hc1 3 _ rfl), ?_⟩
          | refine ⟨_, _, _, h.rd (hc1 3 _ rfl), ?_⟩
          | exact h.rd (hc1 3 _ rfl)
          | refine ⟨h.rd (hc1 3 _ rfl), ?_⟩
          | refine ⟨_, h.rd (hc1 4 _ rfl), ?_⟩
          | refine ⟨_, _, _, h.rd (hc1 4 _ rfl), ?_⟩
          | exact h.rd (hc1 4 _ rfl)
          | refine ⟨h.rd (hc1 4 _ rfl), ?_⟩
          | refine ⟨_, h.rd (hc1 5 _ rfl), ?_⟩
          | refine ⟨_, _, _, h.rd (hc1 5 _ rfl), ?_⟩
          | exact h.rd (hc1 5 _ rfl)
          | refine ⟨h.rd (hc1 5 _ rfl), ?_⟩
          | refine ⟨_, h.lda 0 _ rfl rfl, ?_⟩
          | refine ⟨_, _, _, h.lda 0 _ rfl rfl, ?_⟩
          | refine ⟨h.lda 0 _ rfl rfl, ?_⟩
          | exact h.lda 0 _ rfl rfl
          | refine ⟨_, rfl, ?_⟩
          | refine ⟨_, _, rfl, ?_⟩
          | refine ⟨_, _, _, rfl, ?_⟩
          | refine ⟨_, _, _, _, _, _, _, _, _, _, _, _, rfl, ?_⟩
          | refine ⟨_, _, _, _, _, _, _, _, _, _, _, _, _, rfl, ?_⟩
          | refine ctt rfl ?_
          | refine cff rfl ?_
          | refine Meet.dup ?_
          | intro j
          | rw [ws]
          | simp only [ws, add_mk]
          | refine And.intro ?_ ?_)
        refine CallR.of (Add_count s6 _ _ _ _ _ _ _ _ _ _ _ _ _ _ _ _ _ (h.bring 1 rfl)) ?_
        rintro _ w ⟨rfl, h⟩
        simp only [List.eraseIdx_cons_zero, List.eraseIdx_cons_succ] at h
        refine ⟨_, rfl, ?_⟩
        intro j
        refine cff rfl ?_
        intro j
        have e4 : IntKind.i64.wrap (many + 1 + 1) = many + 1 + 1 := wrap64_id ⟨by omega, by omega⟩
        rw [e4] at h ⊢
        have h := (((((h.bring 6 rfl).tail.bring 2 rfl).bring 3 rfl).bring 4 rfl).bring 5 rfl)
        simp only [List.eraseIdx_cons_zero, List.eraseIdx_cons_succ] at h
        have h := h.bring 5 rfl
        simp only [List.eraseIdx_cons_zero, List.eraseIdx_cons_succ] at h
        exact fin w _ (many + 1 + 1) (by omega) (by omega) ⟨_, _, _, h⟩
      · refine cff (decide_eq_false (by omega)) ?_
        intro j
        have h := ((((((h.bring 6 rfl).tail).bring 1 rfl).bring 2 rfl).bring 3 rfl).bring 4 rfl).bring 5 rfl
        simp only [List.eraseIdx_cons_zero, List.eraseIdx_cons_succ] at h
        exact fin w _ (many + 1) (by omega) (by omega) ⟨_, _, _, h⟩
    · refine cff (decide_eq_false (by omega)) ?_
      obtain rfl : i = xs.length := by omega
      rcases hst with ⟨q, _⟩ | ⟨_, rfl, rfl, rfl, rfl, hl, rfl⟩
      · exact absurd q h0
      clear hX hi'
      refine Meet.mk (fun b w => b = true ∧ Holds G1 w (all L)) ?_ (fun b w ⟨hb, h⟩ j => by subst hb; exact Ret.mk ⟨rfl, G1, hG1, h⟩)
      refine Drew.of h (fun w h => ?_)
      refine CallR.of (Value_num s1 _ _ _ _ _ (by decide) h) ?_; rintro _ w ⟨rfl, h⟩; refine ⟨_, _, _, _, _, _, _, _, _, _, _, _, rfl, ctt (by simp) ?_⟩
      refine CallR.of (Value_num s1 _ _ _ _ _ (by decide) h) ?_; rintro _ w ⟨rfl, h⟩; refine ⟨_, _, _, _, _, _, _, _, _, _, _, _, rfl, ctt rfl ?_⟩
      refine CallR.of (Value_num s2 _ _ _ _ _ (by decide) (h.bring 1 rfl)) ?_; rintro _ w ⟨rfl, h⟩; refine ⟨_, _, _, _, _, _, _, _, _, _, _, _, rfl, ctt (by simp) ?_⟩
      simp only [List.eraseIdx_cons_zero, List.eraseIdx_cons_succ] at h
      refine CallR.of (Value_num s3 _ _ _ _ _ (by decide) (h.bring 2 rfl)) ?_; rintro _ w ⟨rfl, h⟩; refine ⟨_, _, _, _, _, _, _, _, _, _, _, _, rfl, ctt (by simp) ?_⟩
      simp only [List.eraseIdx_cons_zero, List.eraseIdx_cons_succ] at h
      refine And.intro (hn 0 (by omega)) ?_
      refine ⟨_, h.rd (hxr1 0 (by omega)), ?_⟩
      refine CallR.of (Value_num s4 _ _ _ _ _ (by decide) (h.bring 3 rfl)) ?_; rintro _ w ⟨rfl, h⟩; refine ⟨_, _, _, _, _, _, _, _, _, _, _, _, rfl, ?_⟩
      simp only [List.eraseIdx_cons_zero, List.eraseIdx_cons_succ] at h
      refine ⟨h.rd (hxr1 0 (by omega)), ctt (by rw [wrap64_id (x := xs[0]) ⟨by omega, by omega⟩]; simp) ?_⟩
      have e5 : IntKind.i64.wrap (((xs.length : Nat) : Int) - 1) = ((xs.length - 1 : Nat) : Int) := by rw [wrap64_id ⟨by omega, by omega⟩]; omega
      rw [e5]
      have hxl := hxi (xs.length - 1) hl
      simp only [Int.toNat_natCast]
      refine And.intro (hn _ hl) ?_
      refine ⟨_, h.rd (hxr1 _ hl), ?_⟩
      refine CallR.of (Value_num s5 _ _ _ _ _ (by decide) (h.bring 4 rfl)) ?_; rintro _ w ⟨rfl, h⟩; refine ⟨_, _, _, _, _, _, _, _, _, _, _, _, rfl, ?_⟩
      simp only [List.eraseIdx_cons_zero, List.eraseIdx_cons_succ] at h
      refine ⟨h.rd (hxr1 _ hl), ctt (by rw [wrap64_id (x := xs[xs.length - 1]) ⟨by omega, by omega⟩]; simp) ?_⟩
      refine CallR.of (Value_count s6 _ _ _ _ _ (h.bring 5 rfl)) ?_; rintro _ w ⟨rfl, h⟩; refine ⟨_, _, _, _, _, _, _, _, _, _, _, _, rfl, ?_⟩
      simp only [List.eraseIdx_cons_zero, List.eraseIdx_cons_succ] at h
      exact ⟨by simp, h.tail.tail.tail.tail.tail.tail⟩

end
end Go.Proofs.Sd
