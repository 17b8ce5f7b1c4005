/- How heavy and how deep values are, as the laws count it. -/
import Derived.Test.YtpbmnjmagdacbaaNu
import Derived.Test.YtpbmnjmagdacbaaSwC0
import Derived.Test.YtpbmnjmagdacbaaSwC1
set_option linter.unusedVariables false
set_option linter.unusedSimpArgs false
set_option maxRecDepth 100000
set_option maxHeartbeats 4000000
namespace Go.Proofs.Sw
open Go Go.Eng Go.Eng.HP Go.RowKit Go.Proofs
attribute [local irreducible] St New Drew Prim PrimU CallR CallV CallI CallX Meet Eng.Loop withSome HP.blk HP.mp Calls Holds Ret

/-- How many values there are, and their bytes. -/
def wt : Nat → VT → Nat
  | 0, _ => 0
  | d + 1, .mk _ _ s b f l => 1 + s.size + b.length + (f.map fun x => x.1.size + wt d x.2).sum + (l.map (wt d)).sum

/-- More than so many are not counted. -/
def Wb (most : Int) : Int := (max most 0 + 1) * 1125899906842624

/-- A value that the run's rules read: its own cells. -/
abbrev vblk (b : Nat) (r : Vr) : HP := blk b t_api_Value r.cells

theorem Weight_ok : ∀ (d : Nat) (t : VT) (r : Vr) (most : Int) {G : Gh} {w : World} {L : List HP}, VC G d t r → most ≤ 3000 → -4611686018427387904 ≤ most → Holds G w (all L) →
    Calls pg f_aqueductlaw5_Weight #[r.val, .int .i64 most] w (Ret fun v w' => (∃ n : Int, v = .int .i64 n ∧ 1 ≤ n ∧ n ≤ Wb most ∧ (n ≤ most → n = wt d t)) ∧ Holds G w' (all L))
  | 0, _, _, _, _, _, _, hv, _, _, _ => hv.elim
  | d + 1, .mk k n s b f l, ⟨rk, rn, rs, rb, rbl, rbc, rf, rfl', rfc, rl, rll, rlc⟩, most, G, w, L, hv, hm, hm0, h => by
    obtain ⟨hk, hn, hs, hb, hfl, hll, hf, hl, _, _, bs, bb, bf, bl⟩ := hv
    simp only at hk hn hs hb hfl hll hf hl
    subst hk hn hs hfl hll
    have hbl := hb.1
    subst hbl
    unfold big at bs bb bf bl
    apply of_aqueductlaw5_Weight
    unfold c_aqueductlaw5_Weight
    dsimp only
    refine New.at h (fun b0 w h => ?_)
    refine ⟨_, h.lda 0 2 rfl rfl, ?_⟩
    refine ⟨_, _, _, h.lda 0 3 rfl rfl, ?_⟩
    have hWb : Wb most = (max most 0 + 1) * 1125899906842624 := rfl
    have hW0 : (1125899906842624 : Int) ≤ Wb most := by rw [hWb]; omega
    have hW1 : Wb most ≤ 3001 * 1125899906842624 := by rw [hWb]; omega
    rw [wrap64_id (x := 1 + _) ⟨by omega, by omega⟩, wrap64_id ⟨by omega, by omega⟩]
    refine Loop.inv (I := fun s' w => ∃ (i : Nat) (m : Int), s' = (m, (i : Int)) ∧ i ≤ f.length ∧ 1 ≤ m ∧ m ≤ Wb most ∧ (m ≤ most → m = ((1 + rs.size + b.length + ((f.take i).map fun x => x.1.size + wt d x.2).sum : Nat) : Int)) ∧ Holds G w (all (_ :: L)))
      (fun s' _ => f.length - s'.2.toNat) ?_ ⟨0, _, rfl, Nat.zero_le _, by omega, by omega, fun _ => by simp, h⟩
    clear h
    rintro X s' w ⟨i, m, rfl, hi, hm1, hm2, hm3, h⟩ hX
    intro j
    dsimp only
    refine Meet.dup ?_
    refine ⟨_, _, _, h.lda 0 4 rfl rfl, ?_⟩
    have step2 : ∀ w, Holds G w (all (blk b0 t_api_Value [.int .i64 rk, .int .i64 rn, .string rs, .slice rb b.length rbc, .slice rf f.length rfc, .slice rl l.length rlc] :: L)) → (m ≤ most → i = f.length) → Eng.Loop (σ := Int × Int) (fun X42 s43 w44 =>
 ∀ j45 : Nat → Value, (Meet (σ := Bool) (fun J46 =>
 ∃ (x49 : Option Addr) (l50 c51 : Nat), w44.cell? ⟨b0, 5, none⟩ = some (.slice x49 l50 c51) ∧
 (cond (decide (s43.2 < ((l50 : Nat) : Int)))
 (J46 (decide (s43.1 ≤ most)) w44)
 (J46 false w44)))
 (fun s47 w48 =>
 ∀ j52 : Nat → Value, (cond s47
 (∃ (x53 : Option Addr) (l54 c55 : Nat), w48.cell? ⟨b0, 5, none⟩ = some (.slice x53 l54 c55) ∧
 (withSome x53 fun (a56 : Addr) =>
 (0 ≤ s43.2 ∧ s43.2 < ((l54 : Nat) : Int)) ∧
 ∃ x57 : Int, w48.cell? (a56.add ((s43.2).toNat * 6)) = some (.int .i64 x57) ∧
 ∃ x58 : Int, w48.cell? ((a56.add ((s43.2).toNat * 6)).add 1) = some (.int .i64 x58) ∧
 ∃ x59 : ByteArray, w48.cell? ((a56.add ((s43.2).toNat * 6)).add 2) = some (.string x59) ∧
 ∃ (x60 : Option Addr) (l61 c62 : Nat), w48.cell? ((a56.add ((s43.2).toNat * 6)).add 3) = some (.slice x60 l61 c62) ∧
 ∃ (x63 : Option Addr) (l64 c65 : Nat), w48.cell? ((a56.add ((s43.2).toNat * 6)).add 4) = some (.slice x63 l64 c65) ∧
 ∃ (x66 : Option Addr) (l67 c68 : Nat), w48.cell? ((a56.add ((s43.2).toNat * 6)).add 5) = some (.slice x66 l67 c68) ∧
 (CallR pg f_aqueductlaw5_Weight [(.agg #[(.int .i64 x57), (.int .i64 x58), (.string x59), (.slice x60 l61 c62), (.slice x63 l64 c65), (.slice x66 l67 c68)]), (.int .i64 (IntKind.i64.wrap (most - s43.1)))] w48 (fun ch w => Ret (fun v w' => (∃ n : Int, v = .int .i64 n ∧ 1 ≤ n ∧ n ≤ Wb most ∧ (n ≤ most → n = wt (d + 1) (.mk rk rn rs b f l))) ∧ Holds G w' (all L)) (.panicked ch) w) fun v69 w70 =>
 ∃ y71 : Int, v69 = (.int .i64 y71) ∧
 X42 ((IntKind.i64.wrap (s43.1 + y71)), (IntKind.i64.wrap (s43.2 + (1 : Int)))) w70)))
 (Ret (fun v w' => (∃ n : Int, v = .int .i64 n ∧ 1 ≤ n ∧ n ≤ Wb most ∧ (n ≤ most → n = wt (d + 1) (.mk rk rn rs b f l))) ∧ Holds G w' (all L)) (.returned (.int .i64 s43.1)) w48))))) (m, (0 : Int)) w := by
      intro w h hmi
      refine Loop.inv (I := fun s' w => ∃ (i : Nat) (m : Int), s' = (m, (i : Int)) ∧ i ≤ l.length ∧ 1 ≤ m ∧ m ≤ Wb most ∧ (m ≤ most → m = ((1 + rs.size + b.length + (f.map fun x => x.1.size + wt d x.2).sum + ((l.take i).map (wt d)).sum : Nat) : Int)) ∧ Holds G w (all (_ :: L)))
        (fun s' _ => l.length - s'.2.toNat) ?_ ⟨0, _, rfl, Nat.zero_le _, hm1, hm2, fun hle => by rw [hm3 hle, hmi hle]; simp, h⟩
      clear h
      rintro X s' w ⟨i, m, rfl, hi, hm1, hm2, hm3, h⟩ hX
      intro j
      dsimp only
      refine Meet.dup ?_
      refine ⟨_, _, _, h.lda 0 5 rfl rfl, ?_⟩
      by_cases hi' : i < l.length
      · refine ctt (decide_eq_true (by omega)) ?_
        intro j
        by_cases hle : m ≤ most
        · refine ctt (decide_eq_true hle) ?_
          refine ⟨_, _, _, h.lda 0 5 rfl rfl, ?_⟩
          obtain ⟨fb, foff, cs, rfl, ⟨r', rfl, hr'⟩, hlen, hc⟩ := hl i _ (List.getElem?_eq_getElem hi')
          have hb2 : 0 ≤ ((i : Nat) : Int) ∧ ((i : Nat) : Int) < ((l.length : Nat) : Int) := ⟨by omega, by omega⟩
          simp only [ws, add_mk, Int.toNat_natCast]
          refine And.intro hb2 ?_
          rw [wrap64_id (x := most - m) ⟨by omega, by omega⟩]
          repeat' (first
            | (refine New.at h (fun b w hh => ?_); clear h; have h := hh; clear hh)
            | (refine Drew.of h (fun w hh => ?_); clear h; have h := hh; clear hh)
            | (refine St.at h 0 _ rfl rfl rfl (fun w hh => ?_); clear h; have h := hh; clear hh; simp only [List.set_cons_zero, List.set_cons_succ] at h)
            | refine ⟨_, h.rd (hc 0 _ rfl), ?_⟩
            | refine ⟨_, _, _, h.rd (hc 0 _ rfl), ?_⟩
            | exact h.rd (hc 0 _ rfl)
            | refine ⟨h.rd (hc 0 _ rfl), ?_⟩
            | refine ⟨_, h.rd (hc 1 _ rfl), ?_⟩
            | refine ⟨_, _, _, h.rd (hc 1 _ rfl), ?_⟩
            | exact h.rd (hc 1 _ rfl)
            | refine ⟨h.rd (hc 1 _ rfl), ?_⟩
            | refine ⟨_, h.rd (hc 2 _ rfl), ?_⟩
            | refine ⟨_, _, _, h.rd (hc 2 _ rfl), ?_⟩
            | exact h.rd (hc 2 _ rfl)
            | refine ⟨h.rd (hc 2 _ rfl), ?_⟩
            | refine ⟨_, h.rd (hc 3 _ rfl), ?_⟩
            | refine ⟨_, _, _, h.rd (hc 3 _ rfl), ?_⟩
            | exact h.rd (hc 3 _ rfl)
            | refine ⟨h.rd (hc 3 _ rfl), ?_⟩
            | refine ⟨_, h.rd (hc 4 _ rfl), ?_⟩
            | refine ⟨_, _, _, h.rd (hc 4 _ rfl), ?_⟩
            | exact h.rd (hc 4 _ rfl)
            | refine ⟨h.rd (hc 4 _ rfl), ?_⟩
            | refine ⟨_, h.rd (hc 5 _ rfl), ?_⟩
            | refine ⟨_, _, _, h.rd (hc 5 _ rfl), ?_⟩
            | exact h.rd (hc 5 _ rfl)
            | refine ⟨h.rd (hc 5 _ rfl), ?_⟩
            | refine ⟨_, h.lda 0 _ rfl rfl, ?_⟩
            | refine ⟨_, _, _, h.lda 0 _ rfl rfl, ?_⟩
            | refine ⟨h.lda 0 _ rfl rfl, ?_⟩
            | exact h.lda 0 _ rfl rfl
            | refine ⟨_, rfl, ?_⟩
            | refine ⟨_, _, rfl, ?_⟩
            | refine ⟨_, _, _, rfl, ?_⟩
            | refine ⟨_, _, _, _, _, _, _, _, _, _, _, _, rfl, ?_⟩
            | refine ⟨_, _, _, _, _, _, _, _, _, _, _, _, _, rfl, ?_⟩
            | refine ctt rfl ?_
            | refine cff rfl ?_
            | refine Meet.dup ?_
            | intro j
            | rw [ws]
            | simp only [ws, add_mk]
            | refine And.intro ?_ ?_)
          refine CallR.of (Weight_ok d _ _ _ hr' (by omega) (by omega) h) ?_
          rintro _ w ⟨⟨n1, rfl, hn1, hn2, hn3⟩, h⟩
          refine ⟨_, rfl, ?_⟩
          have hWb' : Wb (most - m) ≤ Wb most - 1125899906842624 := by unfold Wb; omega
          refine hX _ _ ⟨i + 1, m + n1, ?_, by omega, by omega, by omega, fun hx => ?_, h⟩ (by dsimp only; rw [wrap64_id ⟨by omega, by omega⟩]; omega)
          · rw [wrap64_id (x := m + n1) ⟨by omega, by omega⟩, wrap64_id (x := (i : Int) + 1) ⟨by omega, by omega⟩]
            rfl
          · rw [sum_take _ _ _ hi']
            have := hn3 (by omega)
            have := hm3 hle
            push_cast at *
            omega
        · refine cff (decide_eq_false hle) ?_
          exact Ret.mk ⟨⟨_, rfl, hm1, hm2, fun hx => absurd hx hle⟩, h.tail⟩
      · refine cff (decide_eq_false (by omega)) ?_
        intro j
        obtain rfl : i = l.length := by omega
        exact Ret.mk ⟨⟨_, rfl, hm1, hm2, fun hx => by rw [hm3 hx, List.take_length]; simp only [wt]⟩, h.tail⟩
    by_cases hi' : i < f.length
    · refine ctt (decide_eq_true (by omega)) ?_
      intro j
      by_cases hle : m ≤ most
      · refine ctt (decide_eq_true hle) ?_
        refine Drew.of h (fun w h => ?_)
        refine ⟨_, _, _, h.lda 0 4 rfl rfl, ?_⟩
        obtain ⟨fb, foff, cs, rfl, ⟨r', rfl, hns, hr'⟩, hlen, hc⟩ := hf i _ (List.getElem?_eq_getElem hi')
        have hb2 : 0 ≤ ((i : Nat) : Int) ∧ ((i : Nat) : Int) < ((f.length : Nat) : Int) := ⟨by omega, by omega⟩
        unfold big at hns
        simp only [ws, add_mk, Int.toNat_natCast]
        refine And.intro hb2 ?_
        rw [wrap64_id (x := most - m) ⟨by omega, by omega⟩]
        repeat' (first
          | (refine New.at h (fun b w hh => ?_); clear h; have h := hh; clear hh)
          | (refine Drew.of h (fun w hh => ?_); clear h; have h := hh; clear hh)
          | (refine St.at h 0 _ rfl rfl rfl (fun w hh => ?_); clear h; have h := hh; clear hh; simp only [List.set_cons_zero, List.set_cons_succ] at h)
          | refine ⟨_, h.rd (hc 0 _ rfl), ?_⟩
          | refine ⟨_, _, _, h.rd (hc 0 _ rfl), ?_⟩
          | exact h.rd (hc 0 _ rfl)
          | refine ⟨h.rd (hc 0 _ rfl), ?_⟩
          | refine ⟨_, h.rd (hc 1 _ rfl), ?_⟩
          | refine ⟨_, _, _, h.rd (hc 1 _ rfl), ?_⟩
          | exact h.rd (hc 1 _ rfl)
          | refine ⟨h.rd (hc 1 _ rfl), ?_⟩
          | refine ⟨_, h.rd (hc 2 _ rfl), ?_⟩
          | refine ⟨_, _, _, h.rd (hc 2 _ rfl), ?_⟩
          | exact h.rd (hc 2 _ rfl)
          | refine ⟨h.rd (hc 2 _ rfl), ?_⟩
          | refine ⟨_, h.rd (hc 3 _ rfl), ?_⟩
          | refine ⟨_, _, _, h.rd (hc 3 _ rfl), ?_⟩
          | exact h.rd (hc 3 _ rfl)
          | refine ⟨h.rd (hc 3 _ rfl), ?_⟩
          | refine ⟨_, h.rd (hc 4 _ rfl), ?_⟩
          | refine ⟨_, _, _, h.rd (hc 4 _ rfl), ?_⟩
          | exact h.rd (hc 4 _ rfl)
          | refine ⟨h.rd (hc 4 _ rfl), ?_⟩
          | refine ⟨_, h.rd (hc 5 _ rfl), ?_⟩
          | refine ⟨_, _, _, h.rd (hc 5 _ rfl), ?_⟩
          | exact h.rd (hc 5 _ rfl)
          | refine ⟨h.rd (hc 5 _ rfl), ?_⟩
          | refine ⟨_, h.rd (hc 6 _ rfl), ?_⟩
          | refine ⟨_, _, _, h.rd (hc 6 _ rfl), ?_⟩
          | exact h.rd (hc 6 _ rfl)
          | refine ⟨h.rd (hc 6 _ rfl), ?_⟩
          | refine And.intro hb2 ?_
          | refine ⟨_, h.lda 0 _ rfl rfl, ?_⟩
          | refine ⟨_, _, _, h.lda 0 _ rfl rfl, ?_⟩
          | refine ⟨h.lda 0 _ rfl rfl, ?_⟩
          | exact h.lda 0 _ rfl rfl
          | refine ⟨_, rfl, ?_⟩
          | refine ⟨_, _, rfl, ?_⟩
          | refine ⟨_, _, _, rfl, ?_⟩
          | refine ⟨_, _, _, _, _, _, _, _, _, _, _, _, rfl, ?_⟩
          | refine ⟨_, _, _, _, _, _, _, _, _, _, _, _, _, rfl, ?_⟩
          | refine ctt rfl ?_
          | refine cff rfl ?_
          | refine Meet.dup ?_
          | intro j
          | rw [ws]
          | simp only [ws, add_mk]
          | refine And.intro ?_ ?_)
        refine CallR.of (Weight_ok d _ _ _ hr' (by omega) (by omega) h) ?_
        rintro _ w ⟨⟨n1, rfl, hn1, hn2, hn3⟩, h⟩
        refine ⟨_, rfl, ?_⟩
        refine ⟨h.rd (hc 0 _ rfl), ?_⟩
        refine ⟨h.lda 0 4 rfl rfl, ?_⟩
        have hWb' : Wb (most - m) ≤ Wb most - 1125899906842624 := by unfold Wb; omega
        refine hX _ _ ⟨i + 1, m + f[i].1.size + n1, ?_, by omega, by omega, by omega, fun hx => ?_, h⟩ (by dsimp only; rw [wrap64_id (x := (i : Int) + 1) ⟨by omega, by omega⟩]; omega)
        · rw [wrap64_id (x := m + _) ⟨by omega, by omega⟩, wrap64_id (x := m + _ + n1) ⟨by omega, by omega⟩, wrap64_id (x := (i : Int) + 1) ⟨by omega, by omega⟩]
          rfl
        · rw [sum_take _ _ _ hi']
          have := hn3 (by omega)
          have := hm3 hle
          push_cast at *
          omega
      · refine cff (decide_eq_false hle) ?_
        exact step2 w h (fun hx => absurd hx hle)
    · refine cff (decide_eq_false (by omega)) ?_
      intro j
      exact step2 w h (fun _ => by omega)

/-- A value that is not too deep. -/
theorem Shallow_ok : ∀ (d : Nat) (t : VT) (r : Vr) (m : Nat) {G : Gh} {w : World} {L : List HP}, VC G d t r → m ≤ 3000 → Holds G w (all L) →
    Calls pg f_aqueductlaw5_Shallow #[r.val, .int .i64 (m : Int)] w (Ret fun v w' => (∃ bb : Bool, v = .bool bb ∧ (bb = true → VC G (m + 1) t r)) ∧ Holds G w' (all L))
  | 0, _, _, _, _, _, _, hv, _, _ => hv.elim
  | d + 1, .mk k n s b f l, ⟨rk, rn, rs, rb, rbl, rbc, rf, rfl', rfc, rl, rll, rlc⟩, m, G, w, L, hv, hm, h => by
    obtain ⟨hk, hn, hs, hb, hfl, hll, hf, hl, ik, iN, bs, bb, bf, bl⟩ := hv
    simp only at hk hn hs hb hfl hll hf hl
    subst hk hn hs hfl hll
    have bf' := bf
    have bl' := bl
    unfold big at bf' bl'
    apply of_aqueductlaw5_Shallow
    unfold c_aqueductlaw5_Shallow
    dsimp only
    refine New.at h (fun b0 w h => ?_)
    refine Loop.inv (I := fun s' w => ∃ (i : Nat) (u : Bool), s' = (u, (i : Int)) ∧ i ≤ f.length ∧ VsAt G 7 (fun (x : ByteArray × VT) cs => ∃ r' : Vr, cs = .string x.1 :: r'.cells ∧ x.1.size ≤ big ∧ VC G m x.2 r') (f.take i) rf ∧ Holds G w (all (_ :: L)))
      (fun s' _ => f.length - s'.2.toNat) ?_ ⟨0, _, rfl, Nat.zero_le _, VsAt.nil, h⟩
    clear h
    rintro X s' w ⟨i, u, rfl, hi, hA, h⟩ hX
    intro j
    dsimp only
    refine ⟨_, _, _, h.lda 0 4 rfl rfl, ?_⟩
    by_cases hi' : i < f.length
    · refine ctt (decide_eq_true (by omega)) ?_
      obtain ⟨fb, foff, cs, rfl, ⟨r', rfl, hns, hr'⟩, hlen, hc⟩ := hf i _ (List.getElem?_eq_getElem hi')
      have hb2 : 0 ≤ ((i : Nat) : Int) ∧ ((i : Nat) : Int) < ((f.length : Nat) : Int) := ⟨by omega, by omega⟩
      refine Meet.dup ?_
      refine cif (fun hm0 => ?_) (fun hm0 => ?_)
      · intro j
        refine ctt rfl ?_
        exact Ret.mk ⟨⟨_, rfl, fun hx => by cases hx⟩, h.tail⟩
      · have hm0' : m ≠ 0 := by
          rintro rfl
          simp at hm0
        refine ⟨_, _, _, h.lda 0 4 rfl rfl, ?_⟩
        simp only [ws, add_mk, Int.toNat_natCast]
        refine And.intro hb2 ?_
        repeat' (first
          | (refine New.at h (fun b w hh => ?_); clear h; have h := hh; clear hh)
          | (refine Drew.of h (fun w hh => ?_); clear h; have h := hh; clear hh)
          | (refine St.at h 0 _ rfl rfl rfl (fun w hh => ?_); clear h; have h := hh; clear hh; simp only [List.set_cons_zero, List.set_cons_succ] at h)
          | refine ⟨_, h.rd (hc 0 _ rfl), ?_⟩
          | refine ⟨_, _, _, h.rd (hc 0 _ rfl), ?_⟩
          | exact h.rd (hc 0 _ rfl)
          | refine ⟨h.rd (hc 0 _ rfl), ?_⟩
          | refine ⟨_, h.rd (hc 1 _ rfl), ?_⟩
          | refine ⟨_, _, _, h.rd (hc 1 _ rfl), ?_⟩
          | exact h.rd (hc 1 _ rfl)
          | refine ⟨h.rd (hc 1 _ rfl), ?_⟩
          | refine ⟨_, h.rd (hc 2 _ rfl), ?_⟩
          | refine ⟨_, _, _, h.rd (hc 2 _ rfl), ?_⟩
          | exact h.rd (hc 2 _ rfl)
          | refine ⟨h.rd (hc 2 _ rfl), ?_⟩
          | refine ⟨_, h.rd (hc 3 _ rfl), ?_⟩
          | refine ⟨_, _, _, h.rd (hc 3 _ rfl), ?_⟩
          | exact h.rd (hc 3 _ rfl)
          | refine ⟨h.rd (hc 3 _ rfl), ?_⟩
          | refine ⟨_, h.rd (hc 4 _ rfl), ?_⟩
          | refine ⟨_, _, _, h.rd (hc 4 _ rfl), ?_⟩
          | exact h.rd (hc 4 _ rfl)
          | refine ⟨h.rd (hc 4 _ rfl), ?_⟩
          | refine ⟨_, h.rd (hc 5 _ rfl), ?_⟩
          | refine ⟨_, _, _, h.rd (hc 5 _ rfl), ?_⟩
          | exact h.rd (hc 5 _ rfl)
          | refine ⟨h.rd (hc 5 _ rfl), ?_⟩
          | refine ⟨_, h.rd (hc 6 _ rfl), ?_⟩
          | refine ⟨_, _, _, h.rd (hc 6 _ rfl), ?_⟩
          | exact h.rd (hc 6 _ rfl)
          | refine ⟨h.rd (hc 6 _ rfl), ?_⟩
          | refine ⟨_, h.lda 0 _ rfl rfl, ?_⟩
          | refine ⟨_, _, _, h.lda 0 _ rfl rfl, ?_⟩
          | refine ⟨h.lda 0 _ rfl rfl, ?_⟩
          | exact h.lda 0 _ rfl rfl
          | refine ⟨_, rfl, ?_⟩
          | refine ⟨_, _, rfl, ?_⟩
          | refine ⟨_, _, _, rfl, ?_⟩
          | refine ⟨_, _, _, _, _, _, _, _, _, _, _, _, rfl, ?_⟩
          | refine ⟨_, _, _, _, _, _, _, _, _, _, _, _, _, rfl, ?_⟩
          | refine ctt rfl ?_
          | refine cff rfl ?_
          | refine Meet.dup ?_
          | intro j
          | rw [ws]
          | simp only [ws, add_mk]
          | refine And.intro ?_ ?_)
        obtain ⟨m', rfl⟩ : ∃ m', m = m' + 1 := ⟨m - 1, by omega⟩
        have e1 : IntKind.i64.wrap (((m' + 1 : Nat) : Int) - 1) = (m' : Int) := by rw [wrap64_id ⟨by omega, by omega⟩]; omega
        rw [e1]
        refine CallR.of (Shallow_ok d _ _ m' hr' (by omega) h) ?_
        rintro _ w ⟨⟨bb, rfl, hbb⟩, h⟩
        refine ⟨_, rfl, ?_⟩
        intro j
        cases bb with
        | false =>
          refine ctt rfl ?_
          exact Ret.mk ⟨⟨_, rfl, fun hx => by cases hx⟩, h.tail⟩
        | true =>
          refine cff rfl ?_
          rw [wrap64_id (x := (i : Int) + 1) ⟨by omega, by omega⟩]
          refine hX _ _ ⟨i + 1, u, rfl, by omega, hA.snoc hi' ⟨fb, foff, _, rfl, ⟨r', rfl, hns, hbb rfl⟩, hlen, hc⟩, h⟩ (by dsimp only; omega)
    · refine cff (decide_eq_false (by omega)) ?_
      obtain rfl : i = f.length := by omega
      rw [List.take_length] at hA
      refine Loop.inv (I := fun s' w => ∃ (i : Nat) (u : Bool), s' = (u, (i : Int)) ∧ i ≤ l.length ∧ VsAt G 6 (fun (x : VT) cs => ∃ r' : Vr, cs = r'.cells ∧ VC G m x r') (l.take i) rl ∧ Holds G w (all (_ :: L)))
        (fun s' _ => l.length - s'.2.toNat) ?_ ⟨0, _, rfl, Nat.zero_le _, VsAt.nil, h⟩
      clear h hX
      rintro X s' w ⟨i, u, rfl, hi, hB, h⟩ hX
      intro j
      dsimp only
      refine ⟨_, _, _, h.lda 0 5 rfl rfl, ?_⟩
      by_cases hi' : i < l.length
      · refine ctt (decide_eq_true (by omega)) ?_
        obtain ⟨fb, foff, cs, rfl, ⟨r', rfl, hr'⟩, hlen, hc⟩ := hl i _ (List.getElem?_eq_getElem hi')
        have hb2 : 0 ≤ ((i : Nat) : Int) ∧ ((i : Nat) : Int) < ((l.length : Nat) : Int) := ⟨by omega, by omega⟩
        refine Meet.dup ?_
        refine cif (fun hm0 => ?_) (fun hm0 => ?_)
        · intro j
          refine ctt rfl ?_
          exact Ret.mk ⟨⟨_, rfl, fun hx => by cases hx⟩, h.tail⟩
        · have hm0' : m ≠ 0 := by
            rintro rfl
            simp at hm0
          refine ⟨_, _, _, h.lda 0 5 rfl rfl, ?_⟩
          simp only [ws, add_mk, Int.toNat_natCast]
          refine And.intro hb2 ?_
          repeat' (first
            | (refine New.at h (fun b w hh => ?_); clear h; have h := hh; clear hh)
            | (refine Drew.of h (fun w hh => ?_); clear h; have h := hh; clear hh)
            | (refine St.at h 0 _ rfl rfl rfl (fun w hh => ?_); clear h; have h := hh; clear hh; simp only [List.set_cons_zero, List.set_cons_succ] at h)
            | refine ⟨_, h.rd (hc 0 _ rfl), ?_⟩
            | refine ⟨_, _, _, h.rd (hc 0 _ rfl), ?_⟩
            | exact h.rd (hc 0 _ rfl)
            | refine ⟨h.rd (hc 0 _ rfl), ?_⟩
            | refine ⟨_, h.rd (hc 1 _ rfl), ?_⟩
            | refine ⟨_, _, _, h.rd (hc 1 _ rfl), ?_⟩
            | exact h.rd (hc 1 _ rfl)
            | refine ⟨h.rd (hc 1 _ rfl), ?_⟩
            | refine ⟨_, h.rd (hc 2 _ rfl), ?_⟩
            | refine ⟨_, _, _, h.rd (hc 2 _ rfl), ?_⟩
            | exact h.rd (hc 2 _ rfl)
            | refine ⟨h.rd (hc 2 _ rfl), ?_⟩
            | refine ⟨_, h.rd (hc 3 _ rfl), ?_⟩
            | refine ⟨_, _, _, h.rd (hc 3 _ rfl), ?_⟩
            | exact h.rd (hc 3 _ rfl)
            | refine ⟨h.rd (hc 3 _ rfl), ?_⟩
            | refine ⟨_, h.rd (hc 4 _ rfl), ?_⟩
            | refine ⟨_, _, _, h.rd (hc 4 _ rfl), ?_⟩
            | exact h.rd (hc 4 _ rfl)
            | refine ⟨h.rd (hc 4 _ rfl), ?_⟩
            | refine ⟨_, h.rd (hc 5 _ rfl), ?_⟩
            | refine ⟨_, _, _, h.rd (hc 5 _ rfl), ?_⟩
            | exact h.rd (hc 5 _ rfl)
            | refine ⟨h.rd (hc 5 _ rfl), ?_⟩
            | refine ⟨_, h.lda 0 _ rfl rfl, ?_⟩
            | refine ⟨_, _, _, h.lda 0 _ rfl rfl, ?_⟩
            | refine ⟨h.lda 0 _ rfl rfl, ?_⟩
            | exact h.lda 0 _ rfl rfl
            | refine ⟨_, rfl, ?_⟩
            | refine ⟨_, _, rfl, ?_⟩
            | refine ⟨_, _, _, rfl, ?_⟩
            | refine ⟨_, _, _, _, _, _, _, _, _, _, _, _, rfl, ?_⟩
            | refine ⟨_, _, _, _, _, _, _, _, _, _, _, _, _, rfl, ?_⟩
            | refine ctt rfl ?_
            | refine cff rfl ?_
            | refine Meet.dup ?_
            | intro j
            | rw [ws]
            | simp only [ws, add_mk]
            | refine And.intro ?_ ?_)
          obtain ⟨m', rfl⟩ : ∃ m', m = m' + 1 := ⟨m - 1, by omega⟩
          have e1 : IntKind.i64.wrap (((m' + 1 : Nat) : Int) - 1) = (m' : Int) := by rw [wrap64_id ⟨by omega, by omega⟩]; omega
          rw [e1]
          refine CallR.of (Shallow_ok d _ _ m' hr' (by omega) h) ?_
          rintro _ w ⟨⟨bb, rfl, hbb⟩, h⟩
          refine ⟨_, rfl, ?_⟩
          intro j
          cases bb with
          | false =>
            refine ctt rfl ?_
            exact Ret.mk ⟨⟨_, rfl, fun hx => by cases hx⟩, h.tail⟩
          | true =>
            refine cff rfl ?_
            rw [wrap64_id (x := (i : Int) + 1) ⟨by omega, by omega⟩]
            refine hX _ _ ⟨i + 1, u, rfl, by omega, hB.snoc hi' ⟨fb, foff, _, rfl, ⟨r', rfl, hbb rfl⟩, hlen, hc⟩, h⟩ (by dsimp only; omega)
      · refine cff (decide_eq_false (by omega)) ?_
        obtain rfl : i = l.length := by omega
        rw [List.take_length] at hB
        exact Ret.mk ⟨⟨_, rfl, fun _ => ⟨rfl, rfl, rfl, hb, rfl, rfl, hA, hB, ik, iN, bs, bb, bf, bl⟩⟩, h.tail⟩

section
variable {G : Gh} {w : World} {L : List HP}

theorem Small_ok {d : Nat} {t : VT} {r : Vr} (hv : VC G d t r) (h : Holds G w (all L)) :
    Calls pg f_aqueductlaw5_Small #[r.val] w (Ret fun v w' => (∃ bb : Bool, v = .bool bb ∧ (bb = true → wt d t ≤ 3000 ∧ VC G 61 t r)) ∧ Holds G w' (all L)) := by
  apply of_aqueductlaw5_Small
  unfold c_aqueductlaw5_Small
  refine New.at h (fun b0 w h => ?_)
  refine Meet.dup ?_
  repeat' (first
    | (refine New.at h (fun b w hh => ?_); clear h; have h := hh; clear hh)
    | (refine Drew.of h (fun w hh => ?_); clear h; have h := hh; clear hh)
    | (refine St.at h 0 _ rfl rfl rfl (fun w hh => ?_); clear h; have h := hh; clear hh; simp only [List.set_cons_zero, List.set_cons_succ] at h)
    | refine ⟨_, h.lda 0 _ rfl rfl, ?_⟩
    | refine ⟨_, _, _, h.lda 0 _ rfl rfl, ?_⟩
    | refine ⟨h.lda 0 _ rfl rfl, ?_⟩
    | exact h.lda 0 _ rfl rfl
    | refine ⟨_, rfl, ?_⟩
    | refine ⟨_, _, rfl, ?_⟩
    | refine ⟨_, _, _, rfl, ?_⟩
    | refine ⟨_, _, _, _, _, _, _, _, _, _, _, _, rfl, ?_⟩
    | refine ⟨_, _, _, _, _, _, _, _, _, _, _, _, _, rfl, ?_⟩
    | refine ctt rfl ?_
    | refine cff rfl ?_
    | refine Meet.dup ?_
    | intro j
    | rw [ws]
    | simp only [ws, add_mk]
    | refine And.intro ?_ ?_)
  refine CallR.of (Weight_ok d t r 3000 hv (by omega) (by omega) h) ?_
  rintro _ w ⟨⟨n, rfl, h1, h2, h3⟩, h⟩
  refine ⟨_, rfl, ?_⟩
  by_cases hn : n ≤ 3000
  · refine ctt (decide_eq_true hn) ?_
    repeat' (first
      | (refine New.at h (fun b w hh => ?_); clear h; have h := hh; clear hh)
      | (refine Drew.of h (fun w hh => ?_); clear h; have h := hh; clear hh)
      | (refine St.at h 0 _ rfl rfl rfl (fun w hh => ?_); clear h; have h := hh; clear hh; simp only [List.set_cons_zero, List.set_cons_succ] at h)
      | refine ⟨_, h.lda 0 _ rfl rfl, ?_⟩
      | refine ⟨_, _, _, h.lda 0 _ rfl rfl, ?_⟩
      | refine ⟨h.lda 0 _ rfl rfl, ?_⟩
      | exact h.lda 0 _ rfl rfl
      | refine ⟨_, rfl, ?_⟩
      | refine ⟨_, _, rfl, ?_⟩
      | refine ⟨_, _, _, rfl, ?_⟩
      | refine ⟨_, _, _, _, _, _, _, _, _, _, _, _, rfl, ?_⟩
      | refine ⟨_, _, _, _, _, _, _, _, _, _, _, _, _, rfl, ?_⟩
      | refine ctt rfl ?_
      | refine cff rfl ?_
      | refine Meet.dup ?_
      | intro j
      | rw [ws]
      | simp only [ws, add_mk]
      | refine And.intro ?_ ?_)
    refine CallR.of (Shallow_ok d t r 60 hv (by omega) h) ?_
    rintro _ w ⟨⟨bb, rfl, hbb⟩, h⟩
    refine ⟨_, rfl, ?_⟩
    intro j
    exact Ret.mk ⟨⟨_, rfl, fun hx => ⟨by have := h3 hn; omega, hbb hx⟩⟩, h.tail⟩
  · refine cff (decide_eq_false hn) ?_
    intro j
    exact Ret.mk ⟨⟨_, rfl, fun hx => by cases hx⟩, h.tail⟩

/-- A row of values. -/
def Vs (G : Gh) (d : Nat) (ts : List VT) (a : Option Addr) (n : Nat) : Prop := n = ts.length ∧ ts.length ≤ big ∧ VsAt G 6 (fun (x : VT) cs => ∃ r' : Vr, cs = r'.cells ∧ VC G d x r') ts a

end
end Go.Proofs.Sw
