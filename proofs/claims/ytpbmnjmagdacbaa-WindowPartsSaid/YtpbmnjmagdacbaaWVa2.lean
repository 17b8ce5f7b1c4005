/- What the reference's May asks: it returns, whatever the value. -/
import Derived.Test.YtpbmnjmagdacbaaWVa1
import Derived.Test.YtpbmnjmagdacbaaSl5
set_option linter.unusedVariables false
set_option linter.unusedSimpArgs false
set_option maxRecDepth 100000
set_option maxHeartbeats 8000000
namespace Go.Proofs.Sw
open Go Go.Eng Go.Eng.HP Go.RowKit Go.Proofs
attribute [local irreducible] St New Drew Prim PrimU CallR CallV CallI CallX Meet Eng.Loop withSome HP.blk HP.mp Calls Holds Ret

/-- A number's bytes, the lowest first. -/
def leb (n : Int) (i : Nat) : UInt8 := ((IntKind.u8.wrap ((IntKind.u64.wrap n).fdiv (2 ^ (8 * i)))).toNat).toUInt8

theorem leb_eq (n : Int) (i : Nat) : IntKind.u8.wrap ((IntKind.u64.wrap n).fdiv (2 ^ (8 * i))) = ((leb n i).toNat : Int) := by
  have := u8v_wrap ((IntKind.u64.wrap n).fdiv (2 ^ (8 * i)))
  unfold u8v at this
  injection this with _ h
  exact h.symm

section
variable {G : Gh} {w : World} {L : List HP}

theorem bare_ok (r : Vr) (b1 b2 b3 b4 b5 : Bool) (h : Holds G w (all L)) : Calls pg f_aqueductref5_bare #[r.val, .bool b1, .bool b2, .bool b3, .bool b4, .bool b5] w (Ret fun v w' => (∃ bb : Bool, v = .bool bb) ∧ Holds G w' (all L)) := by
  apply of_aqueductref5_bare
  unfold c_aqueductref5_bare
  refine New.at h (fun b0 w h => ?_)
  refine Meet.mk (fun _ w => Holds G w (all (blk b0 t_api_Value r.cells :: L))) ?_ (fun s w h j => Ret.mk ⟨⟨_, rfl⟩, h.tail⟩)
  repeat' (first
    | exact h
    | refine cif (fun _ => ?_) (fun _ => ?_)
    | refine ⟨_, h.lda 0 1 rfl rfl, ?_⟩
    | refine ⟨_, h.lda 0 2 rfl rfl, ?_⟩
    | refine ⟨_, _, _, h.lda 0 3 rfl rfl, ?_⟩
    | refine ⟨_, _, _, h.lda 0 4 rfl rfl, ?_⟩
    | refine ⟨_, _, _, h.lda 0 5 rfl rfl, ?_⟩)

theorem num_ok (n : Int) (width : Nat) (h8 : width ≤ 8) (h : Holds G w (all L)) :
    Calls pg f_aqueductref5_num #[.int .i64 n, .int .i64 (width : Int)] w (Ret fun v w' => ∃ a c, v = .slice a ((List.range width).map (leb n)).length c ∧ Holds G w' (all (byt t_uint8 a c ((List.range width).map (leb n)) :: L))) := by
  apply of_aqueductref5_num
  unfold c_aqueductref5_num
  refine Loop.inv (I := fun s' w => ∃ (i : Nat) (a : Option Addr) (c : Nat), s' = ((a, ((List.range i).map (leb n)).length, c), (i : Int)) ∧ i ≤ width ∧ Holds G w (all (byt t_uint8 a c ((List.range i).map (leb n)) :: L)))
    (fun s' _ => width - s'.2.toNat) ?_ ⟨0, none, 0, rfl, Nat.zero_le _, h.own_nil⟩
  clear h
  rintro X s' w ⟨i, a, c, rfl, hi, h⟩ hX
  intro j
  dsimp only
  by_cases hi' : i < width
  · refine ctt (decide_eq_true (by omega)) ?_
    have e1 : IntKind.u64.wrap (IntKind.i64.wrap ((8 : Int) * (i : Int))) = ((8 * i : Nat) : Int) := by
      rw [wrap64_id ⟨by omega, by omega⟩, wrapu64_id (by omega) (by omega)]
      omega
    rw [e1]
    refine cff (decide_eq_false (by omega)) ?_
    have e2 : min ((8 * i : Nat) : Int).toNat IntKind.u64.bits = 8 * i := by
      rw [Int.toNat_natCast]
      exact Nat.min_eq_left (by show 8 * i ≤ 64; omega)
    rw [e2, leb_eq]
    refine New.at h (fun b4 w h => ?_)
    refine append_b tok rfl (.inl ⟨_, rfl⟩) rfl rfl rfl rfl rfl h 1 rfl (src1 h 0 rfl) (by simp; omega) (fun a' c' w h => ?_)
    refine ⟨_, _, _, rfl, ?_⟩
    rw [wrap64_id (x := (i : Int) + 1) ⟨by omega, by omega⟩]
    have e3 : (List.range i).map (leb n) ++ [leb n i] = (List.range (i + 1)).map (leb n) := by rw [List.range_succ, List.map_append]; rfl
    rw [e3] at h ⊢
    exact hX _ _ ⟨i + 1, a', c', rfl, by omega, h.skip⟩ (by dsimp only; omega)
  · refine cff (decide_eq_false (by omega)) ?_
    obtain rfl : i = width := by omega
    exact Ret.mk ⟨a, c, rfl, h⟩

theorem code_ok (k : Int) (h : Holds G w (all L)) : Calls pg f_aqueductref5_code #[.int .i64 k] w (Ret fun v w' => ∃ c : UInt8, v = .int .u8 (c.toNat : Int) ∧ Holds G w' (all L)) := by
  apply of_aqueductref5_code
  unfold c_aqueductref5_code
  repeat' (first
    | exact Ret.mk ⟨255, rfl, h⟩ | exact Ret.mk ⟨10, rfl, h⟩ | exact Ret.mk ⟨16, rfl, h⟩ | exact Ret.mk ⟨18, rfl, h⟩ | exact Ret.mk ⟨2, rfl, h⟩ | exact Ret.mk ⟨3, rfl, h⟩ | exact Ret.mk ⟨4, rfl, h⟩ | exact Ret.mk ⟨5, rfl, h⟩
    | exact Ret.mk ⟨7, rfl, h⟩ | exact Ret.mk ⟨8, rfl, h⟩ | exact Ret.mk ⟨9, rfl, h⟩ | exact Ret.mk ⟨127, rfl, h⟩ | exact Ret.mk ⟨0, rfl, h⟩
    | refine cif (fun _ => ?_) (fun _ => ?_))

theorem digits_ok (n : Nat) (hn : n < 100000) (h : Holds G w (all L)) : Calls pg f_aqueductref5_digits #[.int .i64 (n : Int)] w (Ret fun v w' => ∃ s : ByteArray, v = .string s ∧ s.size ≤ 20 ∧ Holds G w' (all L)) := by
  apply of_aqueductref5_digits
  unfold c_aqueductref5_digits
  refine Loop.inv (I := fun s' w => ∃ (m k : Nat) (s : ByteArray), s' = (s, (m : Int)) ∧ m < 10 ^ k ∧ k ≤ 5 ∧ s.size + k ≤ 6 ∧ (k = 0 → s.size ≤ 5) ∧ Holds G w (all L)) (fun s' _ => s'.2.toNat) ?_ ⟨n, 5, _, rfl, hn, by omega, by decide, by omega, h⟩
  clear h
  rintro X s' w ⟨m, k, s, rfl, hm, hk, hs, hk0, h⟩ hX
  intro j
  dsimp only
  refine cff rfl ?_
  refine New.at h (fun b4 w h => ?_)
  refine str_blk tok rfl rfl rfl h 0 (l := [(IntKind.u8.wrap ((48 : Int) + (IntKind.u8.wrap (((m : Int)).tmod (10 : Int))))).toNat.toUInt8]) (by rw [List.map_cons, List.map_nil, u8v_wrap]; rfl) rfl ?_
  refine ⟨_, rfl, ?_⟩
  have hsz : ((⟨[(IntKind.u8.wrap ((48 : Int) + (IntKind.u8.wrap (((m : Int)).tmod (10 : Int))))).toNat.toUInt8].toArray⟩ : ByteArray) ++ s).size = 1 + s.size := by
    rw [ByteArray.size_append]
    rfl
  refine ⟨?_, ?_⟩
  · show 1 + s.size ≤ _
    omega
  refine cff rfl ?_
  have e1 : IntKind.i64.wrap ((m : Int).tdiv 10) = ((m / 10 : Nat) : Int) := by
    have : (m : Int).tdiv 10 = ((m / 10 : Nat) : Int) := by
      rw [Int.tdiv_eq_ediv_of_nonneg (by omega)]
      omega
    have hm5 : m < 100000 := Nat.lt_of_lt_of_le hm (Nat.pow_le_pow_right (by decide) hk)
    rw [this, wrap64_id ⟨by omega, by omega⟩]
  rw [e1]
  by_cases h0 : m / 10 = 0
  · refine ctt (by simp [h0]) ?_
    refine Ret.mk ⟨_, rfl, ?_, h.tail⟩
    rw [hsz]
    omega
  · refine cff (by simp; omega) ?_
    cases k with
    | zero => simp at hm; omega
    | succ k =>
      refine hX _ _ ⟨m / 10, k, _, rfl, ?_, by omega, by rw [hsz]; omega, fun hk => ?_, h.tail⟩ (by dsimp only; omega)
      · rw [Nat.pow_succ] at hm
        omega
      · rw [hsz]
        subst hk
        simp at hm
        omega

theorem Utf8_ok (s : ByteArray) (hs : s.size ≤ big) (h : Holds G w (all L)) : Calls pg f_aqueductref5_Utf8 #[.string s] w (Ret fun v w' => ∃ bb : Bool, v = .bool bb ∧ Holds G w' (all L)) := by
  unfold big at hs
  apply of_aqueductref5_Utf8
  unfold c_aqueductref5_Utf8
  refine Loop.inv (I := fun s' w => ∃ (i : Nat) (u : Bool), s' = (u, (i : Int)) ∧ i ≤ s.size ∧ Holds G w (all L)) (fun s' _ => s.size - s'.2.toNat) ?_ ⟨0, _, rfl, Nat.zero_le _, h⟩
  clear h
  rintro X s' w ⟨i, u, rfl, hi, h⟩ hX
  intro j
  dsimp only
  by_cases hi' : i < s.size
  · refine ctt (decide_eq_true (by omega)) ?_
    refine ⟨⟨by omega, by omega⟩, ?_⟩
    refine Meet.mk (fun s' w => s'.1 = (i : Int) ∧ 1 ≤ s'.2.1 ∧ s'.2.1 ≤ 3 ∧ Holds G w (all L)) ?_ ?_
    · refine cif (fun _ => ?_) (fun _ => ?_)
      · rw [wrap64_id (x := (i : Int) + 1) ⟨by omega, by omega⟩]
        exact hX _ _ ⟨i + 1, u, rfl, by omega, h⟩ (by dsimp only; omega)
      repeat' (first
        | exact ⟨rfl, (show (1 : Int) ≤ 1 by decide), (show (1 : Int) ≤ 3 by decide), h⟩
        | exact ⟨rfl, (show (1 : Int) ≤ 2 by decide), (show (2 : Int) ≤ 3 by decide), h⟩
        | exact ⟨rfl, (show (1 : Int) ≤ 3 by decide), (show (3 : Int) ≤ 3 by decide), h⟩
        | exact Ret.mk ⟨_, rfl, h⟩
        | exact h
        | refine cif (fun _ => ?_) (fun _ => ?_)
        | refine Meet.mk (fun _ w => Holds G w (all L)) ?_ ?_
        | intro s2 w h j)
    · rintro ⟨at_, n, lo, hi2, u2⟩ w ⟨h1, h2, h3, h⟩
      simp only at h1 h2 h3
      subst h1
      intro j
      dsimp only
      have e1 : IntKind.i64.wrap (IntKind.i64.wrap ((s.size : Int) - (i : Int)) - 1) = (s.size : Int) - i - 1 := by rw [wrap64_id (x := (s.size : Int) - i) ⟨by omega, by omega⟩, wrap64_id ⟨by omega, by omega⟩]
      have e2 : IntKind.i64.wrap ((i : Int) + 1) = (i : Int) + 1 := wrap64_id ⟨by omega, by omega⟩
      rw [e1, e2]
      refine Meet.mk (fun b w => (b = false → n ≤ (s.size : Int) - i - 1) ∧ Holds G w (all L)) ?_ ?_
      · by_cases hn : (s.size : Int) - i - 1 < n
        · refine ctt (decide_eq_true hn) ?_
          exact ⟨(fun hx => by cases hx), h⟩
        · refine cff (decide_eq_false hn) ?_
          have hb : 0 ≤ (i : Int) + 1 ∧ (i : Int) + 1 < (s.size : Int) := ⟨by omega, by omega⟩
          refine ⟨hb, ?_⟩
          refine cif (fun _ => ?_) (fun _ => ?_)
          · exact ⟨(fun hx => by cases hx), h⟩
          · exact ⟨hb, (fun _ => by omega), h⟩
      · rintro b w ⟨hb, h⟩ j
        cases b with
        | true => exact Ret.mk ⟨_, rfl, h⟩
        | false =>
          have hn := hb rfl
          refine cff rfl ?_
          refine Loop.inv (I := fun s' w => ∃ (k : Nat) (u : Bool), s' = (u, (k : Int)) ∧ 2 ≤ k ∧ Holds G w (all L)) (fun s' _ => 4 - s'.2.toNat) ?_ ⟨2, _, rfl, Nat.le_refl _, h⟩
          clear h
          rintro Y s' w ⟨k, u, rfl, hk, h⟩ hY
          intro j
          dsimp only
          by_cases hkn : (k : Int) ≤ n
          · refine ctt (decide_eq_true hkn) ?_
            have e3 : IntKind.i64.wrap ((i : Int) + (k : Int)) = (i : Int) + k := wrap64_id ⟨by omega, by omega⟩
            rw [e3]
            refine ⟨⟨by omega, by omega⟩, ?_⟩
            refine cif (fun _ => ?_) (fun _ => ?_)
            · exact Ret.mk ⟨_, rfl, h⟩
            · rw [wrap64_id (x := (k : Int) + 1) ⟨by omega, by omega⟩]
              exact hY _ _ ⟨k + 1, u, rfl, by omega, h⟩ (by dsimp only; omega)
          · refine cff (decide_eq_false hkn) ?_
            have e4 : IntKind.i64.wrap (IntKind.i64.wrap ((i : Int) + n) + 1) = ((i + n.toNat + 1 : Nat) : Int) := by
              rw [wrap64_id (x := (i : Int) + n) ⟨by omega, by omega⟩, wrap64_id ⟨by omega, by omega⟩]
              omega
            rw [e4]
            exact hX _ _ ⟨i + n.toNat + 1, u, rfl, by omega, h⟩ (by dsimp only; omega)
  · refine cff (decide_eq_false (by omega)) ?_
    exact Ret.mk ⟨_, rfl, h⟩

theorem NameMay_ok (s : ByteArray) (hs : s.size ≤ big) (h : Holds G w (all L)) : Calls pg f_aqueductref5_NameMay #[.string s] w (Ret fun v w' => ∃ bb : Bool, v = .bool bb ∧ (bb = true → s.size ≤ 120) ∧ Holds G w' (all L)) := by
  have hs' := hs
  unfold big at hs'
  apply of_aqueductref5_NameMay
  unfold c_aqueductref5_NameMay
  refine Loop.inv (I := fun s' w => ∃ (i : Nat) (u : Bool), s' = (u, (i : Int)) ∧ i ≤ s.size ∧ Holds G w (all L)) (fun s' _ => s.size - s'.2.toNat) ?_ ⟨0, _, rfl, Nat.zero_le _, h⟩
  clear h
  rintro X s' w ⟨i, u, rfl, hi, h⟩ hX
  intro j
  dsimp only
  by_cases hi' : i < s.size
  · refine ctt (decide_eq_true (by omega)) ?_
    refine ⟨⟨by omega, by omega⟩, ?_⟩
    refine cif (fun _ => ?_) (fun _ => ?_)
    · exact Ret.mk ⟨_, rfl, (fun hx => by cases hx), h⟩
    · rw [wrap64_id (x := (i : Int) + 1) ⟨by omega, by omega⟩]
      exact hX _ _ ⟨i + 1, u, rfl, by omega, h⟩ (by dsimp only; omega)
  · refine cff (decide_eq_false (by omega)) ?_
    refine Meet.dup ?_
    by_cases h120 : s.size ≤ 120
    · refine ctt (decide_eq_true (by omega)) ?_
      refine CallR.of (Utf8_ok s hs h) ?_
      rintro _ w ⟨bb, rfl, h⟩
      refine ⟨_, rfl, ?_⟩
      intro j
      exact Ret.mk ⟨_, rfl, fun _ => h120, h⟩
    · refine cff (decide_eq_false (by omega)) ?_
      intro j
      exact Ret.mk ⟨_, rfl, (fun hx => by cases hx), h⟩

end
end Go.Proofs.Sw
