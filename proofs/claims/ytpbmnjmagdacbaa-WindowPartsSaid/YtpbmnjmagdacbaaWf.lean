/- The law WindowBrings, walked. -/
import Derived.Test.YtpbmnjmagdacbaaWe
set_option linter.unusedVariables false
set_option linter.unusedSimpArgs false
set_option maxRecDepth 100000
set_option maxHeartbeats 20000000
namespace Go.Proofs.Sw
open Go Go.Eng Go.Eng.HP Go.RowKit Go.Proofs
attribute [local irreducible] St New Drew Prim PrimU CallR CallV CallI CallX Meet Eng.Loop withSome HP.blk HP.mp Calls Holds Ret

theorem cs_no {l m : List UInt8} {A B : Prop} (h : (l == m) = false) (hB : B) : cond ((⟨l.toArray⟩ : ByteArray).toList == (⟨m.toArray⟩ : ByteArray).toList) A B := by
  rw [str_eq]
  exact cff h hB
theorem cs_yes {l m : List UInt8} {A B : Prop} (h : (l == m) = true) (hA : A) : cond ((⟨l.toArray⟩ : ByteArray).toList == (⟨m.toArray⟩ : ByteArray).toList) A B := by
  rw [str_eq]
  exact ctt h hA
theorem cs_eq {l m : List UInt8} : ((⟨l.toArray⟩ : ByteArray).toList == (⟨m.toArray⟩ : ByteArray).toList) = (l == m) := str_eq l m

section
variable {G : Gh} {w : World} {L : List HP}

theorem Vs.take {d : Nat} {l : List VT} {a : Option Addr} {n : Nat} (h : Vs G d l a n) (k : Nat) (hk : k ≤ l.length) : Vs G d (l.take k) a k := by
  obtain ⟨h1, h2, h3⟩ := h
  have e : (l.take k).length = k := by rw [List.length_take]; omega
  refine ⟨e.symm, by omega, fun i t hi => ?_⟩
  rw [List.getElem?_take] at hi
  split at hi
  · exact h3 i t hi
  · cases hi

theorem Vs.drop {d : Nat} {l : List VT} {a : Option Addr} {n : Nat} (h : Vs G d l a n) (k : Nat) (hk : k ≤ l.length) : Vs G d (l.drop k) (a.map (·.add (k * 6))) (n - k) := by
  obtain ⟨rfl, h2, h3⟩ := h
  have e : (l.drop k).length = l.length - k := by rw [List.length_drop]
  refine ⟨e.symm, by omega, fun i t hi => ?_⟩
  rw [List.getElem?_drop] at hi
  obtain ⟨b, off, cs, ha, h4, h5, h6⟩ := h3 _ t hi
  refine ⟨b, off + k * 6, cs, by rw [ha, Option.map_some, add_mk], h4, h5, fun j v hj => ?_⟩
  have := h6 j v hj
  rw [Nat.add_mul] at this
  have e2 : off + k * 6 + i * 6 + j = off + (k * 6 + i * 6) + j := by omega
  rw [e2]
  exact this

theorem Vs.none' {d : Nat} : Vs G d [] none 0 := ⟨rfl, Nat.zero_le _, VsAt.nil⟩

theorem stage_limit {d : Nat} {l : List VT} {a : Option Addr} {n c : Nat} {e : Int} {N : Nat} (hv : Vs G d l a n) (hc : n ≤ c) (h : Holds G w (all L)) :
    Calls pg f_aqueductref16_Stage #[.string ⟨#[36, 108, 105, 109, 105, 116]⟩, (⟨4, N, em, none, 0, 0, none, 0, 0, none, 0, 0⟩ : Vr).val, .slice a n c, .int .i64 e, .slice none 0 0] w
      (Ret fun v w' => ∃ a' n' c', v = .tuple #[.slice a' n' c', .int .i64 (if N ≤ l.length then 0 else e)] ∧ Vs G d (l.take N) a' n' ∧ Holds G w' (all L)) := by
  have hn := hv.1
  apply of_aqueductref16_Stage
  unfold c_aqueductref16_Stage
  refine New.at h (fun b0 w h => ?_)
  refine cs_yes (by decide) ?_
  refine ⟨_, h.lda 0 1 rfl rfl, ?_⟩
  by_cases hN : N ≤ l.length
  · refine ctt (decide_eq_true (by show ((n : Nat) : Int) ≥ (N : Int); omega)) ?_
    refine ⟨_, h.lda 0 1 rfl rfl, ?_⟩
    refine And.intro ⟨by show (0 : Int) ≤ (N : Int); omega, by show (N : Int) ≤ ((c : Nat) : Int); omega⟩ ?_
    rw [if_pos hN]
    exact Ret.mk ⟨a, _, c, rfl, hv.take N hN, h.tail⟩
  · refine cff (decide_eq_false (by show ¬ ((n : Nat) : Int) ≥ (N : Int); omega)) ?_
    rw [if_neg hN]
    refine Ret.mk ⟨a, n, c, rfl, ?_, h.tail⟩
    rw [List.take_of_length_le (by omega)]
    exact hv

theorem stage_skip {d : Nat} {l : List VT} {a : Option Addr} {n c : Nat} {e : Int} {N : Nat} (hv : Vs G d l a n) (hc : n ≤ c) (h : Holds G w (all L)) :
    Calls pg f_aqueductref16_Stage #[.string ⟨#[36, 115, 107, 105, 112]⟩, (⟨4, N, em, none, 0, 0, none, 0, 0, none, 0, 0⟩ : Vr).val, .slice a n c, .int .i64 e, .slice none 0 0] w
      (Ret fun v w' => ∃ a' n' c', v = .tuple #[.slice a' n' c', .int .i64 e] ∧ Vs G d (l.drop N) a' n' ∧ Holds G w' (all L)) := by
  have hn := hv.1
  apply of_aqueductref16_Stage
  unfold c_aqueductref16_Stage
  refine New.at h (fun b0 w h => ?_)
  refine cs_no (by decide) (cs_yes (by decide) ?_)
  refine ⟨_, h.lda 0 1 rfl rfl, ?_⟩
  by_cases hN : l.length ≤ N
  · refine ctt (decide_eq_true (by show ((n : Nat) : Int) ≤ (N : Int); omega)) ?_
    refine Ret.mk ⟨none, 0, 0, rfl, ?_, h.tail⟩
    rw [List.drop_of_length_le hN]
    exact Vs.none'
  · refine cff (decide_eq_false (by show ¬ ((n : Nat) : Int) ≤ (N : Int); omega)) ?_
    refine ⟨_, h.lda 0 1 rfl rfl, ?_⟩
    refine And.intro ⟨by show (0 : Int) ≤ (N : Int); omega, by show (N : Int) ≤ ((n : Nat) : Int); omega⟩ ?_
    refine Ret.mk ⟨_, _, _, rfl, ?_, h.tail⟩
    have hne : ¬ c = ((N : Nat) : Int).toNat := by rw [Int.toNat_natCast]; omega
    show Vs G d (l.drop N) (if c = ((N : Nat) : Int).toNat then a else a.map (·.add (((N : Nat) : Int).toNat * 6))) (n - ((N : Nat) : Int).toNat)
    rw [if_neg hne, Int.toNat_natCast]
    exact hv.drop N (by omega)

theorem ref5_Of (n : Int) (h0 : 0 ≤ n) (h1 : n < 2147483648) (h : Holds G w (all L)) :
    Calls pg f_aqueductref5_Of #[.int .i64 n] w (Ret fun v w' => v = (⟨3, n, em, none, 0, 0, none, 0, 0, none, 0, 0⟩ : Vr).val ∧ Holds G w' (all L)) := by
  apply of_aqueductref5_Of
  unfold c_aqueductref5_Of
  refine New.at h (fun b0 w h => ?_)
  refine Meet.dup ?_
  refine ctt (decide_eq_true (by omega)) ?_
  intro j
  refine ctt (decide_eq_true h1) ?_
  refine St.at h 0 0 rfl rfl rfl (fun w h => ?_)
  refine St.at h 0 1 rfl rfl rfl (fun w h => ?_)
  refine St.at h 0 2 rfl rfl rfl (fun w h => ?_)
  refine St.at h 0 3 rfl rfl rfl (fun w h => ?_)
  refine St.at h 0 4 rfl rfl rfl (fun w h => ?_)
  refine St.at h 0 5 rfl rfl rfl (fun w h => ?_)
  simp only [List.set_cons_zero, List.set_cons_succ] at h
  refine ⟨_, h.lda 0 0 rfl rfl, _, h.lda 0 1 rfl rfl, _, h.lda 0 2 rfl rfl, _, _, _, h.lda 0 3 rfl rfl, _, _, _, h.lda 0 4 rfl rfl, _, _, _, h.lda 0 5 rfl rfl, ?_⟩
  exact Ret.mk ⟨rfl, h.tail⟩

theorem count_vs {b : Nat} {nm : ByteArray} {n : Int} {b2 : Nat} {d : Nat} (hnm : nm.size ≤ big) (h0 : 0 ≤ n) (h1 : n < 2147483648) (hd : 2 ≤ d)
    (hc : ∀ i v, [Value.string nm, .int .i64 3, .int .i64 n, .string em, .slice none 0 0, .slice none 0 0, .slice none 0 0][i]? = some v → G.cell b i = some v)
    (hc2 : ∀ i v, [Value.int .i64 6, .int .i64 0, .string em, .slice none 0 0, .slice (some ⟨b, 0, none⟩) 1 1, .slice none 0 0][i]? = some v → G.cell b2 i = some v) : Vs G d [countDoc nm n] (some ⟨b2, 0, none⟩) 1 := by
  obtain ⟨d, rfl⟩ : ∃ m, d = m + 2 := ⟨d - 2, by omega⟩
  refine ⟨rfl, (show 1 ≤ big by decide), fun i t hi => ?_⟩
  cases i with
  | succ i => simp at hi
  | zero =>
    simp only [List.getElem?_cons_zero, Option.some.injEq] at hi
    subst hi
    refine ⟨b2, 0, _, rfl, ⟨⟨6, 0, em, none, 0, 0, some ⟨b, 0, none⟩, 1, 1, none, 0, 0⟩, rfl, ?_⟩, rfl, fun j v hj => ?_⟩
    · refine ⟨rfl, rfl, rfl, Bs.nil, rfl, rfl, ?_, VsAt.nil, ⟨by omega, by omega⟩, ⟨by omega, by omega⟩, by decide, by decide, (show 1 ≤ big by decide), by decide⟩
      intro i t hi
      cases i with
      | succ i => simp at hi
      | zero =>
        simp only [List.getElem?_cons_zero, Option.some.injEq] at hi
        subst hi
        refine ⟨b, 0, _, rfl, ⟨⟨3, n, em, none, 0, 0, none, 0, 0, none, 0, 0⟩, rfl, hnm, ?_⟩, rfl, fun j v hj => ?_⟩
        · exact ⟨rfl, rfl, rfl, Bs.nil, rfl, rfl, VsAt.nil, VsAt.nil, ⟨by omega, by omega⟩, ⟨by omega, by omega⟩, by decide, by decide, by decide, by decide⟩
        · rw [Nat.zero_mul, Nat.add_zero, Nat.zero_add]
          exact hc j v hj
    · rw [Nat.zero_mul, Nat.add_zero, Nat.zero_add]
      exact hc2 j v hj

theorem stage_count {l : List VT} {a : Option Addr} {n c d : Nat} {e : Int} {nm : ByteArray} (hnm : nm.size ≤ big) (hl : l.length ≤ 1000000) (hv : Vs G d l a n) (h : Holds G w (all L)) :
    Calls pg f_aqueductref16_Stage #[.string ⟨#[36, 99, 111, 117, 110, 116]⟩, (⟨5, 0, nm, none, 0, 0, none, 0, 0, none, 0, 0⟩ : Vr).val, .slice a n c, .int .i64 e, .slice none 0 0] w
      (Ret fun v w' => ∃ a' n' c' G', v = .tuple #[.slice a' n' c', .int .i64 (SS.cnt nm 0 (.row l e)).out.2] ∧ G ≤ G' ∧ Vs G' DD (SS.cnt nm 0 (.row l e)).out.1 a' n' ∧ Holds G' w' (all L)) := by
  obtain ⟨rfl, _, _⟩ := hv
  rw [out_cnt _ _ (out_row l e)]
  apply of_aqueductref16_Stage
  unfold c_aqueductref16_Stage
  refine New.at h (fun b0 w h => ?_)
  refine cs_no (by decide) (cs_no (by decide) (cs_no (by decide) ?_))
  refine Meet.dup ?_
  refine cs_no (by decide) (cs_no (by decide) (cs_no (by decide) (cs_no (by decide) (cs_no (by decide) (cs_no (by decide) (cs_no (by decide) ?_))))))
  intro j
  refine cff (cs_eq.trans (by decide)) ?_
  by_cases he : e = 0
  · subst he
    refine cff rfl ?_
    refine cs_yes (by decide) ?_
    rw [if_pos rfl]
    by_cases hl0 : l.length = 0
    · refine ctt (beq_ok (by omega)) ?_
      rw [if_neg (by omega)]
      exact Ret.mk ⟨none, 0, 0, G, rfl, Gh.refl G, Vs.nil, h.tail⟩
    · refine cff (beq_no (by omega)) ?_
      rw [if_pos (by omega), Int.zero_add]
      refine Drew.of h (fun w h => ?_)
      refine ⟨_, h.lda 0 2 rfl rfl, ?_⟩
      refine CallR.of (ref5_Of _ (by omega) (by omega) h) ?_
      rintro _ w ⟨rfl, h⟩
      refine ⟨_, _, _, _, _, _, _, _, _, _, _, _, rfl, ?_⟩
      refine ⟨h.lda 0 2 rfl rfl, ?_⟩
      refine New.at h (fun b1 w h => ?_)
      refine New.at h (fun b2 w h => ?_)
      obtain ⟨G1, hG1, hc2, h⟩ := Holds.blk_freeze h
      obtain ⟨G2, hG2, hc1, h⟩ := Holds.blk_freeze h
      exact Ret.mk ⟨some ⟨b2, 0, none⟩, 1, 1, G2, rfl, Gh.trans hG1 hG2, count_vs hnm (by omega) (by omega) (by decide) (fun i v hv => (hc1 i).trans hv) (fun i v hv => Gh.cell_mono hG2 ((hc2 i).trans hv)), h.tail⟩
  · refine ctt (b2_ne he) ?_
    rw [if_neg he]
    exact Ret.mk ⟨none, 0, 0, G, rfl, Gh.refl G, Vs.nil, h.tail⟩

theorem Told_ok2 {G0 : Gh} (hG0 : G0 ≤ G) {s : SS} {v : Value} {m : Int} (hm : (s.out.1.length : Int) ≤ m) (hl : s.out.1.length ≤ 1000000) (h : Holds G w (all (Own G0 s v :: L))) :
    Calls pg f_aqueductlaw17_Told #[v, .int .i64 m] w (Ret fun r w' => ∃ a c s' G', r = .tuple #[.slice a s.out.1.length c, .int .i64 s.out.2] ∧ Vs G' DD s.out.1 a s.out.1.length ∧ s.out.1.length ≤ c ∧ s'.out = ([], 0) ∧ G ≤ G' ∧ Holds G' w' (all (Own G' s' v :: L))) :=
  Told_ok hm hl (Holds.hmap h (Own.mono hG0 s v))

theorem Ends_ok2 {G0 : Gh} (hG0 : G0 ≤ G) {s : SS} {v : Value} (hs : s.out = ([], 0)) (h : Holds G w (all (Own G0 s v :: L))) :
    Calls pg f_aqueductlaw17_Ends #[v] w (Ret fun r w' => r = .bool true ∧ ∃ G', G ≤ G' ∧ Holds G' w' (all L)) := Ends_ok hs (Holds.hmap h (Own.mono hG0 s v))

theorem brings_walk {l : List VT} {a : Option Addr} {n c d : Nat} {k e : Int} (hk : in64 k) (he : 0 ≤ e ∧ e < 256) (hc : n ≤ c) (hv0 : Vs G d l a n) (h : Holds G w (all L)) :
    Calls pg f_aqueductlaw20_WindowBrings #[.slice a n c, .int .i64 k, .int .u8 e] w (Ret fun v w' => v = .bool true ∧ ∃ G', G ≤ G' ∧ Holds G' w' (all L)) := by
  have hnm : (⟨#[110]⟩ : ByteArray).size ≤ big := by decide
  apply of_aqueductlaw20_WindowBrings
  unfold c_aqueductlaw20_WindowBrings
  refine CallR.of (awake h) ?_
  rintro _ w ⟨rfl, Ga, hGa, h⟩
  refine ⟨_, rfl, cff rfl ?_⟩
  refine CallR.of (Docs_ok (hv0.mono hGa (Nat.le_refl _)) h) ?_
  rintro _ w ⟨bb, Gb, rfl, hbb, hGb, h⟩
  refine ⟨_, rfl, ?_⟩
  cases bb with
  | false => exact ctt rfl (Ret.mk ⟨rfl, Gb, Gh.trans hGa hGb, h⟩)
  | true =>
  refine cff rfl ?_
  obtain ⟨h30, hv, hwt⟩ := hbb rfl
  replace hwt : ∀ t ∈ l, wt 61 t ≤ 100000000 := fun t ht => Nat.le_trans (hwt t ht) (by decide)
  obtain rfl : n = l.length := hv.1
  clear hbb hv0
  have hl30 : l.length ≤ 30 := by omega
  refine cff rfl ?_
  generalize IntKind.i64.wrap (e.tmod 22) = bad
  refine New.at h (fun b6 w h => ?_)
  refine St.at h 0 0 rfl rfl rfl (fun w h => ?_)
  refine St.at h 0 1 rfl rfl rfl (fun w h => ?_)
  refine St.at h 0 2 rfl rfl rfl (fun w h => ?_)
  refine St.at h 0 3 rfl rfl rfl (fun w h => ?_)
  refine St.at h 0 4 rfl rfl rfl (fun w h => ?_)
  refine St.at h 0 5 rfl rfl rfl (fun w h => ?_)
  simp only [List.set_cons_zero, List.set_cons_succ] at h
  have ek : (if (0 : Int) > k then (0 : Int) else k) = ((k.toNat : Nat) : Int) := by split <;> omega
  rw [ek] at h
  refine CallR.of (Of_ok (by decide) hv hwt (by omega) h) ?_; rintro r1 w ⟨G1, hG1, h⟩; refine ⟨_, rfl, ?_⟩
  refine CallR.of (Limit_ok hk h) ?_; rintro v1 w h; refine ⟨_, rfl, ?_⟩
  refine CallR.of (Of_ok (by decide) (hv.mono hG1 (Nat.le_refl _)) hwt (by omega) h) ?_; rintro r2 w ⟨G2, hG2, h⟩; refine ⟨_, rfl, ?_⟩
  refine CallR.of (Skip_ok hk h) ?_; rintro v2 w h; refine ⟨_, rfl, ?_⟩
  refine CallR.of (Of_ok (by decide) (hv.mono (Gh.trans hG1 hG2) (Nat.le_refl _)) hwt (by omega) h) ?_; rintro r3 w ⟨G3, hG3, h⟩; refine ⟨_, rfl, ?_⟩
  refine CallR.of (Count_ok (by simp only [SS.out]; omega) hnm h) ?_; rintro v3 w h; refine ⟨_, rfl, ?_⟩
  have o1 : (SS.lim k (.row l bad)).out = (l.take k.toNat, if k.toNat ≤ l.length then 0 else bad) := out_lim _ (out_row l bad)
  have o2 : (SS.skp k (.row l bad)).out = (l.drop k.toNat, bad) := out_skp _ (out_row l bad)
  have o3 : (SS.cnt ⟨#[110]⟩ 0 (.row l bad)).out.1.length ≤ 1 := by
    rw [out_cnt _ _ (out_row l bad)]
    split
    · split <;> simp
    · simp
  refine CallR.of (Told_ok2 (Gh.trans hG2 hG3) (by rw [o1]; simp only [List.length_take]; omega) (by rw [o1]; simp only [List.length_take]; omega) (h.bring 2 rfl)) ?_
  rintro _ w ⟨a1, c1, s1, G4, rfl, hx, hc1, hs1, hG4, h⟩
  refine ⟨_, _, _, _, rfl, ?_⟩
  simp only [List.eraseIdx_cons_zero, List.eraseIdx_cons_succ] at h
  refine ⟨_, h.lda 3 0 rfl rfl, _, h.lda 3 1 rfl rfl, _, h.lda 3 2 rfl rfl, _, _, _, h.lda 3 3 rfl rfl, _, _, _, h.lda 3 4 rfl rfl, _, _, _, h.lda 3 5 rfl rfl, ?_⟩
  have hG14 := Gh.trans hG1 (Gh.trans hG2 (Gh.trans hG3 hG4))
  refine CallR.of (stage_limit (hv.mono hG14 (Nat.le_refl _)) hc h) ?_
  rintro _ w ⟨a2, n2, c2, rfl, hy, h⟩
  refine ⟨_, _, _, _, rfl, ?_⟩
  refine Meet.mk (fun s w => Vs G4 DD (l.take k.toNat) s.1.1 s.1.2.1 ∧ s.2 = (if k.toNat ≤ l.length then 0 else bad) ∧ Holds G4 w (all (Own G4 s1 v1 :: Own G3 (.cnt ⟨#[110]⟩ 0 (.row l bad)) v3 :: Own G2 (.skp k (.row l bad)) v2 :: blk b6 t_api_Value [.int .i64 4, .int .i64 (k.toNat : Int), .string em, .slice none 0 0, .slice none 0 0, .slice none 0 0] :: L))) ?_ ?_
  · by_cases hk1 : k < 1
    · refine ctt (decide_eq_true hk1) ?_
      have h0 : k.toNat = 0 := by omega
      refine ⟨?_, ?_, h⟩
      · rw [h0]
        exact Vs.nil
      · rw [h0, if_pos (Nat.zero_le _)]
    · refine cff (decide_eq_false hk1) ?_
      exact ⟨hy.mono (Gh.refl _) (by decide), rfl, h⟩
  clear h hy
  rintro ⟨⟨ya, yn, yc⟩, ye⟩ w ⟨hy, hye, h⟩ j
  simp only at hy hye
  subst hye
  refine CallR.of (Told_ok2 (Gh.trans hG3 hG4) (by rw [o2]; simp only [List.length_drop]; omega) (by rw [o2]; simp only [List.length_drop]; omega) (h.bring 2 rfl)) ?_
  rintro _ w ⟨a3, c3, s2, G5, rfl, hz, hc3, hs2, hG5, h⟩
  refine ⟨_, _, _, _, rfl, ?_⟩
  simp only [List.eraseIdx_cons_zero, List.eraseIdx_cons_succ] at h
  refine ⟨_, h.lda 3 0 rfl rfl, _, h.lda 3 1 rfl rfl, _, h.lda 3 2 rfl rfl, _, _, _, h.lda 3 3 rfl rfl, _, _, _, h.lda 3 4 rfl rfl, _, _, _, h.lda 3 5 rfl rfl, ?_⟩
  have hG15 := Gh.trans hG14 hG5
  refine CallR.of (stage_skip (hv.mono hG15 (Nat.le_refl _)) hc h) ?_
  rintro _ w ⟨a4, n4, c4, rfl, hu, h⟩
  refine ⟨_, _, _, _, rfl, ?_⟩
  refine Meet.mk (fun s w => Vs G5 DD (l.drop k.toNat) s.1.1 s.1.2.1 ∧ s.2 = bad ∧ Holds G5 w (all (Own G5 s2 v2 :: Own G4 s1 v1 :: Own G3 (.cnt ⟨#[110]⟩ 0 (.row l bad)) v3 :: blk b6 t_api_Value [.int .i64 4, .int .i64 (k.toNat : Int), .string em, .slice none 0 0, .slice none 0 0, .slice none 0 0] :: L))) ?_ ?_
  · by_cases hk1 : k < 1
    · refine ctt (decide_eq_true hk1) ?_
      have h0 : k.toNat = 0 := by omega
      refine ⟨?_, rfl, h⟩
      rw [h0]
      exact hv.mono hG15 (by decide)
    · refine cff (decide_eq_false hk1) ?_
      exact ⟨hu.mono (Gh.refl _) (by decide), rfl, h⟩
  clear h hu
  rintro ⟨⟨ua, un, uc⟩, ue⟩ w ⟨hu, hue, h⟩ j
  simp only at hu hue
  subst hue
  refine CallR.of (Told_ok2 (Gh.trans hG4 hG5) (by omega) (by omega) (h.bring 2 rfl)) ?_
  rintro _ w ⟨a5, c5, s3, G6, rfl, ht, hc5, hs3, hG6, h⟩
  refine ⟨_, _, _, _, rfl, ?_⟩
  simp only [List.eraseIdx_cons_zero, List.eraseIdx_cons_succ] at h
  have hG16 := Gh.trans hG15 hG6
  refine CallR.of (stage_count hnm (by omega) (hv.mono hG16 (Nat.le_refl _)) h) ?_
  rintro _ w ⟨a6, n6, c6, G7, rfl, hG7, hq, h⟩
  refine ⟨_, _, _, _, rfl, ?_⟩
  have hG57 := Gh.trans hG6 hG7
  rw [o1, o2]
  rw [o1] at hx
  rw [o2] at hz
  refine Meet.mk (fun b w => b = true ∧ ∃ G', G ≤ G' ∧ Holds G' w (all L)) ?_ (fun b w ⟨hb, h⟩ j => by subst hb; exact Ret.mk ⟨rfl, h⟩)
  refine CallR.of (SameAll_ok (hx.mono (Gh.trans hG5 hG57) (Nat.le_refl _)) (hy.mono (Gh.trans hG5 hG57) (Nat.le_refl _)) h) ?_
  rintro _ w ⟨rfl, h⟩
  refine ⟨_, rfl, ctt rfl (ctt (beq_ok rfl) ?_)⟩
  refine CallR.of (SameAll_ok (hz.mono hG57 (Nat.le_refl _)) (hu.mono hG57 (Nat.le_refl _)) h) ?_
  rintro _ w ⟨rfl, h⟩
  refine ⟨_, rfl, ctt rfl (ctt (beq_ok rfl) ?_)⟩
  refine CallR.of (SameAll_ok (ht.mono hG7 (Nat.le_refl _)) hq h) ?_
  rintro _ w ⟨rfl, h⟩
  refine ⟨_, rfl, ctt rfl (ctt (beq_ok rfl) ?_)⟩
  refine CallR.of (Ends_ok2 (Gh.trans hG5 hG57) hs1 (h.bring 2 rfl)) ?_
  rintro _ w ⟨rfl, G8, hG8, h⟩
  refine ⟨_, rfl, ctt rfl ?_⟩
  simp only [List.eraseIdx_cons_zero, List.eraseIdx_cons_succ] at h
  refine CallR.of (Ends_ok2 (Gh.trans hG57 hG8) hs2 (h.bring 1 rfl)) ?_
  rintro _ w ⟨rfl, G9, hG9, h⟩
  refine ⟨_, rfl, ctt rfl ?_⟩
  simp only [List.eraseIdx_cons_zero, List.eraseIdx_cons_succ] at h
  refine CallR.of (Ends_ok2 (Gh.trans hG7 (Gh.trans hG8 hG9)) hs3 h) ?_
  rintro _ w ⟨rfl, G10, hG10, h⟩
  refine ⟨_, rfl, ?_⟩
  exact ⟨rfl, G10, Gh.trans hGa (Gh.trans hGb (Gh.trans hG16 (Gh.trans hG7 (Gh.trans hG8 (Gh.trans hG9 hG10))))), h.tail⟩

end
end Go.Proofs.Sw
