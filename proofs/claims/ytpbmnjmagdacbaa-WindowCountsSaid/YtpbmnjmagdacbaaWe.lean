/- The laws of windows, walked: parts, counts. -/
import Derived.Test.YtpbmnjmagdacbaaWd
set_option linter.unusedVariables false
set_option linter.unusedSimpArgs false
set_option maxRecDepth 100000
set_option maxHeartbeats 20000000
namespace Go.Proofs.Sw
open Go Go.Eng Go.Eng.HP Go.RowKit Go.Proofs
attribute [local irreducible] St New Drew Prim PrimU CallR CallV CallI CallX Meet Eng.Loop withSome HP.blk HP.mp Calls Holds Ret

section
variable {G : Gh} {w : World} {L : List HP}

theorem beq_ok {x y : Int} (h : x = y) : (x == y) = true := by simp [h]

/-- What a row that holds one document with a count holds. -/
theorem count_rd {d : Nat} {nm : ByteArray} {n : Int} {ts : List VT} {a : Option Addr} {k : Nat} (hv : Vs G d ts a k) (ht : ts = [countDoc nm n]) : k = 1 ∧ ∃ b off fa fc r' fb foff, a = some ⟨b, off, none⟩ ∧ (∀ j v, (Vr.cells r')[j]? = some v → G.cell b (off + 0 * 6 + j) = some v) ∧ r'.f = fa ∧ r'.fc = fc ∧ r'.fl = 1 ∧
    fa = some ⟨fb, foff, none⟩ ∧ ∃ r2 : Vr, r2.k = 3 ∧ r2.n = n ∧ ∀ j v, (Value.string nm :: Vr.cells r2)[j]? = some v → G.cell fb (foff + 0 * 7 + j) = some v := by
  subst ht
  obtain ⟨h1, _, hts⟩ := hv
  refine ⟨h1, ?_⟩
  obtain ⟨b, off, cs, rfl, ⟨r', rfl, hr'⟩, _, hc⟩ := hts 0 _ rfl
  cases d with
  | zero => exact hr'.elim
  | succ d =>
    obtain ⟨_, _, _, _, hfl, _, hf, _⟩ := hr'
    obtain ⟨fb, foff, cs2, hfa, ⟨r2, rfl, _, hr2⟩, _, hc2⟩ := hf 0 _ rfl
    cases d with
    | zero => exact hr2.elim
    | succ d =>
      obtain ⟨hk, hn, _⟩ := hr2
      exact ⟨b, off, _, _, r', fb, foff, rfl, hc, rfl, rfl, hfl, hfa, r2, hk, hn, hc2⟩

/-- The document's example holds. -/
theorem awake (h : Holds G w (all L)) : Calls pg f_aqueductlaw20_awake #[] w (Ret fun v w' => v = .bool true ∧ ∃ G', G ≤ G' ∧ Holds G' w' (all L)) := by
  apply of_aqueductlaw20_awake
  unfold c_aqueductlaw20_awake
  refine New.at h (fun b0 w h => ?_)
  refine St.at h 0 0 rfl rfl rfl (fun w h => ?_)
  refine St.at h 0 1 rfl rfl rfl (fun w h => ?_)
  refine St.at h 0 2 rfl rfl rfl (fun w h => ?_)
  refine St.at h 0 3 rfl rfl rfl (fun w h => ?_)
  refine St.at h 0 4 rfl rfl rfl (fun w h => ?_)
  refine St.at h 0 5 rfl rfl rfl (fun w h => ?_)
  simp only [List.set_cons_zero, List.set_cons_succ] at h
  refine ⟨_, h.lda 0 0 rfl rfl, _, h.lda 0 1 rfl rfl, _, h.lda 0 2 rfl rfl, _, _, _, h.lda 0 3 rfl rfl, _, _, _, h.lda 0 4 rfl rfl, _, _, _, h.lda 0 5 rfl rfl, ?_⟩
  refine ⟨_, h.lda 0 0 rfl rfl, _, h.lda 0 1 rfl rfl, _, h.lda 0 2 rfl rfl, _, _, _, h.lda 0 3 rfl rfl, _, _, _, h.lda 0 4 rfl rfl, _, _, _, h.lda 0 5 rfl rfl, ?_⟩
  refine ⟨_, h.lda 0 0 rfl rfl, _, h.lda 0 1 rfl rfl, _, h.lda 0 2 rfl rfl, _, _, _, h.lda 0 3 rfl rfl, _, _, _, h.lda 0 4 rfl rfl, _, _, _, h.lda 0 5 rfl rfl, ?_⟩
  refine New.at h (fun b1 w h => ?_)
  have h := Holds.own_of (sz := 6) (n := 3) h rfl
  obtain ⟨G1, hGG, hcell, h⟩ := Holds.own_freeze2 h
  replace h := h.tail
  have hdoc : VC G1 61 (.mk 6 0 em [] [] []) ⟨6, 0, em, none, 0, 0, none, 0, 0, none, 0, 0⟩ := ⟨rfl, rfl, rfl, Bs.nil, rfl, rfl, VsAt.nil, VsAt.nil, ⟨by omega, by omega⟩, ⟨by omega, by omega⟩, by decide, by decide, by decide, by decide⟩
  have hv : Vs G1 61 [.mk 6 0 em [] [] [], .mk 6 0 em [] [] [], .mk 6 0 em [] [] []] (some ⟨b1, 0, none⟩) 3 := by
    refine ⟨rfl, (show 3 ≤ big by decide), ?_⟩
    have e0 : List.flatten [[Value.int .i64 6, .int .i64 0, .string em, .slice none 0 0, .slice none 0 0, .slice none 0 0], [.int .i64 6, .int .i64 0, .string em, .slice none 0 0, .slice none 0 0, .slice none 0 0], [.int .i64 6, .int .i64 0, .string em, .slice none 0 0, .slice none 0 0, .slice none 0 0]] = [.int .i64 6, .int .i64 0, .string em, .slice none 0 0, .slice none 0 0, .slice none 0 0, .int .i64 6, .int .i64 0, .string em, .slice none 0 0, .slice none 0 0, .slice none 0 0, .int .i64 6, .int .i64 0, .string em, .slice none 0 0, .slice none 0 0, .slice none 0 0] := rfl
    refine vs_of_frozen (els := [[Value.int .i64 6, .int .i64 0, .string em, .slice none 0 0, .slice none 0 0, .slice none 0 0], [.int .i64 6, .int .i64 0, .string em, .slice none 0 0, .slice none 0 0, .slice none 0 0], [.int .i64 6, .int .i64 0, .string em, .slice none 0 0, .slice none 0 0, .slice none 0 0]]) (by rw [e0]; exact hcell) ?_ (by decide) ?_
    · intro e he
      simp only [List.mem_cons, List.not_mem_nil, or_false, or_self] at he
      subst he
      rfl
    · intro i t hi
      match i, hi with
      | 0, hi => cases hi; exact ⟨_, rfl, _, rfl, hdoc⟩
      | 1, hi => cases hi; exact ⟨_, rfl, _, rfl, hdoc⟩
      | 2, hi => cases hi; exact ⟨_, rfl, _, rfl, hdoc⟩
  have hwt : ∀ t ∈ ([.mk 6 0 em [] [] [], .mk 6 0 em [] [] [], .mk 6 0 em [] [] []] : List VT), wt 61 t ≤ 100000000 := by
    intro t ht
    simp only [List.mem_cons, List.not_mem_nil, or_false, or_self] at ht
    subst ht
    decide
  have hl3 : ([.mk 6 0 em [] [] [], .mk 6 0 em [] [] [], .mk 6 0 em [] [] []] : List VT).length ≤ 1000000 := by decide
  have hnm : (⟨#[110]⟩ : ByteArray).size ≤ big := by decide
  refine CallR.of (Of_ok (by decide) hv hwt hl3 h) ?_; rintro r1 w ⟨G2, hG, h⟩; refine ⟨_, rfl, ?_⟩
  replace hv := hv.mono hG (Nat.le_refl _)
  replace hGG := Gh.trans hGG hG
  refine CallR.of (Limit_ok ⟨(by omega), (by omega)⟩ h) ?_; rintro r2 w h; refine ⟨_, rfl, ?_⟩
  refine CallR.of (Told_ok (by decide) (by decide) h) ?_; rintro _ w ⟨ahx, chx, shx, G2, rfl, hx, hchx, hshx, hG, h⟩; refine ⟨_, _, _, _, rfl, ?_⟩
  replace hv := hv.mono hG (Nat.le_refl _)
  replace hGG := Gh.trans hGG hG
  replace h := h.tail
  refine CallR.of (Of_ok (by decide) hv hwt hl3 h) ?_; rintro r1 w ⟨G2, hG, h⟩; refine ⟨_, rfl, ?_⟩
  replace hv := hv.mono hG (Nat.le_refl _)
  replace hx := hx.mono hG (Nat.le_refl _)
  replace hGG := Gh.trans hGG hG
  refine CallR.of (Skip_ok ⟨(by omega), (by omega)⟩ h) ?_; rintro r2 w h; refine ⟨_, rfl, ?_⟩
  refine CallR.of (Told_ok (by decide) (by decide) h) ?_; rintro _ w ⟨ahy, chy, shy, G2, rfl, hy, hchy, hshy, hG, h⟩; refine ⟨_, _, _, _, rfl, ?_⟩
  replace hv := hv.mono hG (Nat.le_refl _)
  replace hx := hx.mono hG (Nat.le_refl _)
  replace hGG := Gh.trans hGG hG
  replace h := h.tail
  refine CallR.of (Of_ok (by decide) hv hwt hl3 h) ?_; rintro r1 w ⟨G2, hG, h⟩; refine ⟨_, rfl, ?_⟩
  replace hv := hv.mono hG (Nat.le_refl _)
  replace hx := hx.mono hG (Nat.le_refl _)
  replace hy := hy.mono hG (Nat.le_refl _)
  replace hGG := Gh.trans hGG hG
  refine CallR.of (Count_ok (by decide) hnm h) ?_; rintro r2 w h; refine ⟨_, rfl, ?_⟩
  refine CallR.of (Told_ok (by decide) (by decide) h) ?_; rintro _ w ⟨ahz, chz, shz, G2, rfl, hz, hchz, hshz, hG, h⟩; refine ⟨_, _, _, _, rfl, ?_⟩
  replace hv := hv.mono hG (Nat.le_refl _)
  replace hx := hx.mono hG (Nat.le_refl _)
  replace hy := hy.mono hG (Nat.le_refl _)
  replace hGG := Gh.trans hGG hG
  replace h := h.tail
  obtain ⟨-, yb, yoff, fa, fc, r', fb, foff, rfl, hcr, e1, e2, e3, e4, r2, q1, q2, hc2⟩ := count_rd (nm := ⟨#[110]⟩) (n := 3) hz rfl
  refine Meet.dup ?_
  refine ctt rfl (ctt rfl (ctt rfl (ctt rfl (ctt rfl (ctt rfl ?_)))))
  simp only [ws, add_mk]
  refine And.intro ⟨by decide, by decide⟩ ?_
  refine ⟨_, _, _, h.rd (hcr 4 _ rfl), ctt (by rw [e3]; rfl) ?_⟩
  refine And.intro ⟨by decide, by decide⟩ ?_
  refine ⟨_, _, _, h.rd (hcr 4 _ rfl), ?_⟩
  rw [e1, e4]
  simp only [ws, add_mk]
  refine And.intro ⟨by decide, by rw [e3]; decide⟩ ?_
  refine ⟨_, h.rd (hc2 2 _ rfl), ?_⟩
  intro j
  exact Ret.mk ⟨by rw [q2]; rfl, _, hGG, h⟩

theorem Els.append {α : Type} {sz : Nat} {C : α → List Value → Prop} {xs ys : List α} {e1 e2 : List (List Value)} (h1 : Els sz C xs e1) (h2 : Els sz C ys e2) : Els sz C (xs ++ ys) (e1 ++ e2) := by
  obtain ⟨p1, p2, p3, p4⟩ := h1
  obtain ⟨q1, q2, q3, q4⟩ := h2
  refine ⟨by simp [p1, q1], fun x hx => ?_, fun i t hi => ?_, fun v hv => ?_⟩
  · rcases List.mem_append.1 hx with hx | hx
    · exact p2 x hx
    · exact q2 x hx
  · by_cases hlt : i < xs.length
    · rw [List.getElem?_append_left hlt] at hi
      obtain ⟨cs, hcs, hc⟩ := p3 i t hi
      exact ⟨cs, by rw [List.getElem?_append_left (by omega)]; exact hcs, hc⟩
    · rw [List.getElem?_append_right (by omega)] at hi
      obtain ⟨cs, hcs, hc⟩ := q3 _ t hi
      exact ⟨cs, by rw [List.getElem?_append_right (by omega), p1]; exact hcs, hc⟩
  · rw [List.flatten_append] at hv
    rcases List.mem_append.1 hv with hv | hv
    · exact p4 v hv
    · exact q4 v hv

theorem ve_one : ∀ t cs, VE G t cs → ∀ v ∈ cs, oneCell v = true := fun t cs ⟨r', q1, _⟩ v hv => by
  subst q1
  exact vr_one r' v hv

theorem parts_walk {l : List VT} {a : Option Addr} {n c d : Nat} {x0 x1 : Int} (hx0 : 0 ≤ x0 ∧ x0 < 256) (hx1 : 0 ≤ x1 ∧ x1 < 256) (hv0 : Vs G d l a n) (h : Holds G w (all L)) :
    Calls pg f_aqueductlaw20_WindowParts #[.slice a n c, .agg #[.int .u8 x0, .int .u8 x1]] w (Ret fun v w' => v = .bool true ∧ ∃ G', G ≤ G' ∧ Holds G' w' (all L)) := by
  apply of_aqueductlaw20_WindowParts
  unfold c_aqueductlaw20_WindowParts
  refine New.at h (fun b0 w h => ?_)
  refine CallR.of (awake h) ?_
  rintro _ w ⟨rfl, G1, hGG, h⟩
  refine ⟨_, rfl, cff rfl ?_⟩
  refine CallR.of (Docs_ok (hv0.mono hGG (Nat.le_refl _)) h) ?_
  rintro _ w ⟨bb, G2, rfl, hbb, hG, h⟩
  replace hGG := Gh.trans hGG hG
  refine ⟨_, rfl, ?_⟩
  cases bb with
  | false => exact ctt rfl (Ret.mk ⟨rfl, G2, hGG, h.tail⟩)
  | true =>
  refine cff rfl ?_
  obtain ⟨h30, hv, hwt⟩ := hbb rfl
  replace hwt : ∀ t ∈ l, wt 61 t ≤ 100000000 := fun t ht => Nat.le_trans (hwt t ht) (by decide)
  obtain rfl : n = l.length := hv.1
  clear hbb hv0
  refine Drew.of h (fun w h => ?_)
  refine And.intro ⟨by decide, by decide⟩ ?_
  refine ⟨_, h.lda 0 0 rfl rfl, cff rfl ?_⟩
  refine And.intro ⟨by decide, by decide⟩ ?_
  refine ⟨_, h.lda 0 1 rfl rfl, cff rfl ?_⟩
  have ea : ∃ i : Nat, i < 12 ∧ IntKind.i64.wrap (x0.tmod 12) = (i : Int) := by
    refine ⟨(x0.tmod 12).toNat, ?_, ?_⟩
    · rw [Int.tmod_eq_emod_of_nonneg hx0.1]; omega
    · rw [wrap64_id ⟨by rw [Int.tmod_eq_emod_of_nonneg hx0.1]; omega, by rw [Int.tmod_eq_emod_of_nonneg hx0.1]; omega⟩, Int.tmod_eq_emod_of_nonneg hx0.1]; omega
  have eb : ∃ i : Nat, i < 12 ∧ IntKind.i64.wrap (x1.tmod 12) = (i : Int) := by
    refine ⟨(x1.tmod 12).toNat, ?_, ?_⟩
    · rw [Int.tmod_eq_emod_of_nonneg hx1.1]; omega
    · rw [wrap64_id ⟨by rw [Int.tmod_eq_emod_of_nonneg hx1.1]; omega, by rw [Int.tmod_eq_emod_of_nonneg hx1.1]; omega⟩, Int.tmod_eq_emod_of_nonneg hx1.1]; omega
  obtain ⟨p, hp, ep⟩ := ea
  obtain ⟨q, hq, eq⟩ := eb
  rw [ep, eq]
  have epq : IntKind.i64.wrap ((p : Int) + (q : Int)) = ((p + q : Nat) : Int) := by rw [wrap64_id ⟨by omega, by omega⟩]; omega
  rw [epq]
  have emin : (if (q : Int) < (p : Int) then (q : Int) else (p : Int)) = ((min q p : Nat) : Int) := by split <;> omega
  rw [emin]
  refine CallR.of (Of_ok (by decide) hv hwt (by omega) h) ?_; rintro r1 w ⟨G2, hG, h⟩; refine ⟨_, rfl, ?_⟩
  replace hv := hv.mono hG (Nat.le_refl _)
  replace hGG := Gh.trans hGG hG
  refine CallR.of (Limit_ok ⟨(by omega), (by omega)⟩ h) ?_; rintro r2 w h; refine ⟨_, rfl, ?_⟩
  refine CallR.of (Told_ok (by simp only [SS.out, Int.toNat_natCast, List.length_take, List.length_drop]; omega) (by simp only [SS.out, Int.toNat_natCast, List.length_take, List.length_drop]; omega) h) ?_; rintro _ w ⟨ahx, chx, shx, G2, rfl, hx, hchx, hshx, hG, h⟩; refine ⟨_, _, _, _, rfl, ?_⟩
  replace hv := hv.mono hG (Nat.le_refl _)
  replace hGG := Gh.trans hGG hG
  replace h := h.tail
  refine CallR.of (Of_ok (by decide) hv hwt (by omega) h) ?_; rintro r1 w ⟨G2, hG, h⟩; refine ⟨_, rfl, ?_⟩
  replace hv := hv.mono hG (Nat.le_refl _)
  replace hx := hx.mono hG (Nat.le_refl _)
  replace hGG := Gh.trans hGG hG
  refine CallR.of (Skip_ok ⟨(by omega), (by omega)⟩ h) ?_; rintro r2 w h; refine ⟨_, rfl, ?_⟩
  refine CallR.of (Told_ok (by simp only [SS.out, Int.toNat_natCast, List.length_take, List.length_drop]; omega) (by simp only [SS.out, Int.toNat_natCast, List.length_take, List.length_drop]; omega) h) ?_; rintro _ w ⟨ahy, chy, shy, G2, rfl, hy, hchy, hshy, hG, h⟩; refine ⟨_, _, _, _, rfl, ?_⟩
  replace hv := hv.mono hG (Nat.le_refl _)
  replace hx := hx.mono hG (Nat.le_refl _)
  replace hGG := Gh.trans hGG hG
  replace h := h.tail
  refine CallR.of (Of_ok (by decide) hv hwt (by omega) h) ?_; rintro r1 w ⟨G2, hG, h⟩; refine ⟨_, rfl, ?_⟩
  replace hv := hv.mono hG (Nat.le_refl _)
  replace hx := hx.mono hG (Nat.le_refl _)
  replace hy := hy.mono hG (Nat.le_refl _)
  replace hGG := Gh.trans hGG hG
  refine CallR.of (Limit_ok ⟨(by omega), (by omega)⟩ h) ?_; rintro r2 w h; refine ⟨_, rfl, ?_⟩
  refine CallR.of (Limit_ok ⟨(by omega), (by omega)⟩ h) ?_; rintro r3 w h; refine ⟨_, rfl, ?_⟩
  refine CallR.of (Told_ok (by simp only [SS.out, Int.toNat_natCast, List.length_take, List.length_drop]; omega) (by simp only [SS.out, Int.toNat_natCast, List.length_take, List.length_drop]; omega) h) ?_; rintro _ w ⟨ahz, chz, shz, G2, rfl, hz, hchz, hshz, hG, h⟩; refine ⟨_, _, _, _, rfl, ?_⟩
  replace hv := hv.mono hG (Nat.le_refl _)
  replace hx := hx.mono hG (Nat.le_refl _)
  replace hy := hy.mono hG (Nat.le_refl _)
  replace hGG := Gh.trans hGG hG
  replace h := h.tail
  refine CallR.of (Of_ok (by decide) hv hwt (by omega) h) ?_; rintro r1 w ⟨G2, hG, h⟩; refine ⟨_, rfl, ?_⟩
  replace hv := hv.mono hG (Nat.le_refl _)
  replace hx := hx.mono hG (Nat.le_refl _)
  replace hy := hy.mono hG (Nat.le_refl _)
  replace hz := hz.mono hG (Nat.le_refl _)
  replace hGG := Gh.trans hGG hG
  refine CallR.of (Skip_ok ⟨(by omega), (by omega)⟩ h) ?_; rintro r2 w h; refine ⟨_, rfl, ?_⟩
  refine CallR.of (Skip_ok ⟨(by omega), (by omega)⟩ h) ?_; rintro r3 w h; refine ⟨_, rfl, ?_⟩
  refine CallR.of (Told_ok (by simp only [SS.out, Int.toNat_natCast, List.length_take, List.length_drop]; omega) (by simp only [SS.out, Int.toNat_natCast, List.length_take, List.length_drop]; omega) h) ?_; rintro _ w ⟨ahu, chu, shu, G2, rfl, hu, hchu, hshu, hG, h⟩; refine ⟨_, _, _, _, rfl, ?_⟩
  replace hv := hv.mono hG (Nat.le_refl _)
  replace hx := hx.mono hG (Nat.le_refl _)
  replace hy := hy.mono hG (Nat.le_refl _)
  replace hz := hz.mono hG (Nat.le_refl _)
  replace hGG := Gh.trans hGG hG
  replace h := h.tail
  refine CallR.of (Of_ok (by decide) hv hwt (by omega) h) ?_; rintro r1 w ⟨G2, hG, h⟩; refine ⟨_, rfl, ?_⟩
  replace hv := hv.mono hG (Nat.le_refl _)
  replace hx := hx.mono hG (Nat.le_refl _)
  replace hy := hy.mono hG (Nat.le_refl _)
  replace hz := hz.mono hG (Nat.le_refl _)
  replace hu := hu.mono hG (Nat.le_refl _)
  replace hGG := Gh.trans hGG hG
  refine CallR.of (Skip_ok ⟨(by omega), (by omega)⟩ h) ?_; rintro r2 w h; refine ⟨_, rfl, ?_⟩
  refine CallR.of (Told_ok (by simp only [SS.out, Int.toNat_natCast, List.length_take, List.length_drop]; omega) (by simp only [SS.out, Int.toNat_natCast, List.length_take, List.length_drop]; omega) h) ?_; rintro _ w ⟨aht, cht, sht, G2, rfl, ht, hcht, hsht, hG, h⟩; refine ⟨_, _, _, _, rfl, ?_⟩
  replace hv := hv.mono hG (Nat.le_refl _)
  replace hx := hx.mono hG (Nat.le_refl _)
  replace hy := hy.mono hG (Nat.le_refl _)
  replace hz := hz.mono hG (Nat.le_refl _)
  replace hu := hu.mono hG (Nat.le_refl _)
  replace hGG := Gh.trans hGG hG
  replace h := h.tail
  refine CallR.of (Of_ok (by decide) hv hwt (by omega) h) ?_; rintro r1 w ⟨G2, hG, h⟩; refine ⟨_, rfl, ?_⟩
  replace hv := hv.mono hG (Nat.le_refl _)
  replace hx := hx.mono hG (Nat.le_refl _)
  replace hy := hy.mono hG (Nat.le_refl _)
  replace hz := hz.mono hG (Nat.le_refl _)
  replace hu := hu.mono hG (Nat.le_refl _)
  replace ht := ht.mono hG (Nat.le_refl _)
  replace hGG := Gh.trans hGG hG
  refine CallR.of (Limit_ok ⟨(by omega), (by omega)⟩ h) ?_; rintro r2 w h; refine ⟨_, rfl, ?_⟩
  refine CallR.of (Told_ok (by simp only [SS.out, Int.toNat_natCast, List.length_take, List.length_drop]; omega) (by simp only [SS.out, Int.toNat_natCast, List.length_take, List.length_drop]; omega) h) ?_; rintro _ w ⟨ahs, chs, shs, G2, rfl, hs, hchs, hshs, hG, h⟩; refine ⟨_, _, _, _, rfl, ?_⟩
  replace hv := hv.mono hG (Nat.le_refl _)
  replace hx := hx.mono hG (Nat.le_refl _)
  replace hy := hy.mono hG (Nat.le_refl _)
  replace hz := hz.mono hG (Nat.le_refl _)
  replace hu := hu.mono hG (Nat.le_refl _)
  replace ht := ht.mono hG (Nat.le_refl _)
  replace hGG := Gh.trans hGG hG
  replace h := h.tail
  have ox : (SS.lim (p : Int) (.row l 0)).out = (l.take p, 0) := by rw [out_lim _ (out_row l 0)]; simp
  have oy : (SS.skp (p : Int) (.row l 0)).out = (l.drop p, 0) := by rw [out_skp _ (out_row l 0)]; simp
  have oz : (SS.lim (q : Int) (.lim (p : Int) (.row l 0))).out = (l.take (min q p), 0) := by rw [out_lim _ ox]; simp [List.take_take]
  have ou : (SS.skp (q : Int) (.skp (p : Int) (.row l 0))).out = (l.drop (p + q), 0) := by rw [out_skp _ oy]; simp [List.drop_drop]
  have ot : (SS.skp ((p + q : Nat) : Int) (.row l 0)).out = (l.drop (p + q), 0) := by
    simp only [SS.out, Int.toNat_natCast]
  have os : (SS.lim ((min q p : Nat) : Int) (.row l 0)).out = (l.take (min q p), 0) := by
    rw [out_lim _ (out_row l 0)]; simp
  rw [ox, oy, oz, ou, ot, os]
  rw [ox] at hx
  rw [oy] at hy
  rw [oz] at hz
  rw [ou] at hu
  rw [ot] at ht
  rw [os] at hs
  refine Meet.dup ?_
  refine ctt rfl (ctt rfl (ctt rfl (ctt rfl (ctt rfl (ctt rfl ?_)))))
  refine New.at h (fun b1 w h => ?_)
  replace h := Holds.own_of (sz := 6) (n := 0) h rfl
  obtain ⟨ex, x1, x2, x3, x4, x5⟩ := src_of_vs (P := pg) (c := chx) h hx.2.2 ve_one (by decide) (fun _ => .inr trivial)
  refine append_at tok rfl (.inl ⟨_, rfl⟩) rfl rfl rfl h 0 rfl x5 (by show (2 * (0 + (l.take p).length) + 1000) * 104 ≤ 2 ^ 48; simp only [List.length_take]; omega) (by simp only [List.length_take]; omega) (fun a' c' w h => ?_)
  refine ⟨_, _, _, rfl, ?_⟩
  simp only [List.eraseIdx_cons_zero] at h
  obtain ⟨ey, y1, y2, y3, y4, y5⟩ := src_of_vs (P := pg) (c := chy) h hy.2.2 ve_one (by decide) (fun _ => .inr trivial)
  refine append_at tok rfl (.inl ⟨_, rfl⟩) rfl rfl rfl h 0 rfl y5 (by show (2 * (0 + (l.take p).length + (l.drop p).length) + 1000) * 104 ≤ 2 ^ 48; simp only [List.length_take, List.length_drop]; omega) (by simp only [List.length_take, List.length_drop]; omega) (fun a' c' w h => ?_)
  refine ⟨_, _, _, rfl, ?_⟩
  simp only [List.eraseIdx_cons_zero] at h
  have hxy : l.take p ++ l.drop p = l := List.take_append_drop p l
  have hlen : 0 + (l.take p).length + (l.drop p).length = l.length := by simp only [List.length_take, List.length_drop]; omega
  have hels : Els 6 (VE G2) l (ex ++ ey) := by
    have := Els.append (C := VE G2) (xs := l.take p) (ys := l.drop p) ⟨x1, x2, x3, x4⟩ ⟨y1, y2, y3, y4⟩
    rw [hxy] at this
    exact this
  rw [hlen] at h ⊢
  rw [List.nil_append, ← List.flatten_append] at h
  obtain ⟨G3, hG, hV, _, h⟩ := Vs.of_own hels (by unfold big; omega) h
  replace hv := hv.mono hG (Nat.le_refl _)
  replace hz := hz.mono hG (Nat.le_refl _)
  replace hu := hu.mono hG (Nat.le_refl _)
  replace ht := ht.mono hG (Nat.le_refl _)
  replace hs := hs.mono hG (Nat.le_refl _)
  replace hGG := Gh.trans hGG hG
  refine CallR.of (SameAll_ok hV (hv.mono (Gh.refl _) (by decide)) h) ?_
  rintro _ w ⟨rfl, h⟩
  refine ⟨_, rfl, ctt rfl ?_⟩
  refine CallR.of (SameAll_ok hz hs h) ?_
  rintro _ w ⟨rfl, h⟩
  refine ⟨_, rfl, ctt rfl ?_⟩
  refine CallR.of (SameAll_ok hu ht h) ?_
  rintro _ w ⟨rfl, h⟩
  refine ⟨_, rfl, ?_⟩
  intro j
  exact Ret.mk ⟨rfl, _, hGG, h.tail⟩

theorem NameMay16_ok (s : ByteArray) (hs : s.size ≤ big) (h : Holds G w (all L)) : Calls pg f_aqueductref16_NameMay #[.string s] w (Ret fun v w' => ∃ bb : Bool, v = .bool bb ∧ (bb = true → s.size ≤ 120) ∧ Holds G w' (all L)) := by
  have hs' := hs
  unfold big at hs'
  apply of_aqueductref16_NameMay
  unfold c_aqueductref16_NameMay
  refine Loop.inv (I := fun s' w => ∃ (i : Nat) (u : Bool), s' = (u, (i : Int)) ∧ i ≤ s.size ∧ Holds G w (all L)) (fun s' _ => s.size - s'.2.toNat) ?_ ⟨0, _, rfl, Nat.zero_le _, h⟩
  clear h
  rintro X s' w ⟨i, u, rfl, hi, h⟩ hX
  intro j
  dsimp only
  by_cases hi' : i < s.size
  · refine ctt (decide_eq_true (by omega)) ?_
    refine Meet.mk (fun _ w => Holds G w (all L)) ?_ ?_
    · refine ⟨⟨by omega, by omega⟩, ?_⟩
      refine cif (fun _ => ?_) (fun _ => ?_)
      · exact h
      · exact ⟨⟨by omega, by omega⟩, h⟩
    · intro b w h j
      refine cif (fun _ => ?_) (fun _ => ?_)
      · exact Ret.mk ⟨_, rfl, (fun hx => by cases hx), h⟩
      · rw [wrap64_id (x := (i : Int) + 1) ⟨by omega, by omega⟩]
        exact hX _ _ ⟨i + 1, u, rfl, by omega, h⟩ (by dsimp only; omega)
  · refine cff (decide_eq_false (by omega)) ?_
    refine Meet.dup ?_
    refine cif (fun _ => ?_) (fun _ => ?_)
    · refine CallR.of (NameMay_ok s hs h) ?_
      rintro _ w ⟨bb, rfl, h120, h⟩
      refine ⟨_, rfl, ?_⟩
      intro j
      exact Ret.mk ⟨_, rfl, h120, h⟩
    · intro j
      exact Ret.mk ⟨_, rfl, (fun hx => by cases hx), h⟩

theorem counts_walk {l : List VT} {a : Option Addr} {n c d : Nat} {nm : ByteArray} (hnm : nm.size ≤ big) (hv0 : Vs G d l a n) (h : Holds G w (all L)) :
    Calls pg f_aqueductlaw20_WindowCounts #[.slice a n c, .string nm] w (Ret fun v w' => v = .bool true ∧ ∃ G', G ≤ G' ∧ Holds G' w' (all L)) := by
  apply of_aqueductlaw20_WindowCounts
  unfold c_aqueductlaw20_WindowCounts
  refine CallR.of (awake h) ?_
  rintro _ w ⟨rfl, G1, hGG, h⟩
  refine ⟨_, rfl, cff rfl ?_⟩
  refine Meet.mk (fun b w => ∃ G2, G ≤ G2 ∧ (b = false → l.length ≤ 30 ∧ Vs G2 61 l a n ∧ ∀ t ∈ l, wt 61 t ≤ 3000) ∧ Holds G2 w (all L)) ?_ ?_
  · refine CallR.of (Docs_ok (hv0.mono hGG (Nat.le_refl _)) h) ?_
    rintro _ w ⟨bb, G2, rfl, hbb, hG, h⟩
    refine ⟨_, rfl, ?_⟩
    cases bb with
    | false => exact ctt rfl ⟨G2, Gh.trans hGG hG, (fun hx => by cases hx), h⟩
    | true =>
      refine cff rfl ?_
      refine CallR.of (NameMay16_ok nm hnm h) ?_
      rintro _ w ⟨b2, rfl, _, h⟩
      refine ⟨_, rfl, ?_⟩
      obtain ⟨h30, hv, hw⟩ := hbb rfl
      exact ⟨G2, Gh.trans hGG hG, (fun _ => ⟨by omega, hv, hw⟩), h⟩
  clear hGG h
  rintro b w ⟨G2, hGG, hb, h⟩ j
  refine cif (fun _ => ?_) (fun hbf => ?_)
  · exact Ret.mk ⟨rfl, G2, hGG, h⟩
  obtain ⟨h30, hv, hwt⟩ := hb hbf
  replace hwt : ∀ t ∈ l, wt 61 t ≤ 100000000 := fun t ht => Nat.le_trans (hwt t ht) (by decide)
  obtain rfl : n = l.length := hv.1
  clear hb hv0
  have oz : (SS.cnt nm 0 (.row l 0)).out = (if l.length = 0 then ([], 0) else ([countDoc nm (l.length : Int)], 0)) := by
    rw [out_cnt _ _ (out_row l 0), if_pos rfl]
    by_cases hl : l.length = 0
    · rw [if_pos hl, if_neg (by omega)]
    · rw [if_neg hl, if_pos (by omega), Int.zero_add]
  refine CallR.of (Of_ok (by decide) hv hwt (by omega) h) ?_; rintro r1 w ⟨G2, hG, h⟩; refine ⟨_, rfl, ?_⟩
  replace hv := hv.mono hG (Nat.le_refl _)
  replace hGG := Gh.trans hGG hG
  refine CallR.of (Count_ok (by simp only [SS.out]; omega) hnm h) ?_; rintro r2 w h; refine ⟨_, rfl, ?_⟩
  refine CallR.of (Told_ok (by rw [oz]; split <;> simp) (by rw [oz]; split <;> simp) h) ?_; rintro _ w ⟨ahz, chz, shz, G2, rfl, hz, hchz, hshz, hG, h⟩; refine ⟨_, _, _, _, rfl, ?_⟩
  replace hv := hv.mono hG (Nat.le_refl _)
  replace hGG := Gh.trans hGG hG
  by_cases hl : l.length = 0
  · rw [if_pos hl] at oz
    refine ctt (beq_ok (by omega)) ?_
    refine Meet.dup ?_
    rw [oz]
    refine ctt rfl (ctt rfl ?_)
    refine CallR.of (Ends_ok hshz h) ?_
    rintro _ w ⟨rfl, G3, hG, h⟩
    refine ⟨_, rfl, ?_⟩
    intro j
    exact Ret.mk ⟨rfl, G3, Gh.trans hGG hG, h⟩
  · rw [if_neg hl] at oz
    refine cff (beq_no (by omega)) ?_
    obtain ⟨-, yb, yoff, fa, fc, r', fb, foff, rfl, hcr, e1, e2, e3, e4, r2', q1, q2, hc2⟩ := count_rd (nm := nm) (n := (l.length : Int)) hz (by rw [oz])
    refine Meet.dup ?_
    rw [oz]
    refine ctt rfl (ctt rfl ?_)
    simp only [ws, add_mk]
    have b01 : 0 ≤ (0 : Int) ∧ (0 : Int) < ((1 : Nat) : Int) := ⟨by decide, by decide⟩
    have hone : ([countDoc nm (l.length : Int)], (0 : Int)).1.length = 1 := rfl
    rw [hone]
    refine And.intro b01 ?_
    refine ⟨_, _, _, h.rd (hcr 4 _ rfl), ctt (by rw [e3]; rfl) ?_⟩
    refine And.intro b01 ?_
    refine ⟨_, _, _, h.rd (hcr 4 _ rfl), ?_⟩
    rw [e1, e4, e3]
    simp only [ws, add_mk]
    refine And.intro b01 ?_
    refine ⟨_, h.rd (hc2 0 _ rfl), ctt (by simp) ?_⟩
    refine And.intro b01 ?_
    refine ⟨_, _, _, h.rd (hcr 4 _ rfl), ?_⟩
    rw [e1, e4, e3]
    simp only [ws, add_mk]
    refine And.intro b01 ?_
    refine ⟨_, h.rd (hc2 1 _ rfl), ctt (by rw [q1]; rfl) ?_⟩
    refine And.intro b01 ?_
    refine ⟨_, _, _, h.rd (hcr 4 _ rfl), ?_⟩
    rw [e1, e4, e3]
    simp only [ws, add_mk]
    refine And.intro b01 ?_
    refine ⟨_, h.rd (hc2 2 _ rfl), ctt (by rw [q2]; simp) ?_⟩
    refine CallR.of (Ends_ok hshz h) ?_
    rintro _ w ⟨rfl, G3, hG, h⟩
    refine ⟨_, rfl, ?_⟩
    intro j
    exact Ret.mk ⟨rfl, G3, Gh.trans hGG hG, h⟩

end
end Go.Proofs.Sw
