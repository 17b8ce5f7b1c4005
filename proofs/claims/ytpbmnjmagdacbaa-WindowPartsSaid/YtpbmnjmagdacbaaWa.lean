/- Two values of one content are told the same; documents that are few and small. -/
import Derived.Test.YtpbmnjmagdacbaaWVa3
import Derived.Test.YtpbmnjmagdacbaaWVa5
set_option linter.unusedVariables false
set_option linter.unusedSimpArgs false
set_option maxRecDepth 100000
set_option maxHeartbeats 8000000
namespace Go.Proofs.Sw
open Go Go.Eng Go.Eng.HP Go.RowKit Go.Proofs
attribute [local irreducible] St New Drew Prim PrimU CallR CallV CallI CallX Meet Eng.Loop withSome HP.blk HP.mp Calls Holds Ret

theorem bne_rfl (x : Int) : (x != x) = false := by simp
theorem nbeq_rfl (s : ByteArray) : (!(s.toList == s.toList)) = false := by simp
theorem nbeq_mk (l : List UInt8) : (!((⟨l.toArray⟩ : ByteArray).toList == (⟨l.toArray⟩ : ByteArray).toList)) = false := by simp

theorem wt_stable {G : Gh} : ∀ {d d' : Nat} {t : VT} {r : Vr}, VC G d t r → d ≤ d' → wt d' t = wt d t
  | 0, _, _, _, h, _ => h.elim
  | d + 1, 0, _, _, _, hd => absurd hd (by omega)
  | d + 1, d' + 1, .mk k n s b f l, r, h, hd => by
    obtain ⟨_, _, _, _, _, _, hf, hl, _⟩ := h
    simp only [wt]
    have e1 : f.map (fun x => x.1.size + wt d' x.2) = f.map (fun x => x.1.size + wt d x.2) := by
      apply List.map_congr_left
      intro x hx
      obtain ⟨i, hi, rfl⟩ := List.getElem_of_mem hx
      obtain ⟨_, _, _, _, ⟨r', _, _, hr⟩, _⟩ := hf i _ (List.getElem?_eq_getElem hi)
      rw [wt_stable hr (by omega)]
    have e2 : l.map (wt d') = l.map (wt d) := by
      apply List.map_congr_left
      intro x hx
      obtain ⟨i, hi, rfl⟩ := List.getElem_of_mem hx
      obtain ⟨_, _, _, _, ⟨r', _, hr⟩, _⟩ := hl i _ (List.getElem?_eq_getElem hi)
      exact wt_stable hr (by omega)
    rw [e1, e2]

theorem wt_two {G G' : Gh} {d d' : Nat} {t : VT} {r r' : Vr} (h : VC G d t r) (h' : VC G' d' t r') : wt d t = wt d' t := by
  rcases Nat.le_total d d' with hd | hd
  · exact (wt_stable h hd).symm
  · exact wt_stable h' hd

theorem Same_ok : ∀ (d : Nat) (t : VT) (r r2 : Vr) {G : Gh} {w : World} {L : List HP}, VC G d t r → VC G d t r2 → Holds G w (all L) →
    Calls pg f_aqueductref5_Same #[r.val, r2.val] w (Ret fun v w' => v = .bool true ∧ Holds G w' (all L))
  | 0, _, _, _, _, _, _, hv, _, _ => hv.elim
  | d + 1, .mk k n s b f l, ⟨rk, rn, rs, rb, rbl, rbc, rf, rfl', rfc, rl, rll, rlc⟩, ⟨qk, qn, qs, qb, qbl, qbc, qf, qfl, qfc, ql, qll, qlc⟩, G, w, L, hv, hv2, h => by
    obtain ⟨hk, hn, hs, hb, hfl, hll, hf, hl, ik, iN, bs, bb, bf, bl⟩ := hv
    obtain ⟨hk2, hn2, hs2, hb2, hfl2, hll2, hf2, hl2, _⟩ := hv2
    simp only at hk hn hs hb hfl hll hf hl hk2 hn2 hs2 hb2 hfl2 hll2 hf2 hl2
    subst hk hn hs hfl hll
    subst hk2 hn2 hs2 hfl2 hll2
    unfold big at bf bl
    apply of_aqueductref5_Same
    unfold c_aqueductref5_Same
    dsimp only
    refine New.at h (fun b0 w h => ?_)
    refine New.at h (fun b2 w h => ?_)
    refine Meet.dup ?_
    refine ⟨_, h.lda 1 0 rfl rfl, _, h.lda 0 0 rfl rfl, cff (bne_rfl _) ?_⟩
    refine ⟨_, h.lda 1 1 rfl rfl, _, h.lda 0 1 rfl rfl, cff (bne_rfl _) ?_⟩
    refine ⟨_, h.lda 1 2 rfl rfl, _, h.lda 0 2 rfl rfl, cff (nbeq_rfl _) ?_⟩
    refine ⟨_, _, _, h.lda 1 3 rfl rfl, ?_⟩
    refine Prim.mk (Bs.str tok rfl rfl rfl hb h) ?_
    refine ⟨_, rfl, ?_⟩
    refine ⟨_, _, _, h.lda 0 3 rfl rfl, ?_⟩
    refine Prim.mk (Bs.str tok rfl rfl rfl hb2 h) ?_
    refine ⟨_, rfl, cff (nbeq_mk _) ?_⟩
    refine ⟨_, _, _, h.lda 1 4 rfl rfl, _, _, _, h.lda 0 4 rfl rfl, cff (bne_rfl _) ?_⟩
    refine ⟨_, _, _, h.lda 1 5 rfl rfl, _, _, _, h.lda 0 5 rfl rfl, ?_⟩
    intro j
    refine cff (bne_rfl _) ?_
    refine Loop.inv (I := fun s' w => ∃ (i : Nat) (u : Bool), s' = (u, (i : Int)) ∧ i ≤ f.length ∧ Holds G w (all (_ :: _ :: L))) (fun s' _ => f.length - s'.2.toNat) ?_ ⟨0, _, rfl, Nat.zero_le _, h⟩
    clear h
    rintro X s' w ⟨i, u, rfl, hi, h⟩ hX
    intro j
    dsimp only
    refine ⟨_, _, _, h.lda 1 4 rfl rfl, ?_⟩
    by_cases hi' : i < f.length
    · refine ctt (decide_eq_true (by omega)) ?_
      obtain ⟨fb, foff, cs, rfl, ⟨r', rfl, hns, hr'⟩, hlen, hc⟩ := hf i _ (List.getElem?_eq_getElem hi')
      obtain ⟨gb, goff, cs2, rfl, ⟨r3, rfl, _, hr3⟩, hlen2, hc2⟩ := hf2 i _ (List.getElem?_eq_getElem hi')
      have hb3 : 0 ≤ ((i : Nat) : Int) ∧ ((i : Nat) : Int) < ((f.length : Nat) : Int) := ⟨by omega, by omega⟩
      refine Meet.dup ?_
      refine Drew.of h (fun w h => ?_)
      refine ⟨_, _, _, h.lda 1 4 rfl rfl, ?_⟩
      simp only [ws, add_mk, Int.toNat_natCast]
      refine And.intro hb3 ?_
      refine ⟨_, h.rd (hc 0 _ rfl), ?_⟩
      refine ⟨_, _, _, h.lda 0 4 rfl rfl, ?_⟩
      simp only [ws, add_mk, Int.toNat_natCast]
      refine And.intro hb3 ?_
      refine ⟨_, h.rd (hc2 0 _ rfl), cff (nbeq_rfl _) ?_⟩
      refine ⟨_, _, _, h.lda 1 4 rfl rfl, ?_⟩
      simp only [ws, add_mk, Int.toNat_natCast]
      refine And.intro hb3 ?_
      refine ⟨_, h.rd (hc 1 _ rfl), _, h.rd (hc 2 _ rfl), _, h.rd (hc 3 _ rfl), _, _, _, h.rd (hc 4 _ rfl), _, _, _, h.rd (hc 5 _ rfl), _, _, _, h.rd (hc 6 _ rfl), ?_⟩
      refine ⟨_, _, _, h.lda 0 4 rfl rfl, ?_⟩
      simp only [ws, add_mk, Int.toNat_natCast]
      refine And.intro hb3 ?_
      refine ⟨_, h.rd (hc2 1 _ rfl), _, h.rd (hc2 2 _ rfl), _, h.rd (hc2 3 _ rfl), _, _, _, h.rd (hc2 4 _ rfl), _, _, _, h.rd (hc2 5 _ rfl), _, _, _, h.rd (hc2 6 _ rfl), ?_⟩
      refine CallR.of (Same_ok d _ r' r3 hr' hr3 h) ?_
      rintro _ w ⟨rfl, h⟩
      refine ⟨_, rfl, ?_⟩
      intro j
      refine cff rfl ?_
      rw [wrap64_id (x := (i : Int) + 1) ⟨by omega, by omega⟩]
      exact hX _ _ ⟨i + 1, u, rfl, by omega, h⟩ (by dsimp only; omega)
    · refine cff (decide_eq_false (by omega)) ?_
      clear hX
      refine Loop.inv (I := fun s' w => ∃ (i : Nat) (u : Bool), s' = (u, (i : Int)) ∧ i ≤ l.length ∧ Holds G w (all (_ :: _ :: L))) (fun s' _ => l.length - s'.2.toNat) ?_ ⟨0, _, rfl, Nat.zero_le _, h⟩
      clear h
      rintro X s' w ⟨i, u, rfl, hi, h⟩ hX
      intro j
      dsimp only
      refine ⟨_, _, _, h.lda 1 5 rfl rfl, ?_⟩
      by_cases hi' : i < l.length
      · refine ctt (decide_eq_true (by omega)) ?_
        obtain ⟨fb, foff, cs, rfl, ⟨r', rfl, hr'⟩, hlen, hc⟩ := hl i _ (List.getElem?_eq_getElem hi')
        obtain ⟨gb, goff, cs2, rfl, ⟨r3, rfl, hr3⟩, hlen2, hc2⟩ := hl2 i _ (List.getElem?_eq_getElem hi')
        have hb3 : 0 ≤ ((i : Nat) : Int) ∧ ((i : Nat) : Int) < ((l.length : Nat) : Int) := ⟨by omega, by omega⟩
        refine Drew.of h (fun w h => ?_)
        refine ⟨_, _, _, h.lda 1 5 rfl rfl, ?_⟩
        simp only [ws, add_mk, Int.toNat_natCast]
        refine And.intro hb3 ?_
        refine ⟨_, h.rd (hc 0 _ rfl), _, h.rd (hc 1 _ rfl), _, h.rd (hc 2 _ rfl), _, _, _, h.rd (hc 3 _ rfl), _, _, _, h.rd (hc 4 _ rfl), _, _, _, h.rd (hc 5 _ rfl), ?_⟩
        refine ⟨_, _, _, h.lda 0 5 rfl rfl, ?_⟩
        simp only [ws, add_mk, Int.toNat_natCast]
        refine And.intro hb3 ?_
        refine ⟨_, h.rd (hc2 0 _ rfl), _, h.rd (hc2 1 _ rfl), _, h.rd (hc2 2 _ rfl), _, _, _, h.rd (hc2 3 _ rfl), _, _, _, h.rd (hc2 4 _ rfl), _, _, _, h.rd (hc2 5 _ rfl), ?_⟩
        refine CallR.of (Same_ok d _ r' r3 hr' hr3 h) ?_
        rintro _ w ⟨rfl, h⟩
        refine ⟨_, rfl, cff rfl ?_⟩
        rw [wrap64_id (x := (i : Int) + 1) ⟨by omega, by omega⟩]
        exact hX _ _ ⟨i + 1, u, rfl, by omega, h⟩ (by dsimp only; omega)
      · refine cff (decide_eq_false (by omega)) ?_
        exact Ret.mk ⟨rfl, h.tail.tail⟩

section
variable {G : Gh} {w : World} {L : List HP}

theorem Vs.mono {G G' : Gh} (hG : G ≤ G') {d d' : Nat} (hd : d ≤ d') {ts : List VT} {a : Option Addr} {n : Nat} (h : Vs G d ts a n) : Vs G' d' ts a n :=
  ⟨h.1, h.2.1, h.2.2.mono hG fun x cs ⟨r', h1, h3⟩ => ⟨r', h1, h3.mono hG hd⟩⟩

theorem SameAll_ok {d : Nat} {ts : List VT} {a a2 : Option Addr} {n c n2 c2 : Nat} (hv : Vs G d ts a n) (hv2 : Vs G d ts a2 n2) (h : Holds G w (all L)) :
    Calls pg f_aqueductref5_SameAll #[.slice a n c, .slice a2 n2 c2] w (Ret fun v w' => v = .bool true ∧ Holds G w' (all L)) := by
  obtain ⟨rfl, hbig, hts⟩ := hv
  obtain ⟨rfl, _, hts2⟩ := hv2
  unfold big at hbig
  apply of_aqueductref5_SameAll
  unfold c_aqueductref5_SameAll
  refine cff (bne_rfl _) ?_
  refine Loop.inv (I := fun s' w => ∃ (i : Nat) (u : Bool), s' = (u, (i : Int)) ∧ i ≤ ts.length ∧ Holds G w (all L)) (fun s' _ => ts.length - s'.2.toNat) ?_ ⟨0, _, rfl, Nat.zero_le _, h⟩
  clear h
  rintro X s' w ⟨i, u, rfl, hi, h⟩ hX
  intro j
  dsimp only
  by_cases hi' : i < ts.length
  · refine ctt (decide_eq_true (by omega)) ?_
    obtain ⟨fb, foff, cs, rfl, ⟨r', rfl, hr'⟩, hlen, hc⟩ := hts i _ (List.getElem?_eq_getElem hi')
    obtain ⟨gb, goff, cs2, rfl, ⟨r3, rfl, hr3⟩, hlen2, hc2⟩ := hts2 i _ (List.getElem?_eq_getElem hi')
    have hb3 : 0 ≤ ((i : Nat) : Int) ∧ ((i : Nat) : Int) < ((ts.length : Nat) : Int) := ⟨by omega, by omega⟩
    refine Drew.of h (fun w h => ?_)
    simp only [ws, add_mk, Int.toNat_natCast]
    refine And.intro hb3 ?_
    refine ⟨_, h.rd (hc 0 _ rfl), _, h.rd (hc 1 _ rfl), _, h.rd (hc 2 _ rfl), _, _, _, h.rd (hc 3 _ rfl), _, _, _, h.rd (hc 4 _ rfl), _, _, _, h.rd (hc 5 _ rfl), ?_⟩
    refine And.intro hb3 ?_
    refine ⟨_, h.rd (hc2 0 _ rfl), _, h.rd (hc2 1 _ rfl), _, h.rd (hc2 2 _ rfl), _, _, _, h.rd (hc2 3 _ rfl), _, _, _, h.rd (hc2 4 _ rfl), _, _, _, h.rd (hc2 5 _ rfl), ?_⟩
    refine CallR.of (Same_ok d _ r' r3 hr' hr3 h) ?_
    rintro _ w ⟨rfl, h⟩
    refine ⟨_, rfl, cff rfl ?_⟩
    rw [wrap64_id (x := (i : Int) + 1) ⟨by omega, by omega⟩]
    exact hX _ _ ⟨i + 1, u, rfl, by omega, h⟩ (by dsimp only; omega)
  · refine cff (decide_eq_false (by omega)) ?_
    exact Ret.mk ⟨rfl, h⟩

/-- Documents that are few and small. -/
theorem Docs_ok {d : Nat} {ts : List VT} {a : Option Addr} {n c : Nat} {m : Int} (hv : Vs G d ts a n) (h : Holds G w (all L)) :
    Calls pg f_aqueductlaw17_Docs #[.slice a n c, .int .i64 m] w (Ret fun v w' => ∃ (bb : Bool) (G' : Gh), v = .bool bb ∧ (bb = true → ts.length ≤ m ∧ Vs G' 61 ts a n ∧ ∀ t ∈ ts, wt 61 t ≤ 3000) ∧ G ≤ G' ∧ Holds G' w' (all L)) := by
  obtain ⟨rfl, hbig, hts⟩ := hv
  have hbig' := hbig
  unfold big at hbig'
  apply of_aqueductlaw17_Docs
  unfold c_aqueductlaw17_Docs
  refine Loop.inv (I := fun s' w => ∃ (i : Nat) (u : Bool) (m : Int) (G1 : Gh), s' = (u, m, (i : Int)) ∧ i ≤ ts.length ∧ VsAt G1 6 (fun (x : VT) cs => ∃ r' : Vr, cs = r'.cells ∧ VC G1 61 x r') (ts.take i) a ∧ (∀ t ∈ ts.take i, wt 61 t ≤ 3000) ∧ G ≤ G1 ∧ Holds G1 w (all L))
    (fun s' _ => ts.length - s'.2.2.toNat) ?_ ⟨0, _, _, G, rfl, Nat.zero_le _, VsAt.nil, (by simp), Gh.refl G, h⟩
  clear h
  rintro X s' w ⟨i, u, m', G1, rfl, hi, hA, hW, hG1, h⟩ hX
  intro j
  dsimp only
  by_cases hi' : i < ts.length
  · refine ctt (decide_eq_true (by omega)) ?_
    obtain ⟨fb, foff, cs, rfl, ⟨r', rfl, hr'⟩, hlen, hc⟩ := hts i _ (List.getElem?_eq_getElem hi')
    have hb2 : 0 ≤ ((i : Nat) : Int) ∧ ((i : Nat) : Int) < ((ts.length : Nat) : Int) := ⟨by omega, by omega⟩
    have hc1 := fun j v hj => Gh.cell_mono hG1 (hc j v hj)
    refine Meet.mk (fun b w => ∃ G2, G1 ≤ G2 ∧ (b = false → wt 61 ts[i] ≤ 3000 ∧ VC G1 61 ts[i] r') ∧ Holds G2 w (all L)) ?_ ?_
    · simp only [ws, add_mk, Int.toNat_natCast]
      refine And.intro hb2 ?_
      refine ⟨_, h.rd (hc1 0 _ rfl), _, h.rd (hc1 1 _ rfl), _, h.rd (hc1 2 _ rfl), _, _, _, h.rd (hc1 3 _ rfl), _, _, _, h.rd (hc1 4 _ rfl), _, _, _, h.rd (hc1 5 _ rfl), ?_⟩
      refine CallR.of (Small_ok (hr'.mono hG1 (Nat.le_refl _)) h) ?_
      rintro _ w ⟨⟨bb, rfl, hbb⟩, h⟩
      refine ⟨_, rfl, ?_⟩
      cases bb with
      | false =>
        refine ctt rfl ?_
        exact ⟨G1, Gh.refl G1, (fun hx => by cases hx), h⟩
      | true =>
        refine cff rfl ?_
        refine And.intro hb2 ?_
        refine ⟨_, h.rd (hc1 0 _ rfl), _, h.rd (hc1 1 _ rfl), _, h.rd (hc1 2 _ rfl), _, _, _, h.rd (hc1 3 _ rfl), _, _, _, h.rd (hc1 4 _ rfl), _, _, _, h.rd (hc1 5 _ rfl), ?_⟩
        refine CallR.of (May_ok (hr'.mono hG1 (Nat.le_refl _)) h) ?_
        rintro _ w ⟨b2, G2, rfl, hG2, h⟩
        refine ⟨_, rfl, ?_⟩
        exact ⟨G2, hG2, (fun _ => ⟨by rw [← wt_two hr' (hbb rfl).2]; exact (hbb rfl).1, (hbb rfl).2⟩), h⟩
    · rintro b w ⟨G2, hG2, hb, h⟩ j
      cases b with
      | true =>
        refine ctt rfl ?_
        exact Ret.mk ⟨_, G2, rfl, (fun hx => by cases hx), Gh.trans hG1 hG2, h⟩
      | false =>
        refine cff rfl ?_
        obtain ⟨hw1, hw2⟩ := hb rfl
        have hc2 := fun j v hj => Gh.cell_mono hG2 (hc1 j v hj)
        simp only [ws, add_mk, Int.toNat_natCast]
        refine And.intro hb2 ?_
        refine ⟨_, h.rd (hc2 0 _ rfl), _, h.rd (hc2 1 _ rfl), _, h.rd (hc2 2 _ rfl), _, _, _, h.rd (hc2 3 _ rfl), _, _, _, h.rd (hc2 4 _ rfl), _, _, _, h.rd (hc2 5 _ rfl), ?_⟩
        refine CallR.of (Weight_ok d _ _ 3000 (hr'.mono (Gh.trans hG1 hG2) (Nat.le_refl _)) (by omega) (by omega) h) ?_
        rintro _ w ⟨⟨n1, rfl, _⟩, h⟩
        refine ⟨_, rfl, ?_⟩
        rw [wrap64_id (x := (i : Int) + 1) ⟨by omega, by omega⟩]
        refine hX _ _ ⟨i + 1, u, _, G2, rfl, by omega, (hA.mono hG2 (fun x cs ⟨r', q1, q3⟩ => ⟨r', q1, q3.mono hG2 (Nat.le_refl _)⟩)).snoc hi' ⟨fb, foff, _, rfl, ⟨r', rfl, hw2.mono hG2 (Nat.le_refl _)⟩, hlen, hc2⟩, fun t ht => ?_, Gh.trans hG1 hG2, h⟩ (by dsimp only; omega)
        rw [List.take_succ_eq_append_getElem hi'] at ht
        rcases List.mem_append.1 ht with ht | ht
        · exact hW t ht
        · cases List.mem_singleton.1 ht
          exact hw1
  · refine cff (decide_eq_false (by omega)) ?_
    obtain rfl : i = ts.length := by omega
    rw [List.take_length] at hA hW
    refine Meet.dup ?_
    by_cases hm : (ts.length : Int) ≤ m
    · refine ctt (decide_eq_true (by omega)) ?_
      intro j
      exact Ret.mk ⟨_, G1, rfl, (fun _ => ⟨hm, ⟨rfl, hbig, hA⟩, hW⟩), hG1, h⟩
    · refine cff (decide_eq_false (by omega)) ?_
      intro j
      exact Ret.mk ⟨_, G1, rfl, (fun hx => by cases hx), hG1, h⟩

end
end Go.Proofs.Sw
