/- The reference's Encode and May: they return, whatever the value. -/
import Derived.Test.YtpbmnjmagdacbaaWVa2
set_option linter.unusedVariables false
set_option linter.unusedSimpArgs false
set_option maxRecDepth 100000
set_option maxHeartbeats 8000000
namespace Go.Proofs.Sw
open Go Go.Eng Go.Eng.HP Go.RowKit Go.Proofs
attribute [local irreducible] St New Drew Prim PrimU CallR CallV CallI CallX Meet Eng.Loop withSome HP.blk HP.mp Calls Holds Ret

/-- A row of fields. -/
def Fs (G : Gh) (d : Nat) (fs : List (ByteArray × VT)) (a : Option Addr) (n : Nat) : Prop :=
  n = fs.length ∧ fs.length ≤ big ∧ VsAt G 7 (fun (x : ByteArray × VT) cs => ∃ r' : Vr, cs = .string x.1 :: r'.cells ∧ x.1.size ≤ big ∧ VC G d x.2 r') fs a

theorem Fs.mono {G G' : Gh} (hG : G ≤ G') {d : Nat} {fs : List (ByteArray × VT)} {a : Option Addr} {n : Nat} (h : Fs G d fs a n) : Fs G' d fs a n :=
  ⟨h.1, h.2.1, h.2.2.mono hG fun x cs ⟨r', h1, h2, h3⟩ => ⟨r', h1, h2, h3.mono hG (Nat.le_refl _)⟩⟩

/-- Bytes that are told, and whether they may be. -/
def OwnPost (G : Gh) (L : List HP) (v : Value) (w : World) : Prop :=
  ∃ (a : Option Addr) (c : Nat) (xs : List UInt8) (ok : Bool) (G' : Gh), v = .tuple #[.slice a xs.length c, .bool ok] ∧ G ≤ G' ∧ Bs G' a xs.length xs ∧ (ok = true → xs.length ≤ 70000) ∧ Holds G' w (all L)

def OwnS (d : Nat) : Prop := ∀ (t : VT) (r : Vr) (depth : Int) {G : Gh} {w : World} {L : List HP}, VC G d t r → Holds G w (all L) → Calls pg f_aqueductref5_own #[r.val, .int .i64 depth] w (Ret (OwnPost G L))
def FldS (d : Nat) : Prop := ∀ (fs : List (ByteArray × VT)) (a : Option Addr) (n c : Nat) (depth : Int) {G : Gh} {w : World} {L : List HP}, Fs G d fs a n → Holds G w (all L) → Calls pg f_aqueductref5_fields #[.slice a n c, .int .i64 depth] w (Ret (OwnPost G L))

section
variable {G : Gh} {w : World} {L : List HP}

theorem OwnPost.nil (h : Holds G w (all L)) (ok : Bool) : OwnPost G L (.tuple #[.slice none 0 0, .bool ok]) w := ⟨none, 0, [], ok, G, rfl, Gh.refl G, Bs.nil, fun _ => Nat.zero_le _, h⟩

theorem OwnPost.own {G1 : Gh} {a : Option Addr} {c : Nat} {l : List UInt8} {ok : Bool} (hG : G ≤ G1) (h : Holds G1 w (all (byt t_uint8 a c l :: L))) (hl : ok = true → l.length ≤ 70000) : OwnPost G L (.tuple #[.slice a l.length c, .bool ok]) w := by
  obtain ⟨G', hG', hb, h⟩ := h.byt_freeze
  exact ⟨a, c, l, ok, G', rfl, Gh.trans hG hG', hb, hl, h⟩

theorem fields_of {d : Nat} (ho : OwnS d) : FldS d := by
  intro fs a n c depth G w L hfs h
  obtain ⟨rfl, hbig, hts⟩ := hfs
  unfold big at hbig
  apply of_aqueductref5_fields
  unfold c_aqueductref5_fields
  refine make_b tok rfl rfl rfl rfl rfl h (by decide) (by decide) (fun b w h => ?_)
  refine ⟨_, _, _, rfl, ?_⟩
  refine Loop.inv (I := fun s' w => ∃ (i : Nat) (a : Option Addr) (c : Nat) (l : List UInt8) (u : Option Addr × Nat × Nat) (q : Bool) (G1 : Gh), s' = ((a, l.length, c), u, q, (i : Int)) ∧ i ≤ fs.length ∧ l.length ≤ 65536 ∧ 4 ≤ l.length ∧ G ≤ G1 ∧ Holds G1 w (all (byt t_uint8 a c l :: L)))
    (fun s' _ => fs.length - s'.2.2.2.toNat) ?_ ⟨0, _, _, _, _, _, G, rfl, Nat.zero_le _, by decide, by decide, Gh.refl G, h⟩
  clear h
  rintro X s' w ⟨i, oa, oc, l, u, q, G1, rfl, hi, hl, hl4, hG1, h⟩ hX
  intro j
  dsimp only
  by_cases hi' : i < fs.length
  · refine ctt (decide_eq_true (by omega)) ?_
    obtain ⟨fb, foff, cs, rfl, ⟨r', rfl, hns, hr'⟩, hlen, hc⟩ := hts i _ (List.getElem?_eq_getElem hi')
    have hb2 : 0 ≤ ((i : Nat) : Int) ∧ ((i : Nat) : Int) < ((fs.length : Nat) : Int) := ⟨by omega, by omega⟩
    have hc1 := fun j v hj => Gh.cell_mono hG1 (hc j v hj)
    simp only [ws, add_mk, Int.toNat_natCast]
    refine And.intro hb2 ?_
    repeat' (first
      | (refine New.at h (fun b w hh => ?_); clear h; have h := hh; clear hh)
      | (refine Drew.of h (fun w hh => ?_); clear h; have h := hh; clear hh)
      | (refine St.at h 0 _ rfl rfl rfl (fun w hh => ?_); clear h; have h := hh; clear hh; simp only [List.set_cons_zero, List.set_cons_succ] at h)
      | refine ⟨_, h.rd (hc1 0 _ rfl), ?_⟩
      | refine ⟨_, _, _, h.rd (hc1 0 _ rfl), ?_⟩
      | exact h.rd (hc1 0 _ rfl)
      | refine ⟨h.rd (hc1 0 _ rfl), ?_⟩
      | refine ⟨_, h.rd (hc1 1 _ rfl), ?_⟩
      | refine ⟨_, _, _, h.rd (hc1 1 _ rfl), ?_⟩
      | exact h.rd (hc1 1 _ rfl)
      | refine ⟨h.rd (hc1 1 _ rfl), ?_⟩
      | refine ⟨_, h.rd (hc1 2 _ rfl), ?_⟩
      | refine ⟨_, _, _, h.rd (hc1 2 _ rfl), ?_⟩
      | exact h.rd (hc1 2 _ rfl)
      | refine ⟨h.rd (hc1 2 _ rfl), ?_⟩
      | refine ⟨_, h.rd (hc1 3 _ rfl), ?_⟩
      | refine ⟨_, _, _, h.rd (hc1 3 _ rfl), ?_⟩
      | exact h.rd (hc1 3 _ rfl)
      | refine ⟨h.rd (hc1 3 _ rfl), ?_⟩
      | refine ⟨_, h.rd (hc1 4 _ rfl), ?_⟩
      | refine ⟨_, _, _, h.rd (hc1 4 _ rfl), ?_⟩
      | exact h.rd (hc1 4 _ rfl)
      | refine ⟨h.rd (hc1 4 _ rfl), ?_⟩
      | refine ⟨_, h.rd (hc1 5 _ rfl), ?_⟩
      | refine ⟨_, _, _, h.rd (hc1 5 _ rfl), ?_⟩
      | exact h.rd (hc1 5 _ rfl)
      | refine ⟨h.rd (hc1 5 _ rfl), ?_⟩
      | refine ⟨_, h.rd (hc1 6 _ rfl), ?_⟩
      | refine ⟨_, _, _, h.rd (hc1 6 _ rfl), ?_⟩
      | exact h.rd (hc1 6 _ rfl)
      | refine ⟨h.rd (hc1 6 _ rfl), ?_⟩
      | refine ⟨_, h.lda 0 _ rfl rfl, ?_⟩
      | refine ⟨_, _, _, h.lda 0 _ rfl rfl, ?_⟩
      | refine ⟨h.lda 0 _ rfl rfl, ?_⟩
      | exact h.lda 0 _ rfl rfl
      | refine ⟨_, rfl, ?_⟩
      | refine ⟨_, _, rfl, ?_⟩
      | refine ⟨_, _, _, rfl, ?_⟩
      | refine ⟨_, _, _, _, _, _, _, _, _, _, _, _, rfl, ?_⟩
      | refine ⟨_, _, _, _, _, _, _, _, _, _, _, _, _, rfl, ?_⟩
      | refine ctt rfl ?_
      | refine cff rfl ?_
      | refine Meet.dup ?_
      | intro j
      | rw [ws]
      | simp only [ws, add_mk]
      | refine And.intro ?_ ?_)
    refine CallR.of (ho _ _ _ (hr'.mono hG1 (Nat.le_refl _)) h) ?_
    rintro _ w ⟨xa, xc, xs, ok, G2, rfl, hG2, hxs, hok, h⟩
    have hc2 := fun j v hj => Gh.cell_mono hG2 (hc1 j v hj)
    refine ⟨_, _, _, _, rfl, ?_⟩
    refine Meet.mk (fun b w => (b = false → xs.length ≤ 70000 ∧ fs[i].1.size ≤ 120) ∧ Holds G2 w (all (byt t_uint8 oa oc l :: L))) ?_ ?_
    · cases ok with
      | false =>
        refine ctt rfl ?_
        exact ⟨(fun hx => by cases hx), h⟩
      | true =>
        refine cff rfl ?_
        refine And.intro hb2 ?_
        refine ⟨_, h.rd (hc2 0 _ rfl), ?_⟩
        refine CallR.of (NameMay_ok _ hns h) ?_
        rintro _ w ⟨bb, rfl, h120, h⟩
        refine ⟨_, rfl, ?_⟩
        exact ⟨(fun hx => ⟨hok rfl, h120 (by simpa using hx)⟩), h⟩
    · rintro bad w ⟨hbad, h⟩ j
      cases bad with
      | true =>
        refine ctt rfl ?_
        exact Ret.mk ⟨none, 0, [], false, G2, rfl, Gh.trans hG1 hG2, Bs.nil, (fun _ => Nat.zero_le _), h.tail⟩
      | false =>
        obtain ⟨hxl, hnl⟩ := hbad rfl
        refine cff rfl ?_
        refine Loop.inv (I := fun s' w => ∃ (k : Nat) (u : Option Addr × Nat × Nat) (q : Bool), s' = (u, q, (k : Int)) ∧ Holds G2 w (all (byt t_uint8 oa oc l :: L))) (fun s' _ => i - s'.2.2.toNat) ?_ ⟨0, _, _, rfl, h⟩
        clear h
        rintro Y s' w ⟨k, u, q, rfl, h⟩ hY
        intro j
        dsimp only
        by_cases hk : k < i
        · refine ctt (decide_eq_true (by omega)) ?_
          refine Drew.of h (fun w h => ?_)
          obtain ⟨fb', foff', cs', e', ⟨r2, rfl, _, _⟩, hlen', hc'⟩ := hts k _ (List.getElem?_eq_getElem (by omega))
          cases e'
          have hc3 := fun j v hj => Gh.cell_mono hG2 (Gh.cell_mono hG1 (hc' j v hj))
          refine And.intro ⟨by omega, by omega⟩ ?_
          refine ⟨_, h.rd (hc3 0 _ rfl), ?_⟩
          refine And.intro hb2 ?_
          refine ⟨_, h.rd (hc2 0 _ rfl), ?_⟩
          refine cif (fun _ => ?_) (fun _ => ?_)
          · exact Ret.mk ⟨none, 0, [], false, G2, rfl, Gh.trans hG1 hG2, Bs.nil, (fun _ => Nat.zero_le _), h.tail⟩
          · rw [wrap64_id (x := (k : Int) + 1) ⟨by omega, by omega⟩]
            exact hY _ _ ⟨k + 1, u, q, rfl, h⟩ (by dsimp only; omega)
        · refine cff (decide_eq_false (by omega)) ?_
          have e5 : IntKind.i64.wrap ((i : Int) + 1) = ((i + 1 : Nat) : Int) := wrap64_id ⟨by omega, by omega⟩
          rw [e5]
          have fin : ∀ (w : World) (a : Option Addr) (c : Nat) (l' : List UInt8) (u : Option Addr × Nat × Nat) (q : Bool), decide (((l'.length : Nat) : Int) > 65536) = false → 4 ≤ l'.length → Holds G2 w (all (byt t_uint8 a c l' :: L)) → X ((a, l'.length, c), u, q, ((i + 1 : Nat) : Int)) w := by
            intro w a c l' u q hlt h4 h
            have hlt := of_decide_eq_false hlt
            exact hX _ _ ⟨i + 1, a, c, l', u, q, G2, rfl, by omega, by omega, h4, Gh.trans hG1 hG2, h⟩ (by dsimp only; omega)
          have bad : ∀ (w : World) (Q : List HP), Holds G2 w (all L) → OwnPost G L (.tuple #[.slice none 0 0, .bool false]) w := fun w _ h => ⟨none, 0, [], false, G2, rfl, Gh.trans hG1 hG2, Bs.nil, (fun _ => Nat.zero_le _), h⟩
          have hsz : fs[i].1.data.toList.length ≤ 120 := by rw [Array.length_toList]; exact hnl
          refine Drew.of h (fun w h => ?_)
          repeat' (first
            | refine And.intro hb2 ?_
            | refine ⟨_, h.rd (hc2 0 _ rfl), ?_⟩
            | refine ⟨_, h.rd (hc2 1 _ rfl), ?_⟩
            | exact h.rd (hc2 0 _ rfl)
            | exact h.rd (hc2 1 _ rfl)
            | (refine CallR.of (code_ok _ h) ?_; rintro _ w ⟨cc, rfl, h⟩)
            | (refine New.at h (fun b w hh => ?_); clear h; have h := hh; clear hh)
            | (refine append_b tok rfl (.inl ⟨_, rfl⟩) rfl rfl rfl rfl rfl h 1 rfl (src1 h 0 rfl) (by simp <;> omega) (fun a' c' w hh => ?_); clear h; have h := hh; clear hh; simp only [List.eraseIdx_cons_zero, List.eraseIdx_cons_succ] at h)
            | (refine append_b tok rfl (.inl ⟨_, rfl⟩) rfl rfl rfl rfl rfl h 2 rfl (src1 h 0 rfl) (by simp <;> omega) (fun a' c' w hh => ?_); clear h; have h := hh; clear hh; simp only [List.eraseIdx_cons_zero, List.eraseIdx_cons_succ] at h)
            | (refine append_b tok rfl (.inl ⟨_, rfl⟩) rfl rfl rfl rfl rfl h 2 rfl (src1 h 1 rfl) (by simp <;> omega) (fun a' c' w hh => ?_); clear h; have h := hh; clear hh; simp only [List.eraseIdx_cons_zero, List.eraseIdx_cons_succ] at h)
            | (refine append_b tok rfl (.inl ⟨_, rfl⟩) rfl rfl rfl rfl rfl h 0 rfl (src0 h 1 rfl) (by simp <;> omega) (fun a' c' w hh => ?_); clear h; have h := hh; clear hh; simp only [List.eraseIdx_cons_zero, List.eraseIdx_cons_succ] at h)
            | (refine append_b tok rfl (.inl ⟨_, rfl⟩) rfl rfl rfl rfl rfl h 0 rfl (src0 h 2 rfl) (by simp <;> omega) (fun a' c' w hh => ?_); clear h; have h := hh; clear hh; simp only [List.eraseIdx_cons_zero, List.eraseIdx_cons_succ] at h)
            | (refine append_b tok rfl (.inl ⟨_, rfl⟩) rfl rfl rfl rfl rfl h 1 rfl (src0 h 0 rfl) (by simp <;> omega) (fun a' c' w hh => ?_); clear h; have h := hh; clear hh; simp only [List.eraseIdx_cons_zero, List.eraseIdx_cons_succ] at h)
            | (refine append_b tok rfl (.inr rfl) rfl rfl rfl rfl rfl h 0 rfl Src.str (by simp <;> omega) (fun a' c' w hh => ?_); clear h; have h := hh; clear hh; simp only [List.eraseIdx_cons_zero, List.eraseIdx_cons_succ] at h)
            | (refine append_b tok rfl (.inr rfl) rfl rfl rfl rfl rfl h 1 rfl Src.str (by simp <;> omega) (fun a' c' w hh => ?_); clear h; have h := hh; clear hh; simp only [List.eraseIdx_cons_zero, List.eraseIdx_cons_succ] at h)
            | (refine append_b tok rfl (.inl ⟨_, rfl⟩) rfl rfl rfl rfl rfl h 0 rfl (hxs.src h _) (by simp <;> omega) (fun a' c' w hh => ?_); clear h; have h := hh; clear hh; simp only [List.eraseIdx_cons_zero, List.eraseIdx_cons_succ] at h)
            | refine ⟨_, _, _, rfl, ?_⟩
            | refine ⟨_, rfl, ?_⟩
            | refine cif (fun hbig => ?_) (fun hbig => ?_)
            | exact fin _ _ _ _ _ _ hbig (by simp <;> omega) h
            | exact fin _ _ _ _ _ _ hbig (by simp <;> omega) h.skip
            | exact fin _ _ _ _ _ _ hbig (by simp <;> omega) h.skip.skip
            | exact Ret.mk (bad _ L h.tail)
            | exact Ret.mk (bad _ L h.tail.tail)
            | exact Ret.mk (bad _ L h.tail.tail.tail)
            | refine And.intro ?_ ?_)
  · refine cff (decide_eq_false (by omega)) ?_
    refine New.at h (fun b w h => ?_)
    refine append_b tok rfl (.inl ⟨_, rfl⟩) rfl rfl rfl rfl rfl h 1 rfl (src0 h 0 rfl) (by simp <;> omega) (fun a' c' w h => ?_)
    refine ⟨_, _, _, rfl, ?_⟩
    refine CallR.of (num_ok _ 4 (by decide) h.skip) ?_
    rintro _ w ⟨na, nc, rfl, h⟩
    refine ⟨_, _, _, rfl, ?_⟩
    refine copy_b tok rfl rfl rfl h 1 rfl (Src.byt_at h 0 rfl) (by simp <;> omega) (fun w h => ?_)
    refine ⟨_, rfl, ?_⟩
    have h := (h.bring 1 rfl).skip
    refine Ret.mk ?_
    have e6 : (List.map (leb ((l ++ [0]).length : Int)) (List.range 4) ++ (l ++ [0]).drop (List.map (leb ((l ++ [0]).length : Int)) (List.range 4)).length).length = (l ++ [0]).length := by simp; omega
    have := OwnPost.own (ok := decide ((((l ++ [0]).length : Nat) : Int) ≤ 65536)) hG1 h (fun hx => by have := of_decide_eq_true hx; rw [e6]; omega)
    rw [e6] at this
    exact this

theorem OwnPost.tail {A : HP} {v : Value} (h : OwnPost G (A :: L) v w) : OwnPost G L v w := by
  obtain ⟨a, c, xs, ok, G', h1, h2, h3, h4, h5⟩ := h
  exact ⟨a, c, xs, ok, G', h1, h2, h3, h4, h5.tail⟩

theorem own_of {d : Nat} (hf : FldS d) : OwnS (d + 1) := by
  intro t r depth G w L hv h
  obtain ⟨k, n, s, b, f, l⟩ := t
  have hv0 := hv
  obtain ⟨hk, hn, hs, hb, hfl, hll, hfs, hls, ik, iN, bs, bb, bf, bl⟩ := hv
  have bs' := bs
  have bl' := bl
  unfold big at bs' bl'
  apply of_aqueductref5_own
  unfold c_aqueductref5_own
  refine New.at h (fun b0 w h => ?_)
  have hread : blk b0 t_api_Value [.int .i64 r.k, .int .i64 r.n, .string r.s, .slice r.b r.bl r.bc, .slice r.f r.fl r.fc, .slice r.l r.ll r.lc] = blk b0 t_api_Value r.cells := rfl
  rw [hread] at h
  refine ⟨_, h.lda 0 0 rfl rfl, ?_⟩
  refine Meet.mk (fun _ w => Holds G w (all (blk b0 t_api_Value r.cells :: L))) ?_ ?_
  · repeat' (first
      | exact h
      | refine cif (fun _ => ?_) (fun _ => ?_))
  clear h
  intro s1 w h j
  refine cif (fun _ => ?_) (fun _ => ?_)
  · repeat' (first
      | (refine New.at h (fun b w hh => ?_); clear h; have h := hh; clear hh)
      | (refine Drew.of h (fun w hh => ?_); clear h; have h := hh; clear hh)
      | (refine St.at h 0 _ rfl rfl rfl (fun w hh => ?_); clear h; have h := hh; clear hh; simp only [List.set_cons_zero, List.set_cons_succ] at h)
      | (refine CallR.of (bare_ok r _ _ _ _ _ h) ?_; rintro _ w ⟨⟨bb, rfl⟩, h⟩)
      | refine ⟨_, h.lda 0 _ rfl rfl, ?_⟩
      | refine ⟨_, _, _, h.lda 0 _ rfl rfl, ?_⟩
      | refine ⟨h.lda 0 _ rfl rfl, ?_⟩
      | exact h.lda 0 _ rfl rfl
      | refine ⟨_, rfl, ?_⟩
      | refine ⟨_, _, rfl, ?_⟩
      | refine ⟨_, _, _, rfl, ?_⟩
      | refine ⟨_, _, _, _, _, _, _, _, _, _, _, _, rfl, ?_⟩
      | refine ⟨_, _, _, _, _, _, _, _, _, _, _, _, _, rfl, ?_⟩
      | refine ctt rfl ?_
      | refine cff rfl ?_
      | refine Meet.dup ?_
      | intro j
      | rw [ws]
      | simp only [ws, add_mk]
      | refine And.intro ?_ ?_)
    exact Ret.mk (OwnPost.nil h.tail bb)
  refine cif (fun _ => ?_) (fun _ => ?_)
  · refine Meet.mk (fun s' w => ∃ (a : Option Addr) (c : Nat) (xs : List UInt8), s'.1 = (a, xs.length, c) ∧ xs.length ≤ 70000 ∧ Holds G w (all (byt t_uint8 a c xs :: blk b0 t_api_Value r.cells :: L))) ?_ ?_
    · repeat' (first
        | (refine New.at h (fun b w hh => ?_); clear h; have h := hh; clear hh)
        | (refine Drew.of h (fun w hh => ?_); clear h; have h := hh; clear hh)
        | (refine St.at h 0 _ rfl rfl rfl (fun w hh => ?_); clear h; have h := hh; clear hh; simp only [List.set_cons_zero, List.set_cons_succ] at h)
        | (refine St.at h 1 _ rfl rfl rfl (fun w hh => ?_); clear h; have h := hh; clear hh; simp only [List.set_cons_zero, List.set_cons_succ] at h)
        | (refine CallR.of (num_ok _ 4 (by decide) h) ?_; rintro _ w ⟨a1, c1, rfl, h⟩)
        | (refine CallR.of (bare_ok r _ _ _ _ _ h) ?_; rintro _ w ⟨⟨bb, rfl⟩, h⟩)
        | exact ⟨_, _, _, rfl, (by simp), h⟩
        | refine cif (fun _ => ?_) (fun _ => ?_)
        | refine ⟨_, h.lda 0 _ rfl rfl, ?_⟩
        | refine ⟨_, _, _, h.lda 0 _ rfl rfl, ?_⟩
        | refine ⟨h.lda 0 _ rfl rfl, ?_⟩
        | refine ⟨_, h.lda 1 _ rfl rfl, ?_⟩
        | refine ⟨_, _, _, h.lda 1 _ rfl rfl, ?_⟩
        | refine ⟨h.lda 1 _ rfl rfl, ?_⟩
        | exact h.lda 0 _ rfl rfl
        | exact h.lda 1 _ rfl rfl
        | refine ⟨_, rfl, ?_⟩
        | refine ⟨_, _, rfl, ?_⟩
        | refine ⟨_, _, _, rfl, ?_⟩
        | refine ⟨_, _, _, _, _, _, _, _, _, _, _, _, rfl, ?_⟩
        | refine ⟨_, _, _, _, _, _, _, _, _, _, _, _, _, rfl, ?_⟩
        | refine ctt rfl ?_
        | refine cff rfl ?_
        | refine Meet.dup ?_
        | intro j
        | rw [ws]
        | simp only [ws, add_mk]
        | refine And.intro ?_ ?_)
    · rintro ⟨⟨a, m, c⟩, ok⟩ w ⟨a', c', xs, e, hl, h⟩ j
      cases e
      exact Ret.mk (OwnPost.own (Gh.refl G) h.skip (fun _ => hl))
  refine Meet.mk (fun _ w => Holds G w (all (blk b0 t_api_Value r.cells :: L))) ?_ ?_
  · repeat' (first
      | exact h
      | refine cif (fun _ => ?_) (fun _ => ?_))
  clear h
  intro s2 w h j
  refine cif (fun _ => ?_) (fun _ => ?_)
  · repeat' (first
      | (refine New.at h (fun b w hh => ?_); clear h; have h := hh; clear hh)
      | (refine Drew.of h (fun w hh => ?_); clear h; have h := hh; clear hh)
      | (refine St.at h 0 _ rfl rfl rfl (fun w hh => ?_); clear h; have h := hh; clear hh; simp only [List.set_cons_zero, List.set_cons_succ] at h)
      | (refine St.at h 1 _ rfl rfl rfl (fun w hh => ?_); clear h; have h := hh; clear hh; simp only [List.set_cons_zero, List.set_cons_succ] at h)
      | (refine CallR.of (num_ok _ 8 (by decide) h) ?_; rintro _ w ⟨a1, c1, rfl, h⟩)
      | (refine CallR.of (bare_ok r _ _ _ _ _ h) ?_; rintro _ w ⟨⟨bb, rfl⟩, h⟩)
      | refine ⟨_, h.lda 0 _ rfl rfl, ?_⟩
      | refine ⟨_, _, _, h.lda 0 _ rfl rfl, ?_⟩
      | refine ⟨h.lda 0 _ rfl rfl, ?_⟩
      | refine ⟨_, h.lda 1 _ rfl rfl, ?_⟩
      | refine ⟨_, _, _, h.lda 1 _ rfl rfl, ?_⟩
      | refine ⟨h.lda 1 _ rfl rfl, ?_⟩
      | exact h.lda 0 _ rfl rfl
      | exact h.lda 1 _ rfl rfl
      | refine ⟨_, rfl, ?_⟩
      | refine ⟨_, _, rfl, ?_⟩
      | refine ⟨_, _, _, rfl, ?_⟩
      | refine ⟨_, _, _, _, _, _, _, _, _, _, _, _, rfl, ?_⟩
      | refine ⟨_, _, _, _, _, _, _, _, _, _, _, _, _, rfl, ?_⟩
      | refine ctt rfl ?_
      | refine cff rfl ?_
      | refine Meet.dup ?_
      | intro j
      | rw [ws]
      | simp only [ws, add_mk]
      | refine And.intro ?_ ?_)
    exact Ret.mk (OwnPost.own (Gh.refl G) h.skip (fun _ => by simp))
  refine cif (fun _ => ?_) (fun _ => ?_)
  · refine Meet.mk (fun s' w => ∃ (a : Option Addr) (c : Nat) (xs : List UInt8), s'.1 = (a, xs.length, c) ∧ xs.length ≤ 70000 ∧ Holds G w (all (byt t_uint8 a c xs :: blk b0 t_api_Value r.cells :: L))) ?_ ?_
    · repeat' (first
        | (refine New.at h (fun b w hh => ?_); clear h; have h := hh; clear hh)
        | (refine Drew.of h (fun w hh => ?_); clear h; have h := hh; clear hh)
        | (refine St.at h 0 _ rfl rfl rfl (fun w hh => ?_); clear h; have h := hh; clear hh; simp only [List.set_cons_zero, List.set_cons_succ] at h)
        | (refine St.at h 1 _ rfl rfl rfl (fun w hh => ?_); clear h; have h := hh; clear hh; simp only [List.set_cons_zero, List.set_cons_succ] at h)
        | (refine CallR.of (num_ok _ 1 (by decide) h) ?_; rintro _ w ⟨a1, c1, rfl, h⟩)
        | (refine CallR.of (bare_ok r _ _ _ _ _ h) ?_; rintro _ w ⟨⟨bb, rfl⟩, h⟩)
        | exact ⟨_, _, _, rfl, (by simp), h⟩
        | refine cif (fun _ => ?_) (fun _ => ?_)
        | refine ⟨_, h.lda 0 _ rfl rfl, ?_⟩
        | refine ⟨_, _, _, h.lda 0 _ rfl rfl, ?_⟩
        | refine ⟨h.lda 0 _ rfl rfl, ?_⟩
        | refine ⟨_, h.lda 1 _ rfl rfl, ?_⟩
        | refine ⟨_, _, _, h.lda 1 _ rfl rfl, ?_⟩
        | refine ⟨h.lda 1 _ rfl rfl, ?_⟩
        | exact h.lda 0 _ rfl rfl
        | exact h.lda 1 _ rfl rfl
        | refine ⟨_, rfl, ?_⟩
        | refine ⟨_, _, rfl, ?_⟩
        | refine ⟨_, _, _, rfl, ?_⟩
        | refine ⟨_, _, _, _, _, _, _, _, _, _, _, _, rfl, ?_⟩
        | refine ⟨_, _, _, _, _, _, _, _, _, _, _, _, _, rfl, ?_⟩
        | refine ctt rfl ?_
        | refine cff rfl ?_
        | refine Meet.dup ?_
        | intro j
        | rw [ws]
        | simp only [ws, add_mk]
        | refine And.intro ?_ ?_)
    · rintro ⟨⟨a, m, c⟩, ok⟩ w ⟨a', c', xs, e, hl, h⟩ j
      cases e
      exact Ret.mk (OwnPost.own (Gh.refl G) h.skip (fun _ => hl))
  refine cif (fun _ => ?_) (fun _ => ?_)
  · -- Text
    refine ⟨_, h.lda 0 2 rfl rfl, ?_⟩
    refine cif (fun _ => ?_) (fun hlen => ?_)
    · exact Ret.mk (OwnPost.nil h.tail false)
    have hlen := of_decide_eq_false hlen
    have hsz : r.s.data.toList.length ≤ 65536 := by
      have : r.s.data.toList.length = r.s.size := by rw [Array.length_toList]; rfl
      omega
    have hbs : r.s.size ≤ big := by rw [hs]; exact bs
    refine Meet.mk (fun s' w => ∃ (a : Option Addr) (c : Nat) (xs : List UInt8), s'.1 = (a, xs.length, c) ∧ xs.length ≤ 70000 ∧ Holds G w (all (byt t_uint8 a c xs :: blk b0 t_api_Value r.cells :: L))) ?_ ?_
    · refine Drew.of h (fun w h => ?_)
      repeat' (first
        | refine ⟨_, h.lda 0 2 rfl rfl, ?_⟩
        | refine ⟨_, h.lda 0 0 rfl rfl, ?_⟩
        | refine ⟨_, h.lda 0 1 rfl rfl, ?_⟩
        | refine ⟨_, _, _, h.lda 0 3 rfl rfl, ?_⟩
        | refine ⟨_, _, _, h.lda 0 4 rfl rfl, ?_⟩
        | refine ⟨_, _, _, h.lda 0 5 rfl rfl, ?_⟩
        | exact h.lda 0 0 rfl rfl
        | exact h.lda 0 1 rfl rfl
        | exact h.lda 0 2 rfl rfl
        | exact h.lda 0 3 rfl rfl
        | exact h.lda 0 4 rfl rfl
        | exact h.lda 0 5 rfl rfl
        | exact h.lda 1 0 rfl rfl
        | exact h.lda 1 1 rfl rfl
        | exact h.lda 1 2 rfl rfl
        | exact h.lda 1 3 rfl rfl
        | exact h.lda 1 4 rfl rfl
        | exact h.lda 1 5 rfl rfl
        | exact h.lda 2 0 rfl rfl
        | exact h.lda 2 1 rfl rfl
        | exact h.lda 2 2 rfl rfl
        | exact h.lda 2 3 rfl rfl
        | exact h.lda 2 4 rfl rfl
        | exact h.lda 2 5 rfl rfl
        | refine ⟨_, h.lda 1 2 rfl rfl, ?_⟩
        | refine ⟨_, h.lda 2 2 rfl rfl, ?_⟩
        | (refine CallR.of (num_ok _ 4 (by decide) h) ?_; rintro _ w ⟨a1, c1, rfl, h⟩)
        | (refine CallR.of (bare_ok r _ _ _ _ _ h) ?_; rintro _ w ⟨⟨bb, rfl⟩, h⟩)
        | (refine CallR.of (Utf8_ok _ hbs h) ?_; rintro _ w ⟨bb, rfl, h⟩)
        | (refine append_b tok rfl (.inr rfl) rfl rfl rfl rfl rfl h 0 rfl Src.str (by simp <;> omega) (fun a' c' w hh => ?_); clear h; have h := hh; clear hh; simp only [List.eraseIdx_cons_zero, List.eraseIdx_cons_succ] at h)
        | (refine append_b tok rfl (.inr rfl) rfl rfl rfl rfl rfl h 1 rfl Src.str (by simp <;> omega) (fun a' c' w hh => ?_); clear h; have h := hh; clear hh; simp only [List.eraseIdx_cons_zero, List.eraseIdx_cons_succ] at h)
        | (refine append_b tok rfl (.inl ⟨_, rfl⟩) rfl rfl rfl rfl rfl h 1 rfl (src0 h 0 rfl) (by simp <;> omega) (fun a' c' w hh => ?_); clear h; simp only [List.eraseIdx_cons_zero, List.eraseIdx_cons_succ] at hh; have h := hh.skip; clear hh)
        | (refine append_b tok rfl (.inl ⟨_, rfl⟩) rfl rfl rfl rfl rfl h 0 rfl (src0 h 1 rfl) (by simp <;> omega) (fun a' c' w hh => ?_); clear h; simp only [List.eraseIdx_cons_zero, List.eraseIdx_cons_succ] at hh; have h := hh.skip; clear hh)
        | (refine New.at h (fun b w hh => ?_); clear h; have h := hh; clear hh)
        | exact ⟨_, _, _, rfl, (by simp <;> omega), h⟩
        | refine ⟨_, _, _, rfl, ?_⟩
        | refine ⟨_, rfl, ?_⟩
        | refine cif (fun _ => ?_) (fun _ => ?_)
        | refine And.intro ?_ ?_)
    · rintro ⟨⟨a, m, c⟩, ok⟩ w ⟨a', c', xs, e, hl, h⟩ j
      cases e
      exact Ret.mk (OwnPost.own (Gh.refl G) h.skip (fun _ => hl))
  refine cif (fun _ => ?_) (fun _ => ?_)
  · -- Bytes
    refine ⟨_, _, _, h.lda 0 3 rfl rfl, ?_⟩
    refine cif (fun _ => ?_) (fun hlen => ?_)
    · exact Ret.mk (OwnPost.nil h.tail false)
    have hlen := of_decide_eq_false hlen
    have hbl := hb.1
    refine Drew.of h (fun w h => ?_)
    rw [← hbl] at hb
    repeat' (first
        | refine ⟨_, h.lda 0 2 rfl rfl, ?_⟩
        | refine ⟨_, h.lda 0 0 rfl rfl, ?_⟩
        | refine ⟨_, h.lda 0 1 rfl rfl, ?_⟩
        | refine ⟨_, _, _, h.lda 0 3 rfl rfl, ?_⟩
        | refine ⟨_, _, _, h.lda 0 4 rfl rfl, ?_⟩
        | refine ⟨_, _, _, h.lda 0 5 rfl rfl, ?_⟩
        | exact h.lda 0 0 rfl rfl
        | exact h.lda 0 1 rfl rfl
        | exact h.lda 0 2 rfl rfl
        | exact h.lda 0 3 rfl rfl
        | exact h.lda 0 4 rfl rfl
        | exact h.lda 0 5 rfl rfl
        | exact h.lda 1 0 rfl rfl
        | exact h.lda 1 1 rfl rfl
        | exact h.lda 1 2 rfl rfl
        | exact h.lda 1 3 rfl rfl
        | exact h.lda 1 4 rfl rfl
        | exact h.lda 1 5 rfl rfl
        | exact h.lda 2 0 rfl rfl
        | exact h.lda 2 1 rfl rfl
        | exact h.lda 2 2 rfl rfl
        | exact h.lda 2 3 rfl rfl
        | exact h.lda 2 4 rfl rfl
        | exact h.lda 2 5 rfl rfl
        | (refine CallR.of (num_ok _ 4 (by decide) h) ?_; rintro _ w ⟨a1, c1, rfl, h⟩)
        | (refine CallR.of (bare_ok r _ _ _ _ _ h) ?_; rintro _ w ⟨⟨bb, rfl⟩, h⟩)
        | (refine append_b tok rfl (.inl ⟨_, rfl⟩) rfl rfl rfl rfl rfl h 1 rfl (src0 h 0 rfl) (by simp <;> omega) (fun a' c' w hh => ?_); clear h; simp only [List.eraseIdx_cons_zero, List.eraseIdx_cons_succ] at hh; have h := hh.skip; clear hh)
        | (refine append_b tok rfl (.inl ⟨_, rfl⟩) rfl rfl rfl rfl rfl h 0 rfl (src0 h 1 rfl) (by simp <;> omega) (fun a' c' w hh => ?_); clear h; simp only [List.eraseIdx_cons_zero, List.eraseIdx_cons_succ] at hh; have h := hh.skip; clear hh)
        | (refine append_b tok rfl (.inl ⟨_, rfl⟩) rfl rfl rfl rfl rfl h 0 rfl (by rw [← hbl]; exact hb.src h _) (by simp <;> omega) (fun a' c' w hh => ?_); clear h; have h := hh; clear hh; simp only [List.eraseIdx_cons_zero, List.eraseIdx_cons_succ] at h)
        | (refine New.at h (fun b w hh => ?_); clear h; have h := hh; clear hh)
        | refine ⟨_, _, _, rfl, ?_⟩
        | refine ⟨_, rfl, ?_⟩
        | exact Ret.mk (OwnPost.own (Gh.refl G) h.skip (fun _ => by simp <;> omega))
        | refine cif (fun _ => ?_) (fun _ => ?_)
        | refine And.intro ?_ ?_)
  refine cif (fun _ => ?_) (fun _ => ?_)
  · -- Id
    have hbl := hb.1
    have ft : (false = true) → r.bl = 12 := fun hx => by cases hx
    have bt : ∀ {x : Nat}, (((x : Nat) : Int) == 12) = true → x = 12 := fun hx => by
      have := eq_of_beq hx
      omega
    refine Meet.mk (fun s' w => s'.1 = (r.b, r.bl, r.bc) ∧ (s'.2 = true → r.bl = 12) ∧ Holds G w (all (blk b0 t_api_Value r.cells :: L))) ?_ ?_
    · repeat' (first
        | (refine New.at h (fun b w hh => ?_); clear h; have h := hh; clear hh)
        | (refine Drew.of h (fun w hh => ?_); clear h; have h := hh; clear hh)
        | (refine St.at h 0 _ rfl rfl rfl (fun w hh => ?_); clear h; have h := hh; clear hh; simp only [List.set_cons_zero, List.set_cons_succ] at h)
        | (refine CallR.of (bare_ok r _ _ _ _ _ h) ?_; rintro _ w ⟨⟨bb, rfl⟩, h⟩)
        | exact ⟨rfl, bt, h⟩
        | exact ⟨rfl, ft, h⟩
        | refine cif (fun _ => ?_) (fun _ => ?_)
        | refine ⟨_, h.lda 0 _ rfl rfl, ?_⟩
        | refine ⟨_, _, _, h.lda 0 _ rfl rfl, ?_⟩
        | refine ⟨h.lda 0 _ rfl rfl, ?_⟩
        | exact h.lda 0 _ rfl rfl
        | refine ⟨_, rfl, ?_⟩
        | refine ⟨_, _, rfl, ?_⟩
        | refine ⟨_, _, _, rfl, ?_⟩
        | refine ⟨_, _, _, _, _, _, _, _, _, _, _, _, rfl, ?_⟩
        | refine ⟨_, _, _, _, _, _, _, _, _, _, _, _, _, rfl, ?_⟩
        | refine ctt rfl ?_
        | refine cff rfl ?_
        | refine Meet.dup ?_
        | intro j
        | rw [ws]
        | simp only [ws, add_mk]
        | refine And.intro ?_ ?_)
    · rintro ⟨⟨a, m, c⟩, ok⟩ w ⟨e, hl, h⟩ j
      cases e
      refine Ret.mk ⟨r.b, r.bc, b, ok, G, ?_, Gh.refl G, ?_, fun hx => ?_, h.tail⟩
      · rw [hbl]
      · rw [hbl]; exact hb
      · have := hl hx
        omega
  refine cif (fun _ => ?_) (fun _ => ?_)
  · -- Doc
    refine Meet.mk (fun _ w => Holds G w (all (blk b0 t_api_Value r.cells :: L))) ?_ ?_
    · repeat' (first
        | (refine New.at h (fun b w hh => ?_); clear h; have h := hh; clear hh)
        | (refine Drew.of h (fun w hh => ?_); clear h; have h := hh; clear hh)
        | (refine St.at h 0 _ rfl rfl rfl (fun w hh => ?_); clear h; have h := hh; clear hh; simp only [List.set_cons_zero, List.set_cons_succ] at h)
        | (refine CallR.of (bare_ok r _ _ _ _ _ h) ?_; rintro _ w ⟨⟨bb, rfl⟩, h⟩)
        | refine cif (fun _ => ?_) (fun _ => ?_)
        | exact h
        | refine ⟨_, h.lda 0 _ rfl rfl, ?_⟩
        | refine ⟨_, _, _, h.lda 0 _ rfl rfl, ?_⟩
        | refine ⟨h.lda 0 _ rfl rfl, ?_⟩
        | exact h.lda 0 _ rfl rfl
        | refine ⟨_, rfl, ?_⟩
        | refine ⟨_, _, rfl, ?_⟩
        | refine ⟨_, _, _, rfl, ?_⟩
        | refine ⟨_, _, _, _, _, _, _, _, _, _, _, _, rfl, ?_⟩
        | refine ⟨_, _, _, _, _, _, _, _, _, _, _, _, _, rfl, ?_⟩
        | refine ctt rfl ?_
        | refine cff rfl ?_
        | refine Meet.dup ?_
        | intro j
        | rw [ws]
        | simp only [ws, add_mk]
        | refine And.intro ?_ ?_)
    · intro s3 w h j
      refine cif (fun _ => ?_) (fun _ => ?_)
      · exact Ret.mk (OwnPost.nil h.tail false)
      · refine ⟨_, _, _, h.lda 0 4 rfl rfl, ?_⟩
        refine CallR.of (hf f _ _ _ _ ⟨hfl, bf, hfs⟩ h) ?_
        rintro _ w ⟨a, c, xs, ok, G', rfl, hG, hB, hok, h⟩
        refine ⟨_, _, _, _, rfl, ?_⟩
        exact Ret.mk ⟨a, c, xs, ok, G', rfl, hG, hB, hok, h.tail⟩
  refine cif (fun _ => ?_) (fun _ => ?_)
  · -- List
    have tf : (true = false) → l.length ≤ 65536 := fun hx => by cases hx
    have le65 : decide (((r.ll : Nat) : Int) > 65536) = false → l.length ≤ 65536 := fun hx => by
      have := of_decide_eq_false hx
      omega
    refine Meet.mk (fun b w => (b = false → l.length ≤ 65536) ∧ Holds G w (all (blk b0 t_api_Value r.cells :: L))) ?_ ?_
    · repeat' (first
        | (refine New.at h (fun b w hh => ?_); clear h; have h := hh; clear hh)
        | (refine Drew.of h (fun w hh => ?_); clear h; have h := hh; clear hh)
        | (refine St.at h 0 _ rfl rfl rfl (fun w hh => ?_); clear h; have h := hh; clear hh; simp only [List.set_cons_zero, List.set_cons_succ] at h)
        | (refine CallR.of (bare_ok r _ _ _ _ _ h) ?_; rintro _ w ⟨⟨bb, rfl⟩, h⟩)
        | exact ⟨tf, h⟩
        | exact ⟨le65, h⟩
        | refine cif (fun _ => ?_) (fun _ => ?_)
        | refine ⟨_, h.lda 0 _ rfl rfl, ?_⟩
        | refine ⟨_, _, _, h.lda 0 _ rfl rfl, ?_⟩
        | refine ⟨h.lda 0 _ rfl rfl, ?_⟩
        | exact h.lda 0 _ rfl rfl
        | refine ⟨_, rfl, ?_⟩
        | refine ⟨_, _, rfl, ?_⟩
        | refine ⟨_, _, _, rfl, ?_⟩
        | refine ⟨_, _, _, _, _, _, _, _, _, _, _, _, rfl, ?_⟩
        | refine ⟨_, _, _, _, _, _, _, _, _, _, _, _, _, rfl, ?_⟩
        | refine ctt rfl ?_
        | refine cff rfl ?_
        | refine Meet.dup ?_
        | intro j
        | rw [ws]
        | simp only [ws, add_mk]
        | refine And.intro ?_ ?_)
    · rintro s3 w ⟨h65, h⟩ j
      refine cif (fun _ => ?_) (fun hx => ?_)
      · exact Ret.mk (OwnPost.nil h.tail false)
      have hl65 := h65 hx
      refine Loop.inv (I := fun s' w => ∃ (i : Nat) (a : Option Addr) (c : Nat) (nms : List ByteArray) (els : List (List Value)), s' = ((a, i, c), (i : Int)) ∧ i ≤ l.length ∧ nms.length = i ∧ els.length = i ∧ (∀ e ∈ els, e.length = 7) ∧
          (∀ m t, m < i → l[m]? = some t → ∃ nm r', nms[m]? = some nm ∧ nm.size ≤ 20 ∧ els[m]? = some (.string nm :: Vr.cells r') ∧ VC G d t r') ∧ (∀ v ∈ els.flatten, oneCell v = true) ∧ Holds G w (all (own t_api_Field 7 a i c els.flatten :: blk b0 t_api_Value r.cells :: L)))
        (fun s' _ => l.length - s'.2.toNat) ?_ ⟨0, none, 0, [], [], rfl, Nat.zero_le _, rfl, rfl, (by simp), (by simp), (by simp), h.own_nil⟩
      clear h
      rintro X s' w ⟨i, a, c, nms, els, rfl, hi, hnl, hel, h7, hels, hone, h⟩ hX
      intro j
      dsimp only
      refine ⟨_, _, _, h.lda 1 5 rfl rfl, ?_⟩
      by_cases hi' : i < l.length
      · refine ctt (decide_eq_true (by omega)) ?_
        refine Drew.of h (fun w h => ?_)
        refine ⟨_, _, _, h.lda 1 5 rfl rfl, ?_⟩
        obtain ⟨fb, foff, cs, e1, ⟨r', rfl, hr'⟩, hlen, hc⟩ := hls i _ (List.getElem?_eq_getElem hi')
        have hb2 : 0 ≤ ((i : Nat) : Int) ∧ ((i : Nat) : Int) < ((r.ll : Nat) : Int) := ⟨by omega, by omega⟩
        rw [e1]
        simp only [ws, add_mk, Int.toNat_natCast]
        refine And.intro hb2 ?_
        repeat' (first
          | (refine New.at h (fun b w hh => ?_); clear h; have h := hh; clear hh)
          | (refine Drew.of h (fun w hh => ?_); clear h; have h := hh; clear hh)
          | (refine St.at h 0 _ rfl rfl rfl (fun w hh => ?_); clear h; have h := hh; clear hh; simp only [List.set_cons_zero, List.set_cons_succ] at h)
          | refine ⟨_, h.rd (hc 0 _ rfl), ?_⟩
          | refine ⟨_, _, _, h.rd (hc 0 _ rfl), ?_⟩
          | exact h.rd (hc 0 _ rfl)
          | refine ⟨h.rd (hc 0 _ rfl), ?_⟩
          | refine ⟨_, h.rd (hc 1 _ rfl), ?_⟩
          | refine ⟨_, _, _, h.rd (hc 1 _ rfl), ?_⟩
          | exact h.rd (hc 1 _ rfl)
          | refine ⟨h.rd (hc 1 _ rfl), ?_⟩
          | refine ⟨_, h.rd (hc 2 _ rfl), ?_⟩
          | refine ⟨_, _, _, h.rd (hc 2 _ rfl), ?_⟩
          | exact h.rd (hc 2 _ rfl)
          | refine ⟨h.rd (hc 2 _ rfl), ?_⟩
          | refine ⟨_, h.rd (hc 3 _ rfl), ?_⟩
          | refine ⟨_, _, _, h.rd (hc 3 _ rfl), ?_⟩
          | exact h.rd (hc 3 _ rfl)
          | refine ⟨h.rd (hc 3 _ rfl), ?_⟩
          | refine ⟨_, h.rd (hc 4 _ rfl), ?_⟩
          | refine ⟨_, _, _, h.rd (hc 4 _ rfl), ?_⟩
          | exact h.rd (hc 4 _ rfl)
          | refine ⟨h.rd (hc 4 _ rfl), ?_⟩
          | refine ⟨_, h.rd (hc 5 _ rfl), ?_⟩
          | refine ⟨_, _, _, h.rd (hc 5 _ rfl), ?_⟩
          | exact h.rd (hc 5 _ rfl)
          | refine ⟨h.rd (hc 5 _ rfl), ?_⟩
          | refine ⟨_, h.lda 0 _ rfl rfl, ?_⟩
          | refine ⟨_, _, _, h.lda 0 _ rfl rfl, ?_⟩
          | refine ⟨h.lda 0 _ rfl rfl, ?_⟩
          | exact h.lda 0 _ rfl rfl
          | refine ⟨_, rfl, ?_⟩
          | refine ⟨_, _, rfl, ?_⟩
          | refine ⟨_, _, _, rfl, ?_⟩
          | refine ⟨_, _, _, _, _, _, _, _, _, _, _, _, rfl, ?_⟩
          | refine ⟨_, _, _, _, _, _, _, _, _, _, _, _, _, rfl, ?_⟩
          | refine ctt rfl ?_
          | refine cff rfl ?_
          | refine Meet.dup ?_
          | intro j
          | rw [ws]
          | simp only [ws, add_mk]
          | refine And.intro ?_ ?_)
        refine CallR.of (digits_ok i (by omega) h) ?_
        rintro _ w ⟨nm, rfl, hnm, h⟩
        refine ⟨_, rfl, ?_⟩
        refine ⟨⟨h.rd (hc 0 _ rfl), h.rd (hc 1 _ rfl), h.rd (hc 2 _ rfl), h.rd (hc 3 _ rfl), h.rd (hc 4 _ rfl), h.rd (hc 5 _ rfl)⟩, ?_⟩
        refine ⟨by have := h.lda 1 5 (v := .slice r.l r.ll r.lc) rfl rfl; rw [e1] at this; exact this, ?_⟩
        refine New.at h (fun b3 w h => ?_)
        refine append_at tok rfl (.inl ⟨_, rfl⟩) rfl rfl rfl h 1 rfl (Src.blk_at (m := 1) h 0 rfl rfl rfl) (by show (2 * (i + 1) + 1000) * 120 ≤ 2 ^ 48; omega) (by omega) (fun a' c' w h => ?_)
        refine ⟨_, _, _, rfl, ?_⟩
        rw [wrap64_id (x := (i : Int) + 1) ⟨by omega, by omega⟩]
        have h := h.skip
        refine hX _ _ ⟨i + 1, a', c', nms ++ [nm], els ++ [.string nm :: Vr.cells r'], rfl, by omega, by simp [hnl], by simp [hel], ?_, ?_, ?_, ?_⟩ (by dsimp only; omega)
        · intro e he
          rcases List.mem_append.1 he with he | he
          · exact h7 e he
          · cases List.mem_singleton.1 he
            rfl
        · intro m t hm ht
          by_cases hmi : m < i
          · obtain ⟨nm', r2, q1, q2, q3, q4⟩ := hels m t hmi ht
            exact ⟨nm', r2, by rw [List.getElem?_append_left (by omega)]; exact q1, q2, by rw [List.getElem?_append_left (by omega)]; exact q3, q4⟩
          · obtain rfl : m = i := by omega
            rw [List.getElem?_eq_getElem hi'] at ht
            cases ht
            exact ⟨nm, r', by rw [List.getElem?_append_right (by omega), hnl]; simp, hnm, by rw [List.getElem?_append_right (by omega), hel]; simp, hr'⟩
        · intro v hv
          rw [List.flatten_append] at hv
          rcases List.mem_append.1 hv with hv | hv
          · exact hone v hv
          · simp only [List.flatten_cons, List.flatten_nil, List.append_nil, List.mem_cons, List.not_mem_nil, or_false] at hv
            rcases hv with rfl | rfl | rfl | rfl | rfl | rfl | rfl <;> rfl
        · rw [List.flatten_append]
          exact h
      · refine cff (decide_eq_false (by omega)) ?_
        obtain rfl : i = l.length := by omega
        obtain ⟨G1, hG1, hcell, h⟩ := Holds.own_freeze2 h
        have hz : (nms.zip l).length = l.length := by rw [List.length_zip]; omega
        refine CallR.of (hf (nms.zip l) a _ _ _ ⟨hz.symm, by rw [hz]; exact bl, ?_⟩ h) ?_
        · intro m x hx
          obtain ⟨hx1, hx2⟩ := List.getElem?_zip_eq_some.1 hx
          have hm : m < l.length := (List.getElem?_eq_some_iff.1 hx2).1
          obtain ⟨nm, r', q1, q2, q3, q4⟩ := hels m x.2 hm hx2
          rw [q1] at hx1
          cases hx1
          have hflat : ∀ (jj : Nat) (v : Value), (Value.string x.1 :: Vr.cells r')[jj]? = some v → els.flatten[m * 7 + jj]? = some v := by
            intro jj v hv
            have hjj : jj < 7 := by
              have := (List.getElem?_eq_some_iff.1 hv).1
              simpa using this
            rw [flat_get els m jj h7 hjj, q3]
            exact hv
          obtain ⟨b9, off9, e9, _⟩ := hcell _ _ (hflat 0 _ rfl)
          refine ⟨b9, off9, _, e9, ⟨r', rfl, Nat.le_trans q2 (by unfold big; omega), q4.mono hG1 (Nat.le_refl _)⟩, rfl, fun jj v hv => ?_⟩
          obtain ⟨b8, off8, e8, hc8⟩ := hcell _ _ (hflat jj v hv)
          rw [e9] at e8
          cases e8
          rw [Nat.add_assoc]
          exact hc8
        · rintro _ w ⟨a9, c9, xs, ok, G', rfl, hG, hB, hok, h⟩
          refine ⟨_, _, _, _, rfl, ?_⟩
          exact Ret.mk ⟨a9, c9, xs, ok, G', rfl, Gh.trans hG1 hG, hB, hok, h.tail⟩
  · exact Ret.mk (OwnPost.nil h.tail false)

theorem own_all : ∀ d, OwnS d
  | 0 => fun _ _ _ _ _ _ hv => hv.elim
  | d + 1 => own_of (fields_of (own_all d))

theorem Encode_ok {d : Nat} {t : VT} {r : Vr} (hv : VC G d t r) (h : Holds G w (all L)) :
    Calls pg f_aqueductref5_Encode #[r.val] w (Ret fun v w' => ∃ (a : Option Addr) (n c : Nat) (e : Int) (G' : Gh), v = .tuple #[.slice a n c, .int .i64 e] ∧ G ≤ G' ∧ Holds G' w' (all L)) := by
  apply of_aqueductref5_Encode
  unfold c_aqueductref5_Encode
  refine New.at h (fun b0 w h => ?_)
  refine ⟨_, h.lda 0 0 rfl rfl, ?_⟩
  refine cif (fun _ => ?_) (fun _ => ?_)
  · exact Ret.mk ⟨_, _, _, _, G, rfl, Gh.refl G, h.tail⟩
  repeat' (first
    | (refine New.at h (fun b w hh => ?_); clear h; have h := hh; clear hh)
    | (refine Drew.of h (fun w hh => ?_); clear h; have h := hh; clear hh)
    | (refine St.at h 0 _ rfl rfl rfl (fun w hh => ?_); clear h; have h := hh; clear hh; simp only [List.set_cons_zero, List.set_cons_succ] at h)
    | refine ⟨_, h.lda 0 _ rfl rfl, ?_⟩
    | refine ⟨_, _, _, h.lda 0 _ rfl rfl, ?_⟩
    | refine ⟨h.lda 0 _ rfl rfl, ?_⟩
    | exact h.lda 0 _ rfl rfl
    | refine ⟨_, rfl, ?_⟩
    | refine ⟨_, _, rfl, ?_⟩
    | refine ⟨_, _, _, rfl, ?_⟩
    | refine ⟨_, _, _, _, _, _, _, _, _, _, _, _, rfl, ?_⟩
    | refine ⟨_, _, _, _, _, _, _, _, _, _, _, _, _, rfl, ?_⟩
    | refine ctt rfl ?_
    | refine cff rfl ?_
    | refine Meet.dup ?_
    | intro j
    | rw [ws]
    | simp only [ws, add_mk]
    | refine And.intro ?_ ?_)
  refine CallR.of (own_all d t r _ hv h) ?_
  rintro _ w ⟨a, c, xs, ok, G', rfl, hG, hB, hok, h⟩
  refine ⟨_, _, _, _, rfl, ?_⟩
  refine cif (fun _ => ?_) (fun _ => ?_)
  · exact Ret.mk ⟨_, _, _, _, G', rfl, hG, h.tail⟩
  · exact Ret.mk ⟨_, _, _, _, G', rfl, hG, h.tail⟩

theorem May_ok {d : Nat} {t : VT} {r : Vr} (hv : VC G d t r) (h : Holds G w (all L)) :
    Calls pg f_aqueductref5_May #[r.val] w (Ret fun v w' => ∃ (bb : Bool) (G' : Gh), v = .bool bb ∧ G ≤ G' ∧ Holds G' w' (all L)) := by
  apply of_aqueductref5_May
  unfold c_aqueductref5_May
  refine New.at h (fun b0 w h => ?_)
  repeat' (first
    | (refine New.at h (fun b w hh => ?_); clear h; have h := hh; clear hh)
    | (refine Drew.of h (fun w hh => ?_); clear h; have h := hh; clear hh)
    | (refine St.at h 0 _ rfl rfl rfl (fun w hh => ?_); clear h; have h := hh; clear hh; simp only [List.set_cons_zero, List.set_cons_succ] at h)
    | refine ⟨_, h.lda 0 _ rfl rfl, ?_⟩
    | refine ⟨_, _, _, h.lda 0 _ rfl rfl, ?_⟩
    | refine ⟨h.lda 0 _ rfl rfl, ?_⟩
    | exact h.lda 0 _ rfl rfl
    | refine ⟨_, rfl, ?_⟩
    | refine ⟨_, _, rfl, ?_⟩
    | refine ⟨_, _, _, rfl, ?_⟩
    | refine ⟨_, _, _, _, _, _, _, _, _, _, _, _, rfl, ?_⟩
    | refine ⟨_, _, _, _, _, _, _, _, _, _, _, _, _, rfl, ?_⟩
    | refine ctt rfl ?_
    | refine cff rfl ?_
    | refine Meet.dup ?_
    | intro j
    | rw [ws]
    | simp only [ws, add_mk]
    | refine And.intro ?_ ?_)
  refine CallR.of (Encode_ok hv h) ?_
  rintro _ w ⟨a, n, c, e, G', rfl, hG, h⟩
  refine ⟨_, _, _, _, rfl, ?_⟩
  exact Ret.mk ⟨_, G', rfl, hG, h.tail⟩

end
end Go.Proofs.Sw
