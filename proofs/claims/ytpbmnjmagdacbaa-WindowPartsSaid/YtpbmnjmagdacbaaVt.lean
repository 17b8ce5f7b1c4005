/- Values as trees in memory that does not turn; how an argument reads as one. No program in sight. -/
import Derived.Test.YtpbmnjmagdacbaaSl4
import Derived.ChangeArms
import Derived.ChangeShapes
namespace Go.Eng
open Go Go.RowKit HP

/-- A value's six cells. -/
structure Vr where
  k : Int
  n : Int
  s : ByteArray
  b : Option Addr
  bl : Nat
  bc : Nat
  f : Option Addr
  fl : Nat
  fc : Nat
  l : Option Addr
  ll : Nat
  lc : Nat

abbrev Vr.cells (r : Vr) : List Value := [.int .i64 r.k, .int .i64 r.n, .string r.s, .slice r.b r.bl r.bc, .slice r.f r.fl r.fc, .slice r.l r.ll r.lc]
abbrev Vr.val (r : Vr) : Value := .agg #[.int .i64 r.k, .int .i64 r.n, .string r.s, .slice r.b r.bl r.bc, .slice r.f r.fl r.fc, .slice r.l r.ll r.lc]

inductive VT where
  | mk (k n : Int) (s : ByteArray) (b : List UInt8) (f : List (ByteArray × VT)) (l : List VT)

/-- Elements of so many cells each, one behind another. -/
def VsAt {α : Type} (G : Gh) (sz : Nat) (C : α → List Value → Prop) (ts : List α) (a : Option Addr) : Prop :=
  ∀ i t, ts[i]? = some t → ∃ b off cs, a = some ⟨b, off, none⟩ ∧ C t cs ∧ cs.length = sz ∧ ∀ j v, cs[j]? = some v → G.cell b (off + i * sz + j) = some v

def in64 (x : Int) : Prop := -9223372036854775808 ≤ x ∧ x < 9223372036854775808
def big : Nat := 140737488351232

/-- A value that is so deep at the big, as its cells tell. -/
def VC (G : Gh) : Nat → VT → Vr → Prop
  | 0, _, _ => False
  | d + 1, .mk k n s b f l, r =>
    r.k = k ∧ r.n = n ∧ r.s = s ∧ Bs G r.b r.bl b ∧ r.fl = f.length ∧ r.ll = l.length ∧
    VsAt G 7 (fun (x : ByteArray × VT) cs => ∃ r' : Vr, cs = .string x.1 :: r'.cells ∧ x.1.size ≤ big ∧ VC G d x.2 r') f r.f ∧
    VsAt G 6 (fun (x : VT) cs => ∃ r' : Vr, cs = r'.cells ∧ VC G d x r') l r.l ∧
    in64 k ∧ in64 n ∧ s.size ≤ big ∧ b.length ≤ big ∧ f.length ≤ big ∧ l.length ≤ big

theorem VsAt.mono {α : Type} {G G' : Gh} {sz : Nat} {C C' : α → List Value → Prop} {ts : List α} {a : Option Addr} (hG : G ≤ G') (hC : ∀ t cs, C t cs → C' t cs) (h : VsAt G sz C ts a) : VsAt G' sz C' ts a := by
  intro i t hi
  obtain ⟨b, off, cs, h1, h2, h3, h4⟩ := h i t hi
  exact ⟨b, off, cs, h1, hC _ _ h2, h3, fun j v hv => Gh.cell_mono hG (h4 j v hv)⟩

theorem VC.mono {G G' : Gh} (hG : G ≤ G') : ∀ {d d' : Nat} {t : VT} {r : Vr}, d ≤ d' → VC G d t r → VC G' d' t r
  | 0, _, _, _, _, h => h.elim
  | d + 1, 0, _, _, hd, _ => absurd hd (by omega)
  | d + 1, d' + 1, .mk k n s b f l, r, hd, h => by
    obtain ⟨h1, h2, h3, h4, h5, h6, h7, h8, h9⟩ := h
    refine ⟨h1, h2, h3, h4.mono hG, h5, h6, h7.mono hG ?_, h8.mono hG ?_, h9⟩
    · rintro x cs ⟨r', hr, hs, hv⟩
      exact ⟨r', hr, hs, VC.mono hG (by omega) hv⟩
    · rintro x cs ⟨r', hr, hv⟩
      exact ⟨r', hr, VC.mono hG (by omega) hv⟩

theorem list_of {α : Type} {p : Nat → α → Prop} : ∀ {n : Nat}, (∀ i, i < n → ∃ c, p i c) → ∃ l : List α, l.length = n ∧ ∀ i c, l[i]? = some c → p i c
  | 0, _ => ⟨[], rfl, by simp⟩
  | n + 1, h => by
    obtain ⟨l, hl, hp⟩ := list_of (n := n) fun i hi => h i (by omega)
    obtain ⟨c, hc⟩ := h n (by omega)
    refine ⟨l ++ [c], by simp [hl], fun i x hx => ?_⟩
    by_cases hi : i < l.length
    · rw [List.getElem?_append_left hi] at hx
      exact hp i x hx
    · rw [List.getElem?_append_right (by omega)] at hx
      have h0 : i - l.length = 0 := by
        have := (List.getElem?_eq_some_iff.1 hx).1
        simp at this
        omega
      rw [h0] at hx
      simp at hx
      subst hx
      have : i = n := by omega
      subst this
      exact hc

theorem start_cell {W : World} {b i : Nat} {v : Value} (h : W.cell? ⟨b, i, none⟩ = some v) : (⟨W, fun _ => none⟩ : Gh).cell b i = some v := by
  unfold World.cell? at h
  unfold Gh.cell Gh.obj
  cases ho : W.heap[b]? with
  | none => simp [ho] at h
  | some o =>
    have hb : b < W.heap.size := (Array.getElem?_eq_some_iff.1 ho).1
    simp only [hb, if_true]
    simp only [ho] at h
    cases o <;> simp_all

/-- The types that a value is made of. -/
structure VTy (P : Program) (T : Nat → Option TI) (tK tN tS tU tSB tV tF tSV tSF : TypeId) : Prop where
  ok : TOk P T
  k : kindAt T tK = .int .i64
  n : kindAt T tN = .int .i64
  s : kindAt T tS = .str
  u : kindAt T tU = .int .u8
  sb : kindAt T tSB = .slice tU
  sv : kindAt T tSV = .slice tV
  sf : kindAt T tSF = .slice tF
  v : kindAt T tV = .strct [(0, tK), (1, tN), (2, tS), (3, tSB), (4, tSF), (5, tSV)]
  f : kindAt T tF = .strct [(0, tS), (1, tV)]
  sizes : P.cellsOf tK = 1 ∧ P.cellsOf tN = 1 ∧ P.cellsOf tS = 1 ∧ P.cellsOf tU = 1 ∧ P.cellsOf tSB = 1 ∧ P.cellsOf tSV = 1 ∧ P.cellsOf tSF = 1 ∧ P.cellsOf tV = 6 ∧ P.cellsOf tF = 7
  bytes : 1 ≤ P.bytesOf tU ∧ 1 ≤ P.bytesOf tV ∧ 1 ≤ P.bytesOf tF

section
variable {H : Type} {enc : TypeId × Value → H} {P : Program} {W : World} {T : Nat → Option TI} {held : Bool}

theorem weightsAll_mem {e : TypeId} : ∀ {l : List (DataW H)} {d : DataW H}, d ∈ l → ∀ n ∈ d.weights P e, n ∈ DataW.weightsAll P e l
  | [], _, h, _, _ => by cases h
  | x :: r, d, h, n, hn => by
    simp only [DataW.weightsAll, List.mem_append]
    rcases List.mem_cons.1 h with rfl | h
    · exact .inl hn
    · exact .inr (weightsAll_mem h n hn)

theorem open_sl {tSl e : TypeId} {fuel : Nat} {cs : List Value} {d : DataW H} {ps : List MemPlace} (hu : P.underlying tSl = some (.slice e)) (he : 0 < P.cellsOf e)
    (h : DataW.trod enc P W 0 (fun _ => true) held fuel tSl cs = some (d, ps)) (hw : ∀ x ∈ d.weights P tSl, x ≤ reachBytes) :
    ∃ a len cap n, cs = [.slice a len cap] ∧ len ≤ cap ∧ cap * P.bytesOf e ≤ reachBytes ∧ n < fuel ∧ ∀ i, i < len → ∃ b off es y, a = some ⟨b, off, none⟩ ∧ es.length = P.cellsOf e ∧
      (∀ j v, es[j]? = some v → W.cell? ⟨b, off + i * P.cellsOf e + j, none⟩ = some v) ∧ DataW.trod enc P W 0 (fun _ => true) held n e es = some y ∧ ∀ x ∈ y.1.weights P e, x ≤ reachBytes := by
  rcases DataW.trod_slice hu h with ⟨rfl, hx⟩ | ⟨a, len, cap, elems, rest, n, rfl, rfl, hx, _, hle, _, hel, hes, hsp, _⟩
  · refine ⟨none, 0, 0, 0, rfl, Nat.le_refl _, by simp, ?_, fun i hi => absurd hi (Nat.not_lt_zero _)⟩
    cases fuel with
    | zero => simp [DataW.trod] at h
    | succ n => exact Nat.succ_pos _
  · have hrest := (hsp rfl).1
    simp only [Prod.mk.injEq] at hx
    obtain ⟨rfl, rfl⟩ := hx
    have hw' : ∀ x ∈ (elems.length + rest.length) * P.bytesOf e :: (DataW.weightsAll P e (elems.map (·.1)) ++ DataW.weightsAll P e (rest.map (·.1))), x ≤ reachBytes := by
      intro x hx
      refine hw x ?_
      simp only [DataW.weights, hu, List.length_map]
      exact hx
    refine ⟨some a, len, cap, n, rfl, hle, ?_, Nat.lt_succ_self _, fun i hi => ?_⟩
    · have := hw' _ List.mem_cons_self
      have e1 : elems.length + rest.length = cap := by omega
      rw [e1] at this
      exact this
    · have hspot : a.spot = none := by
        have h1 := hes 0 (by omega)
        have hi' : 0 < elems.length := by omega
        rw [List.getElem?_eq_getElem hi'] at h1
        obtain ⟨es, hcells, hy⟩ := Option.bind_eq_some_iff.1 h1
        obtain ⟨_, hlen, hcell⟩ := World.cells?_some hcells
        have g0 := hcell 0 he
        rw [List.getElem?_eq_getElem (by omega)] at g0
        have := World.cell?_spot g0
        rw [Nat.zero_mul, add_zero, add_zero] at this
        exact this
      have h1 := hes i hi
      have hi' : i < elems.length := by omega
      rw [List.getElem?_eq_getElem hi'] at h1
      obtain ⟨es, hcells, hy⟩ := Option.bind_eq_some_iff.1 h1
      obtain ⟨_, hlen, hcell⟩ := World.cells?_some hcells
      obtain ⟨b, off, spot⟩ := a
      simp only at hspot
      subst hspot
      refine ⟨b, off, es, elems[i], rfl, hlen, fun j v hv => ?_, hy, fun x hx => ?_⟩
      · have hj : j < P.cellsOf e := by rw [← hlen]; exact (List.getElem?_eq_some_iff.1 hv).1
        have := hcell j hj
        rw [hv, add_mk, add_mk] at this
        exact this
      · refine hw' x (List.mem_cons_of_mem _ (List.mem_append_left _ (weightsAll_mem (d := elems[i].1) ?_ x hx)))
        exact List.mem_map_of_mem (List.getElem_mem hi')

theorem w_str (s : ByteArray) (t : TypeId) : s.size ∈ (DataW.lit (H := H) (.string s.data.toList)).weights P t := by
  simp only [DataW.weights, List.mem_singleton, Array.length_toList]
  rfl

theorem le_big {x : Nat} (h : x ≤ reachBytes) : x ≤ big := h

theorem under_of (hT : TOk P T) {t : TypeId} {k : TK} (h : kindAt T t = k) (hk : k ≠ .other) : ∃ d, P.underlying t = some d ∧ kindOf d = k := by
  obtain ⟨_, d, _, h1, h2, _⟩ := kindAt_some hT h hk
  exact ⟨d, h1, h2⟩

theorem under_slice (hT : TOk P T) {t e : TypeId} (h : kindAt T t = .slice e) : P.underlying t = some (.slice e) := by
  obtain ⟨d, h1, h2⟩ := under_of hT h (by simp)
  rw [kind_slice h2] at h1
  exact h1
theorem under_int (hT : TOk P T) {t : TypeId} {k : IntKind} (h : kindAt T t = .int k) : P.underlying t = some (.int k) := by
  obtain ⟨d, h1, h2⟩ := under_of hT h (by simp)
  rw [kind_int h2] at h1
  exact h1
theorem under_str (hT : TOk P T) {t : TypeId} (h : kindAt T t = .str) : P.underlying t = some .string := by
  obtain ⟨d, h1, h2⟩ := under_of hT h (by simp)
  rw [kind_str h2] at h1
  exact h1

theorem open_bytes {tSB tU : TypeId} {fuel : Nat} {cs : List Value} {d : DataW H} {ps : List MemPlace} (hu : P.underlying tSB = some (.slice tU)) (he : P.underlying tU = some (.int .u8)) (hc : P.cellsOf tU = 1) (hby : 1 ≤ P.bytesOf tU)
    (h : DataW.trod enc P W 0 (fun _ => true) held fuel tSB cs = some (d, ps)) (hw : ∀ x ∈ d.weights P tSB, x ≤ reachBytes) :
    ∃ a n c l, cs = [.slice a n c] ∧ n ≤ c ∧ c ≤ big ∧ Bs ⟨W, fun _ => none⟩ a n l ∧ l.length ≤ big := by
  obtain ⟨a, len, cap, n, rfl, hle, hcap, _, hes⟩ := open_sl hu (by omega) h hw
  have hcap' : cap ≤ big := by
    exact le_big (Nat.le_trans (Nat.le_mul_of_pos_right cap hby) hcap)
  have key : ∀ i, i < len → ∃ c : UInt8, ∃ b off, a = some ⟨b, off, none⟩ ∧ (⟨W, fun _ => none⟩ : Gh).cell b (off + i) = some (u8v c) := by
    intro i hi
    obtain ⟨b, off, es, y, ha, hlen, hcell, hy, _⟩ := hes i hi
    obtain ⟨x, rfl, hx, hwf⟩ := DataW.trod_int he hy
    refine ⟨x.toNat.toUInt8, b, off, ha, ?_⟩
    have := start_cell (hcell 0 _ rfl)
    rw [hc, Nat.mul_one, Nat.add_zero] at this
    rw [this]
    have h0 : 0 ≤ x ∧ x < 256 := by
      revert hwf
      simp [Lit.wf, IntKind.min, IntKind.max, IntKind.signed, IntKind.bits]
      omega
    have hx8 : ((x.toNat.toUInt8).toNat : Int) = x := by
      have : x.toNat % 256 = x.toNat := Nat.mod_eq_of_lt (by omega)
      simp [Nat.toUInt8]
      omega
    unfold u8v
    rw [hx8]
  obtain ⟨l, hl, hp⟩ := list_of key
  exact ⟨a, len, cap, l, rfl, hle, hcap', ⟨hl, fun i c hi => hp i c hi⟩, by omega⟩

/-- How an argument's cells read as a value. -/
theorem VC.of {tK tN tS tU tSB tV tF tSV tSF : TypeId} (hy : VTy P T tK tN tS tU tSB tV tF tSV tSF) : ∀ (fuel : Nat) (cs : List Value) (d : DataW H) (ps : List MemPlace),
    DataW.trod enc P W 0 (fun _ => true) held fuel tV cs = some (d, ps) → (∀ x ∈ d.weights P tV, x ≤ reachBytes) → ∃ t r, cs = Vr.cells r ∧ VC ⟨W, fun _ => none⟩ fuel t r := by
  intro fuel
  induction fuel using Nat.strongRecOn with
  | _ fuel ih =>
  intro cs d ps h hw
  obtain ⟨dv, hv1, hv2⟩ := under_of hy.ok hy.v (by simp)
  obtain ⟨fv, rfl, hfv⟩ := kind_strct hv2
  obtain ⟨df, hf1, hf2⟩ := under_of hy.ok hy.f (by simp)
  obtain ⟨ff, rfl, hff⟩ := kind_strct hf2
  obtain ⟨zK, zN, zS, zU, zSB, zSV, zSF, zV, zF⟩ := hy.sizes
  obtain ⟨xs, n, rfl, hx, hlen, hxl, hf⟩ := DataW.trod_struct hv1 h
  have hfl : fv.size = 6 := by
    have := congrArg List.length hfv
    simpa using this.symm
  have at_ : ∀ (i : Nat) (p : Nat × TypeId), [(0, tK), (1, tN), (2, tS), (3, tSB), (4, tSF), (5, tSV)][i]? = some p → DataW.trod enc P W 0 (fun _ => true) held n p.2 ((cs.drop p.1).take (P.cellsOf p.2)) = xs[i]? := by
    intro i p hp
    rw [hfv, List.getElem?_map] at hp
    cases hfi : fv.toList[i]? with
    | none => rw [hfi] at hp; cases hp
    | some f =>
      rw [hfi] at hp
      simp only [Option.map_some, Option.some.injEq] at hp
      subst hp
      exact hf i f (by rw [← Array.getElem?_toList]; exact hfi)
  have hty : fv.toList.map (·.type) = [tK, tN, tS, tSB, tSF, tSV] := by
    have := congrArg (List.map Prod.snd) hfv
    simpa [List.map_map, Function.comp_def] using this.symm
  obtain ⟨x0, x1, x2, x3, x4, x5, rfl⟩ : ∃ x0 x1 x2 x3 x4 x5, xs = [x0, x1, x2, x3, x4, x5] := by
    rw [hfl] at hxl
    match xs, hxl with
    | [x0, x1, x2, x3, x4, x5], _ => exact ⟨_, _, _, _, _, _, rfl⟩
  obtain ⟨c0, c1, c2, c3, c4, c5, rfl⟩ : ∃ x0 x1 x2 x3 x4 x5, cs = [x0, x1, x2, x3, x4, x5] := by
    rw [zV] at hlen
    match cs, hlen with
    | [x0, x1, x2, x3, x4, x5], _ => exact ⟨_, _, _, _, _, _, rfl⟩
  have a0 := at_ 0 _ rfl
  have a1 := at_ 1 _ rfl
  have a2 := at_ 2 _ rfl
  have a3 := at_ 3 _ rfl
  have a4 := at_ 4 _ rfl
  have a5 := at_ 5 _ rfl
  simp only [zK, zN, zS, zSB, zSV, zSF, List.drop_zero, List.drop_succ_cons, List.take_succ_cons, List.take_zero, List.getElem?_cons_zero, List.getElem?_cons_succ] at a0 a1 a2 a3 a4 a5
  simp only [Prod.mk.injEq] at hx
  obtain ⟨rfl, rfl⟩ := hx
  have hww : ∀ x ∈ DataW.weightsEach P [tK, tN, tS, tSB, tSF, tSV] [x0.1, x1.1, x2.1, x3.1, x4.1, x5.1], x ≤ reachBytes := by
    intro x hx
    refine hw x ?_
    simp only [DataW.weights, hv1, hty]
    exact hx
  simp only [DataW.weightsEach, List.mem_append] at hww
  obtain ⟨k, e0, _, hk⟩ := DataW.trod_int (under_int hy.ok hy.k) a0
  obtain ⟨nn, e1, _, hn⟩ := DataW.trod_int (under_int hy.ok hy.n) a1
  obtain ⟨s, e2, es2, hs⟩ := DataW.trod_string (under_str hy.ok hy.s) a2
  cases e0; cases e1; cases e2
  subst es2
  have hsz : s.size ≤ big := by
    exact le_big (hww s.size (.inr (.inr (.inl (w_str s tS)))))
  obtain ⟨ba, bl, bc, bb, e3, hb1, hb2, hb3, hb4⟩ := open_bytes (under_slice hy.ok hy.sb) (under_int hy.ok hy.u) zU hy.bytes.1 (d := x3.1) (ps := x3.2) a3 (fun x hx => hww x (.inr (.inr (.inr (.inl hx)))))
  cases e3
  obtain ⟨fa, fl, fc, nf, e4, hf3, hf4, hf5, hf6⟩ := open_sl (under_slice hy.ok hy.sf) (by omega) (d := x4.1) (ps := x4.2) a4 (fun x hx => hww x (.inr (.inr (.inr (.inr (.inl hx))))))
  cases e4
  obtain ⟨la, ll, lc, nl, e5, hl3, hl4, hl5, hl6⟩ := open_sl (under_slice hy.ok hy.sv) (by omega) (d := x5.1) (ps := x5.2) a5 (fun x hx => hww x (.inr (.inr (.inr (.inr (.inr (.inl hx)))))))
  cases e5
  have kl : ∀ i, i < ll → ∃ t : VT, ∃ b off cs, la = some ⟨b, off, none⟩ ∧ (∃ r' : Vr, cs = r'.cells ∧ VC ⟨W, fun _ => none⟩ n t r') ∧ cs.length = 6 ∧ ∀ j v, cs[j]? = some v → (⟨W, fun _ => none⟩ : Gh).cell b (off + i * 6 + j) = some v := by
    intro i hi
    obtain ⟨b, off, es, y, ha, hlen, hcell, hy', hwy⟩ := hl6 i hi
    obtain ⟨t, r, rfl, hr⟩ := ih nl (by omega) es y.1 y.2 hy' hwy
    refine ⟨t, b, off, r.cells, ha, ⟨r, rfl, hr.mono (Gh.refl _) (by omega)⟩, rfl, fun j v hv => ?_⟩
    have := start_cell (hcell j v hv)
    rw [zV] at this
    exact this
  have kf : ∀ i, i < fl → ∃ t : ByteArray × VT, ∃ b off cs, fa = some ⟨b, off, none⟩ ∧ (∃ r' : Vr, cs = .string t.1 :: r'.cells ∧ t.1.size ≤ big ∧ VC ⟨W, fun _ => none⟩ n t.2 r') ∧ cs.length = 7 ∧ ∀ j v, cs[j]? = some v → (⟨W, fun _ => none⟩ : Gh).cell b (off + i * 7 + j) = some v := by
    intro i hi
    obtain ⟨b, off, es, y, ha, hlen, hcell, hy', hwy⟩ := hf6 i hi
    obtain ⟨ys, m, rfl, hyx, hylen, hyl, hyf⟩ := DataW.trod_struct hf1 hy'
    have hfl2 : ff.size = 2 := by
      have := congrArg List.length hff
      simpa using this.symm
    have atf : ∀ (i : Nat) (p : Nat × TypeId), [(0, tS), (1, tV)][i]? = some p → DataW.trod enc P W 0 (fun _ => true) held m p.2 ((es.drop p.1).take (P.cellsOf p.2)) = ys[i]? := by
      intro i p hp
      rw [hff, List.getElem?_map] at hp
      cases hfi : ff.toList[i]? with
      | none => rw [hfi] at hp; cases hp
      | some f =>
        rw [hfi] at hp
        simp only [Option.map_some, Option.some.injEq] at hp
        subst hp
        exact hyf i f (by rw [← Array.getElem?_toList]; exact hfi)
    have htyf : ff.toList.map (·.type) = [tS, tV] := by
      have := congrArg (List.map Prod.snd) hff
      simpa [List.map_map, Function.comp_def] using this.symm
    obtain ⟨y0, y1, rfl⟩ : ∃ x0 x1, ys = [x0, x1] := by
      rw [hfl2] at hyl
      match ys, hyl with
      | [x0, x1], _ => exact ⟨_, _, rfl⟩
    obtain ⟨u0, us, rfl, hus⟩ : ∃ u0 us, es = u0 :: us ∧ us.length = 6 := by
      rw [zF] at hlen
      match es, hlen with
      | u0 :: us, h => exact ⟨u0, us, rfl, by simpa using h⟩
    have b0 := atf 0 _ rfl
    have b1 := atf 1 _ rfl
    have hus' : us.take 6 = us := List.take_of_length_le (by omega)
    simp only [zS, zV, List.drop_zero, List.drop_succ_cons, List.take_succ_cons, List.take_zero, List.getElem?_cons_zero, List.getElem?_cons_succ, hus'] at b0 b1
    rw [hyx] at hwy
    have hwf : ∀ x ∈ DataW.weightsEach P [tS, tV] [y0.1, y1.1], x ≤ reachBytes := by
      intro x hx
      refine hwy x ?_
      simp only [DataW.weights, hf1, htyf]
      exact hx
    simp only [DataW.weightsEach, List.mem_append] at hwf
    obtain ⟨nm, e6, e7, _⟩ := DataW.trod_string (under_str hy.ok hy.s) b0
    cases e6
    subst e7
    obtain ⟨t, r, rfl, hr⟩ := ih m (by omega) us y1.1 y1.2 b1 (fun x hx => hwf x (.inr (.inl hx)))
    refine ⟨(nm, t), b, off, .string nm :: r.cells, ha, ⟨r, rfl, ?_, hr.mono (Gh.refl _) (by omega)⟩, rfl, fun j v hv => ?_⟩
    · exact le_big (hwf nm.size (.inl (w_str nm tS)))
    · have := start_cell (hcell j v hv)
      rw [zF] at this
      exact this
  obtain ⟨lt, hlt, hlp⟩ := list_of kl
  obtain ⟨ft, hft, hfp⟩ := list_of kf
  have i64 : ∀ {x : Int}, (Lit.int .i64 x).wf = true → in64 x := by
    intro x hx
    revert hx
    simp [Lit.wf, IntKind.min, IntKind.max, IntKind.signed, IntKind.bits, in64]
    omega
  have hfm : fl ≤ big := by
    have := Nat.le_trans (Nat.le_mul_of_pos_right fc hy.bytes.2.2) hf4
    have h2 : fc ≤ big := le_big this
    omega
  have hlm : ll ≤ big := by
    have := Nat.le_trans (Nat.le_mul_of_pos_right lc hy.bytes.2.1) hl4
    have h2 : lc ≤ big := le_big this
    omega
  exact ⟨.mk k nn s bb ft lt, ⟨k, nn, s, ba, bl, bc, fa, fl, fc, la, ll, lc⟩, rfl, rfl, rfl, rfl, hb3, hft.symm, hlt.symm, fun i t hi => hfp i t hi, fun i t hi => hlp i t hi, i64 hk, i64 hn, hsz, hb4, by omega, by omega⟩

end
end Go.Eng
