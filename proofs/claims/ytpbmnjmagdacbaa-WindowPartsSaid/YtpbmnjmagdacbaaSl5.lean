/- Bytes of the call's own that grow; strings as sources; what is frozen. No program in sight. -/
import Derived.Test.YtpbmnjmagdacbaaSl4
namespace Go.Eng
open Go Go.RowKit HP

section
variable {P : Program} {T : Nat → Option TI} {G : Gh} {w : World} {L : List HP}

/-- Bytes of the call's own. -/
abbrev HP.byt (E : TypeId) (a : Option Addr) (c : Nat) (l : List UInt8) : HP := HP.own E 1 a l.length c (l.map u8v)

theorem Src.str {s : ByteArray} : Src P 1 (.string s) s.data.toList.length (s.data.toList.map u8v) w := by
  have hsz : s.data.toList.length = s.size := by rw [Array.length_toList]; rfl
  refine ⟨fun _ => by rw [hsz]; rfl, by simp, u8v_one _, fun w' _ => ?_⟩
  have e : (s.extract 0 s.data.toList.length).data = s.data := by
    have : s.data.toList.length = s.data.size := by simp
    rw [this, ByteArray.data_extract]
    simp
  simp only [Builtin.firstCells, e]
  show Sem.run P (pure (s.data.map u8v)) w' = _
  rw [Sem.run_pure]
  congr 1
  apply Array.ext'
  simp

theorem Src.byt_at {E : TypeId} {a : Option Addr} {c c' : Nat} {l : List UInt8} (h : Holds G w (all L)) (k : Nat) (hk : L[k]? = some (byt E a c l)) : Src P 1 (.slice a l.length c') l.length (l.map u8v) w := by
  have h' := h.bring k hk
  cases a with
  | none =>
    obtain ⟨⟨h1, h2, h3⟩, _⟩ := Holds.own_none.1 h'
    have : l = [] := by simpa using h3
    subst this
    exact Src.nil
  | some ad =>
    refine Src.slice (by simp) (u8v_one l) fun i v hv => ?_
    obtain ⟨ad', e, h2⟩ := Holds.own_ld h' hv
    cases e
    exact h2

/-- append onto bytes of the call's own. -/
theorem append_b (hT : TOk P T) {t t2 E ty : TypeId} {i : TI} {z : List Value} (ht : kindAt T t = .slice E) (ht2 : (∃ e2, kindAt T t2 = .slice e2) ∨ kindAt T t2 = .str) (hi : T E = some i) (hz : i.zero = some z) (hzl : z.length = i.size)
    (hs : i.size = 1) (hby : i.bytes = 1) {a : Option Addr} {c : Nat} {l xs : List UInt8} {src : Value} {K : Value → World → Prop} (h : Holds G w (all L)) (k : Nat) (hk : L[k]? = some (byt E a c l)) (hsrc : Src P 1 src xs.length (xs.map u8v) w)
    (hlim : l.length + xs.length ≤ 1099511627776)
    (hK : ∀ a' c' w', Holds G w' (all (byt E a' c' (l ++ xs) :: L.eraseIdx k)) → K (.slice a' (l ++ xs).length c') w') :
    Prim P (Builtin.append_ #[t, t2] ty #[.slice a l.length c, src]) w K := by
  refine append_at hT ht ht2 hi hz hzl h k (by rw [hs]; exact hk) (by rw [hs]; exact hsrc) (by rw [hby]; omega) (by omega) fun a' c' w' h' => ?_
  rw [hs] at h'
  have := hK a' c' w' (by
    unfold HP.byt
    rw [List.length_append, List.map_append]
    exact h')
  rw [List.length_append] at this
  exact this

theorem Holds.byt_freeze {E : TypeId} {a : Option Addr} {c : Nat} {l : List UInt8} (h : Holds G w (all (byt E a c l :: L))) : ∃ G', G ≤ G' ∧ Bs G' a l.length l ∧ Holds G' w (all L) := Holds.own_freeze h

/-- An owned slice that will not be written any more. -/
theorem Holds.own_freeze2 {E : TypeId} {sz : Nat} {a : Option Addr} {n c : Nat} {cs : List Value} {F : HP} (h : Holds G w (HP.star (own E sz a n c cs) F)) :
    ∃ G', G ≤ G' ∧ (∀ i v, cs[i]? = some v → ∃ b off, a = some ⟨b, off, none⟩ ∧ G'.cell b (off + i) = some v) ∧ Holds G' w F := by
  cases a with
  | none =>
    obtain ⟨⟨rfl, rfl, rfl⟩, h'⟩ := Holds.own_none.1 h
    exact ⟨G, Gh.refl G, fun i v hv => by simp at hv, h'⟩
  | some ad =>
    obtain ⟨pre, rest, had, e1, e2, e3, e4⟩ := Holds.own_some h
    obtain ⟨G', hG, hc, h'⟩ := e4.blk_freeze
    refine ⟨G', hG, fun i x hx => ⟨ad.block, pre.length, by rw [← had], ?_⟩, h'⟩
    have hi : i < cs.length := (List.getElem?_eq_some_iff.1 hx).1
    rw [hc, List.getElem?_append_right (by omega), List.getElem?_append_left (by omega), Nat.add_sub_cancel_left, hx]

theorem u8v_wrap (x : Int) : u8v ((IntKind.u8.wrap x).toNat.toUInt8) = .int .u8 (IntKind.u8.wrap x) := by
  unfold u8v
  have h1 : 0 ≤ IntKind.u8.wrap x ∧ IntKind.u8.wrap x < 256 := by
    unfold IntKind.wrap
    simp only [IntKind.signed, IntKind.bits, Bool.false_and]
    simp only [Int.reducePow]
    constructor
    · simp; omega
    · simp; omega
  have h2 : (((IntKind.u8.wrap x).toNat.toUInt8).toNat : Int) = IntKind.u8.wrap x := by
    have : (IntKind.u8.wrap x).toNat % 256 = (IntKind.u8.wrap x).toNat := Nat.mod_eq_of_lt (by omega)
    simp [Nat.toUInt8]
    omega
  rw [h2]

/-- string(b) of bytes in a block. -/
theorem str_blk (hT : TOk P T) {src dst e E : TypeId} (hs : kindAt T src = .slice e) (he : kindAt T e = .int .u8) (hd : kindAt T dst = .str) {b n c : Nat} {l : List UInt8} {K : Value → World → Prop} (h : Holds G w (all L)) (k : Nat)
    (hk : L[k]? = some (blk b E (l.map u8v))) (hl : l.length = n) (hK : K (.string ⟨l.toArray⟩) w) : Prim P (Go.convert src dst (.slice (some ⟨b, 0, none⟩) n c)) w K :=
  ⟨_, _, str_of_cells hT hs he hd hl (fun i x hx => ⟨_, rfl, rfl, by
    rw [add_mk]
    exact h.lda k _ hk (by rw [Nat.zero_add, List.getElem?_map, hx]; rfl)⟩), hK⟩

/-- make([]byte, n). -/
theorem make_b (hT : TOk P T) {t E : TypeId} {i : TI} (ht : kindAt T t = .slice E) (hi : T E = some i) (hz : i.zero = some [.int .u8 0]) (hs : i.size = 1) (hby : i.bytes = 1) {kl kc : IntKind} {n : Int} {K : Value → World → Prop}
    (h : Holds G w (all L)) (h0 : 0 ≤ n) (hlim : n ≤ 281474976710656) (hK : ∀ b w', Holds G w' (all (byt E (some ⟨b, 0, none⟩) (List.replicate n.toNat (0 : UInt8)).length (List.replicate n.toNat 0) :: L)) → K (.slice (some ⟨b, 0, none⟩) (List.replicate n.toNat (0 : UInt8)).length (List.replicate n.toNat (0 : UInt8)).length) w') :
    Prim P (Instr.makeSlice t (.int kl n) (.int kc n)) w K := by
  obtain ⟨b, w', hr, h'⟩ := make_own (P := P) (kl := kl) (kc := kc) hT ht hi hz (by rw [hs]; rfl) h0 (by rw [hby]; omega) (by omega) h
  rw [hs] at h'
  have e : (List.replicate n.toNat [Value.int .u8 0]).flatten = (List.replicate n.toNat (0 : UInt8)).map u8v := by
    rw [List.map_replicate]
    generalize n.toNat = m
    induction m with
    | zero => rfl
    | succ m ih => rw [List.replicate_succ, List.flatten_cons, ih, List.replicate_succ]; rfl
  rw [e] at h'
  have hk := hK b w' (by
    unfold HP.byt
    rw [List.length_replicate]
    exact h')
  rw [List.length_replicate] at hk
  exact ⟨_, _, hr, hk⟩

/-- copy onto the beginning of bytes of the call's own. -/
theorem copy_b (hT : TOk P T) {t t2 E ty : TypeId} {i : TI} (ht : kindAt T t = .slice E) (hi : T E = some i) (hs : i.size = 1) {a : Option Addr} {c c2 : Nat} {l xs : List UInt8} {src : Value} {K : Value → World → Prop} (h : Holds G w (all L)) (k : Nat)
    (hk : L[k]? = some (byt E a c l)) (hsrc : Src P 1 src xs.length (xs.map u8v) w) (hle : xs.length ≤ l.length)
    (hK : ∀ w', Holds G w' (all (L.set k (byt E a c (xs ++ l.drop xs.length)))) → K (.int .i64 (xs.length : Int)) w') : Prim P (Builtin.copy_ #[t, t2] ty #[.slice a l.length c2, src]) w K := by
  obtain ⟨inf, d, h1, h2, h3, h4⟩ := kindAt_some hT ht (by simp)
  obtain rfl := kind_slice h3
  obtain ⟨infe, g1, g2, g3, g4⟩ := size_at hT hi
  obtain ⟨hlen, hxl, hxo, hfirst⟩ := hsrc
  have h' := h.bring k hk
  have hmin : Nat.min xs.length l.length = xs.length := Nat.min_eq_left hle
  cases a with
  | none =>
    obtain ⟨⟨e1, _, e2⟩, h''⟩ := Holds.own_none.1 h'
    have hl : l = [] := List.eq_nil_of_length_eq_zero e1
    subst hl
    have hx : xs = [] := List.eq_nil_of_length_eq_zero (by simpa using hle)
    subst hx
    have hlen' : ∀ w' : World, (Builtin.lenOf src).run P w' = .ok 0 w' := hlen
    have hf' : (Builtin.firstCells 1 0 src).run P w = .ok #[] w := hfirst w rfl
    refine ⟨_, w, ?_, hK w ?_⟩
    · simp [Builtin.copy_, run_under h2, run_size g1, g2, hs, hlen', hf', goInt]
    · refine h'.eq ?_
      exact (all_set hk).symm
  | some ad =>
    obtain ⟨pre, rest, had, e1, e2, e3, e4⟩ := Holds.own_some h'
    obtain ⟨w', hst, h''⟩ := storeCells_own (P := P) (xs.map u8v) pre [] (l.map u8v ++ rest) ad 0 had (by simpa using e4) (by simp; omega) rfl hxo
    refine ⟨_, w', ?_, hK w' ?_⟩
    · simp [Builtin.copy_, run_under h2, run_size g1, g2, hs, hlen, hmin, hfirst w rfl, goInt, hst]
    · have e5 : pre ++ ([] ++ (xs.map u8v ++ (l.map u8v ++ rest).drop (xs.map u8v).length)) = pre ++ ((xs ++ l.drop xs.length).map u8v ++ rest) := by
        rw [List.drop_append_of_le_length (by simp; exact hle)]
        simp
      rw [e5] at h''
      have hm := Holds.own_mk (sz := 1) (n := l.length) (c := c) (pre := pre) (by simp; omega) e2 e3 h''
      rw [← had] at hm
      have e6 : (xs ++ l.drop xs.length).length = l.length := by simp; omega
      refine Holds.eq (A := HP.star (byt E (some ad) c (xs ++ l.drop xs.length)) (all (L.eraseIdx k))) ?_ (all_set hk).symm
      unfold HP.byt
      rw [e6]
      exact hm

theorem src0 {b E : Nat} {c : Nat} (h : Holds G w (all L)) (k : Nat) (hk : L[k]? = some (blk b E [.int .u8 0])) : Src P 1 (.slice (some ⟨b, 0, none⟩) 1 c) ([0] : List UInt8).length (([0] : List UInt8).map u8v) w :=
  Src.blk_at h k hk rfl rfl
theorem src1 {b E : Nat} {c : Nat} {x : UInt8} (h : Holds G w (all L)) (k : Nat) (hk : L[k]? = some (blk b E [.int .u8 (x.toNat : Int)])) : Src P 1 (.slice (some ⟨b, 0, none⟩) 1 c) ([x] : List UInt8).length (([x] : List UInt8).map u8v) w :=
  Src.blk_at h k hk rfl rfl

theorem flat_get {α : Type} {sz : Nat} : ∀ (els : List (List α)) (i j : Nat), (∀ e ∈ els, e.length = sz) → j < sz → els.flatten[i * sz + j]? = (els[i]?).bind (·[j]?)
  | [], i, j, _, _ => by simp
  | e :: els, 0, j, h, hj => by
    have he := h e List.mem_cons_self
    rw [List.flatten_cons, Nat.zero_mul, Nat.zero_add, List.getElem?_append_left (by omega)]
    rfl
  | e :: els, i + 1, j, h, hj => by
    have he := h e List.mem_cons_self
    have e1 : (i + 1) * sz = sz + i * sz := by rw [Nat.add_mul, Nat.one_mul, Nat.add_comm]
    rw [List.flatten_cons, List.getElem?_append_right (by omega)]
    have e2 : (i + 1) * sz + j - e.length = i * sz + j := by omega
    rw [e2, flat_get els i j (fun x hx => h x (List.mem_cons_of_mem _ hx)) hj]
    rfl

end
end Go.Eng
