/- append, make, copies, strings and maps, in terms of owned blocks. No program in sight. -/
import Derived.Test.YtpbmnjmagdacbaaSl0
namespace Go.Eng
open Go Go.RowKit HP

section
variable {P : Program} {T : Nat → Option TI} {G : Gh} {w : World} {F : HP}

/-- A slice of the call's own, from whatever place in its block; 'cs': the cells of its elements, sz each. -/
def HP.own (E : TypeId) (sz : Nat) (a : Option Addr) (n c : Nat) (cs : List Value) : HP :=
  match a with
  | none => lift (n = 0 ∧ c = 0 ∧ cs = [])
  | some ad => HP.ex fun pre : List Value => HP.ex fun rest : List Value =>
      (HP.star (lift (ad.spot = none ∧ pre.length = ad.off ∧ cs.length = n * sz ∧ n ≤ c ∧ (c - n) * sz ≤ rest.length)) (blk ad.block E (pre ++ (cs ++ rest))))

theorem Holds.own_some {E : TypeId} {sz : Nat} {ad : Addr} {n c : Nat} {cs : List Value} (h : Holds G w (HP.star (own E sz (some ad) n c cs) F)) :
    ∃ pre rest, ad = ⟨ad.block, pre.length, none⟩ ∧ cs.length = n * sz ∧ n ≤ c ∧ (c - n) * sz ≤ rest.length ∧ Holds G w (HP.star (blk ad.block E (pre ++ (cs ++ rest))) F) := by
  obtain ⟨pre, h⟩ := Holds.ex_iff.1 h
  obtain ⟨rest, h⟩ := Holds.ex_iff.1 h
  rw [star_assoc] at h
  obtain ⟨⟨h1, h2, h3, h4, h5⟩, h⟩ := Holds.lift_iff.1 h
  refine ⟨pre, rest, ?_, h3, h4, h5, h⟩
  cases ad
  simp only at h1 h2
  subst h1; subst h2
  rfl

theorem Holds.own_mk {E : TypeId} {sz : Nat} {b : Nat} {n c : Nat} {pre cs rest : List Value} (h1 : cs.length = n * sz) (h2 : n ≤ c) (h3 : (c - n) * sz ≤ rest.length) (h : Holds G w (HP.star (blk b E (pre ++ (cs ++ rest))) F)) :
    Holds G w (HP.star (own E sz (some ⟨b, pre.length, none⟩) n c cs) F) := by
  refine Holds.ex_iff.2 ⟨pre, Holds.ex_iff.2 ⟨rest, ?_⟩⟩
  rw [star_assoc]
  exact Holds.lift_iff.2 ⟨⟨rfl, rfl, h1, h2, h3⟩, h⟩

theorem Holds.own_none {E : TypeId} {sz n c : Nat} {cs : List Value} : Holds G w (HP.star (own E sz none n c cs) F) ↔ (n = 0 ∧ c = 0 ∧ cs = []) ∧ Holds G w F := Holds.lift_iff

theorem Holds.own_len {E : TypeId} {sz : Nat} {a : Option Addr} {n c : Nat} {cs : List Value} (h : Holds G w (HP.star (own E sz a n c cs) F)) : cs.length = n * sz ∧ n ≤ c := by
  cases a with
  | none => obtain ⟨⟨rfl, rfl, rfl⟩, _⟩ := Holds.own_none.1 h; simp
  | some ad => obtain ⟨pre, rest, _, h1, h2, _⟩ := Holds.own_some h; exact ⟨h1, h2⟩

/-- An empty slice that is nil. -/
theorem Holds.own_nil {E : TypeId} {sz : Nat} (h : Holds G w F) : Holds G w (HP.star (own E sz none 0 0 []) F) := Holds.own_none.2 ⟨⟨rfl, rfl, rfl⟩, h⟩

/-- One of its cells. -/
theorem Holds.own_ld {E : TypeId} {sz : Nat} {a : Option Addr} {n c : Nat} {cs : List Value} (h : Holds G w (HP.star (own E sz a n c cs) F)) {i : Nat} {v : Value} (hv : cs[i]? = some v) : ∃ ad, a = some ad ∧ w.cell? (ad.add i) = some v := by
  have hlt : i < cs.length := (List.getElem?_eq_some_iff.1 hv).1
  cases a with
  | none => obtain ⟨⟨rfl, rfl, rfl⟩, _⟩ := Holds.own_none.1 h; simp at hlt
  | some ad =>
    obtain ⟨pre, rest, had, h1, h2, h3, h4⟩ := Holds.own_some h
    refine ⟨ad, rfl, ?_⟩
    rw [had, add_mk]
    exact h4.ld _ (by rw [List.getElem?_append_right (by omega), List.getElem?_append_left (by omega)]; simpa using hv)

/-- One of its cells, written. -/
theorem Holds.own_st {E : TypeId} {sz : Nat} {ad : Addr} {n c : Nat} {cs : List Value} (h : Holds G w (HP.star (own E sz (some ad) n c cs) F)) {i : Nat} (hi : i < cs.length) {v : Value} (hv : oneCell v = true) {K : World → Prop}
    (hk : ∀ w', Holds G w' (HP.star (own E sz (some ad) n c (cs.set i v)) F) → K w') : St w (ad.add i) v K := by
  obtain ⟨pre, rest, had, h1, h2, h3, h4⟩ := Holds.own_some h
  have had' : ad.add i = ⟨ad.block, pre.length + i, none⟩ := by conv => lhs; rw [had, add_mk]
  rw [had']
  refine St.of h4 (by simp; omega) hv fun w' h' => hk w' ?_
  have e : (pre ++ (cs ++ rest)).set (pre.length + i) v = pre ++ (cs.set i v ++ rest) := by
    rw [List.set_append_right _ _ (by omega), List.set_append_left _ _ (by omega)]
    simp
  rw [e] at h'
  have := Holds.own_mk (n := n) (c := c) (pre := pre) (by simpa using h1) h2 h3 h'
  rw [← had] at this
  exact this

/-! append -/
theorem growBy_le (newLen : Nat) : ∀ (r c : Nat), c ≤ 2 * newLen + 1000 → Builtin.growBy newLen r c ≤ 2 * newLen + 1000
  | 0, c, h => h
  | r + 1, c, h => by
    unfold Builtin.growBy
    split
    · exact h
    · exact growBy_le newLen r _ (by omega)

theorem nextcap_le (newLen oldCap : Nat) (h : oldCap < newLen) : Builtin.nextslicecap newLen oldCap ≤ 2 * newLen + 1000 := by
  unfold Builtin.nextslicecap
  split
  · omega
  · split
    · omega
    · exact growBy_le _ _ _ (by omega)

theorem zeroCells_list (z : List Value) (n : Nat) : (Builtin.zeroCells z.toArray n).toList = (List.replicate n z).flatten := by
  have := zeros_list z n
  simp only [Builtin.zeroCells, Array.toList_map, Array.toList_range]
  simpa using this

theorem storeCells_own {E : TypeId} {b : Nat} : ∀ (vs : List Value) (pre mid rest : List Value) (a : Addr) (j : Nat) {w : World}, a = ⟨b, pre.length, none⟩ → Holds G w (HP.star (blk b E (pre ++ (mid ++ rest))) F) → vs.length ≤ rest.length → mid.length = j →
    (∀ v ∈ vs, oneCell v = true) → ∃ w', (storeCells a vs j).run P w = .ok () w' ∧ Holds G w' (HP.star (blk b E (pre ++ (mid ++ (vs ++ rest.drop vs.length)))) F)
  | [], pre, mid, rest, a, j, w, ha, h, hl, hm, hv => ⟨w, rfl, by simpa using h⟩
  | v :: vs, pre, mid, rest, a, j, w, ha, h, hl, hm, hv => by
    cases rest with
    | nil => simp at hl
    | cons r0 rest =>
      subst ha
      have hst : St w ((⟨b, pre.length, none⟩ : Addr).add j) v fun w' => Holds G w' (HP.star (blk b E (pre ++ ((mid ++ [v]) ++ rest))) F) := by
        rw [add_mk]
        refine St.of h (by simp; omega) (hv v List.mem_cons_self) fun w' h' => ?_
        have e : (pre ++ (mid ++ r0 :: rest)).set (pre.length + j) v = pre ++ ((mid ++ [v]) ++ rest) := by
          rw [List.set_append_right _ _ (by omega), List.set_append_right _ _ (by omega)]
          simp [hm]
        rw [e] at h'
        exact h'
      obtain ⟨h1, h2⟩ := St_run (P := P) hst
      obtain ⟨w', h3, h4⟩ := storeCells_own vs pre (mid ++ [v]) rest ⟨b, pre.length, none⟩ (j + 1) rfl h2 (by simp at hl; omega) (by simp [hm]) (fun x hx => hv x (List.mem_cons_of_mem _ hx))
      refine ⟨w', ?_, ?_⟩
      · simp only [storeCells, Sem.run_bind, h1, Result.andThen_ok, h3]
      · simpa using h4

theorem size_at (hT : TOk P T) {t : TypeId} {i : TI} (h : T t = some i) : ∃ inf, P.info? t = some inf ∧ inf.size = i.size ∧ inf.bytes = i.bytes ∧ inf.zero.map (·.cells.toList) = i.zero := by
  obtain ⟨inf, d, h1, h2, rfl⟩ := tb_parts hT h
  exact ⟨inf, h1, rfl, rfl, rfl⟩

/-- What may be appended: its cells are read the same whatever is drawn. -/
def Src (P : Program) (sz : Nat) (src : Value) (m : Nat) (xs : List Value) (w : World) : Prop :=
  (∀ w', (Builtin.lenOf src).run P w' = .ok m w') ∧ xs.length = m * sz ∧ (∀ v ∈ xs, oneCell v = true) ∧ ∀ w' : World, w'.heap = w.heap → (Builtin.firstCells sz m src).run P w' = .ok xs.toArray w'

theorem loadCells_run {w : World} {a : Addr} {vs : List Value} (h : cellsAre w a 0 vs) : (loadCells a vs.length).run P w = .ok vs.toArray w := by
  have := loadCellsFrom_run (P := P) vs 0 #[] h
  simpa [loadCells] using this

theorem cellsAre_of {w : World} {a : Addr} : ∀ (vs : List Value) (i : Nat), (∀ k v, vs[k]? = some v → w.cell? (a.add (i + k)) = some v) → cellsAre w a i vs
  | [], i, h => trivial
  | [v], i, h => h 0 v rfl
  | v :: u :: r, i, h => ⟨h 0 v rfl, cellsAre_of (u :: r) (i + 1) fun k x hx => by
      have := h (k + 1) x (by simpa using hx)
      rw [Nat.add_right_comm, Nat.add_assoc]
      simpa [Nat.add_comm, Nat.add_left_comm] using this⟩

theorem Src.slice {sz : Nat} {a : Addr} {m c : Nat} {xs : List Value} {w : World} (hl : xs.length = m * sz) (ho : ∀ v ∈ xs, oneCell v = true) (h : ∀ k v, xs[k]? = some v → w.cell? (a.add k) = some v) : Src P sz (.slice (some a) m c) m xs w := by
  refine ⟨fun _ => rfl, hl, ho, fun w' hw => ?_⟩
  have hc : cellsAre w' a 0 xs := cellsAre_of xs 0 fun k v hv => by
    have := h k v hv
    rw [Nat.zero_add]
    simpa [World.cell?, hw] using this
  have := loadCells_run (P := P) hc
  rw [hl] at this
  exact this

theorem Src.nil {sz : Nat} {w : World} {c : Nat} : Src P sz (.slice none 0 c) 0 [] w := ⟨fun _ => rfl, by simp, by simp, fun w' _ => by simp [Builtin.firstCells]⟩

/-- append onto a slice of the call's own. -/
theorem append_own (hT : TOk P T) {t t2 E ty : TypeId} {i : TI} {z : List Value} (ht : kindAt T t = .slice E) (ht2 : (∃ e2, kindAt T t2 = .slice e2) ∨ kindAt T t2 = .str) (hi : T E = some i) (hz : i.zero = some z) (hzl : z.length = i.size)
    {a : Option Addr} {n c m : Nat} {cs xs : List Value} {src : Value} (h : Holds G w (HP.star (own E i.size a n c cs) F)) (hsrc : Src P i.size src m xs w)
    (hb : (2 * (n + m) + 1000) * i.bytes ≤ 2 ^ 48) (hlim : n + m < 2 ^ 62) :
    ∃ a' c' w', (Builtin.append_ #[t, t2] ty #[.slice a n c, src]).run P w = .ok (.slice a' (n + m) c') w' ∧ Holds G w' (HP.star (own E i.size a' (n + m) c' (cs ++ xs)) F) := by
  obtain ⟨inf, d, h1, h2, h3, h4⟩ := kindAt_some hT ht (by simp)
  obtain rfl := kind_slice h3
  obtain ⟨infe, g1, g2, g3, g4⟩ := size_at hT hi
  obtain ⟨hlen, hxl, hxo, hfirst⟩ := hsrc
  have hcl := (h.own_len).1
  have hnc := (h.own_len).2
  have hz2 : ∃ d2, P.underlying t2 = some d2 ∧ ∀ k, d2 ≠ .int k := by
    rcases ht2 with ⟨e2, h⟩ | h
    · obtain ⟨_, d2, _, q2, q3, _⟩ := kindAt_some hT h (by simp)
      obtain rfl := kind_slice q3
      exact ⟨_, q2, fun k => by simp⟩
    · obtain ⟨_, d2, _, q2, q3, _⟩ := kindAt_some hT h (by simp)
      obtain rfl := kind_str q3
      exact ⟨_, q2, fun k => by simp⟩
  obtain ⟨d2, q2, q3⟩ := hz2
  have hzv : ∃ zv : Value, infe.zero = some zv ∧ zv.cells.toList = z := by
    rw [hz] at g4
    simpa using g4
  obtain ⟨zv, hzv, hzc⟩ := hzv
  by_cases hfit : n + m ≤ c
  · -- there is room
    cases a with
    | none =>
      obtain ⟨⟨rfl, rfl, rfl⟩, h'⟩ := Holds.own_none.1 h
      have hm0 : m = 0 := by omega
      subst hm0
      have hx0 : xs = [] := List.eq_nil_of_length_eq_zero (by simpa using hxl)
      subst hx0
      refine ⟨none, 0, w, ?_, Holds.own_nil h'⟩
      simp [Builtin.append_, run_under h2, run_size g1, run_under q2, hlen, g2, hfirst w rfl]
    | some ad =>
      obtain ⟨pre, rest, had, e1, e2, e3, e4⟩ := Holds.own_some h
      have hroom : xs.length ≤ rest.length := by
        rw [hxl]
        exact Nat.le_trans (Nat.mul_le_mul_right _ (by omega)) e3
      obtain ⟨w', hs, h'⟩ := storeCells_own (P := P) xs (pre ++ cs) [] rest ⟨ad.block, (pre ++ cs).length, none⟩ 0 (w := w) rfl (by simpa using e4) hroom rfl hxo
      have hadd : ad.add (n * i.size) = ⟨ad.block, (pre ++ cs).length, none⟩ := by
        conv => lhs; rw [had, add_mk]
        simp [e1]
      refine ⟨some ad, c, w', ?_, ?_⟩
      · simp [Builtin.append_, run_under h2, run_size g1, run_under q2, hlen, g2, hfirst w rfl, hfit]
        rw [hadd, hs]
        rfl
      · have h'' : Holds G w' (HP.star (blk ad.block E (pre ++ ((cs ++ xs) ++ rest.drop xs.length))) F) := by simpa using h'
        have := Holds.own_mk (sz := i.size) (n := n + m) (c := c) (pre := pre) (by simp [hcl, hxl, Nat.add_mul]) hfit (by
          rw [List.length_drop, hxl]
          have : (c - (n + m)) * i.size = (c - n) * i.size - m * i.size := by rw [Nat.sub_add_eq, Nat.sub_mul]
          omega) h''
        rw [← had] at this
        exact this
  · -- a new block
    have hcap := nextcap_le (n + m) c (by omega)
    have hno1 : ¬ ((9223372036854775807 : Int) < (n : Int) + m ∧ infe.bytes = 0) := by omega
    have hno2 : ¬ (281474976710656 < Builtin.nextslicecap (n + m) c * infe.bytes) := by
      have := Nat.mul_le_mul_right i.bytes hcap
      rw [g3]
      omega
    have hforced : (Question.appendCap (n + m) c E).forced = false := rfl
    have hold : ∀ w' : World, w'.heap = w.heap → (Builtin.firstCells i.size n (.slice a n c)).run P w' = .ok cs.toArray w' := by
      intro w' hw'
      cases a with
      | none =>
        obtain ⟨⟨rfl, rfl, rfl⟩, _⟩ := Holds.own_none.1 h
        simp [Builtin.firstCells]
      | some ad =>
        have hc : cellsAre w' ad 0 cs := cellsAre_of cs 0 fun k v hv => by
          obtain ⟨ad', had', hcell⟩ := h.own_ld hv
          cases had'
          rw [Nat.zero_add]
          simpa [World.cell?, hw'] using hcell
        have := loadCells_run (P := P) hc
        rw [hcl] at this
        exact this
    have hzr := zero_run (P := P) g1 hzv
    have hdrew : w.drew.heap = w.heap := rfl
    have hge : n + m ≤ (Question.appendCap (n + m) c E).cut (w.tape w.drawn (Question.appendCap (n + m) c E)) := Nat.le_add_right _ _
    generalize hcut : (Question.appendCap (n + m) c E).cut (w.tape w.drawn (Question.appendCap (n + m) c E)) = nc at hge
    have hzc' : zv.cells = z.toArray := by rw [← hzc]
    have hrest := zeroCells_list z (nc - (n + m))
    refine ⟨some ⟨w.heap.size, 0, none⟩, nc, w.drew.alloc (.cells (cs.toArray ++ (xs.toArray ++ Builtin.zeroCells z.toArray (nc - (n + m)))) E (0, 0)), ?_, ?_⟩
    · simp [Builtin.append_, run_under h2, run_size g1, run_under q2, hlen, g2, hfit, run_info g1, hno1, hno2, hforced, hzr, hcut, hold w.drew rfl, hfirst w.drew rfl, newRow, hzc']
    · have hF := (h.right).drew.alloc (.cells (cs.toArray ++ (xs.toArray ++ Builtin.zeroCells z.toArray (nc - (n + m)))) E (0, 0))
      have harr : cs.toArray ++ (xs.toArray ++ Builtin.zeroCells z.toArray (nc - (n + m))) = ([] ++ ((cs ++ xs) ++ (List.replicate (nc - (n + m)) z).flatten)).toArray := by
        apply Array.ext'
        simp [hrest]
      rw [harr] at hF ⊢
      refine Holds.own_mk (pre := []) (by simp [hcl, hxl, Nat.add_mul]) hge (by rw [List.length_flatten, List.map_replicate, List.sum_replicate_nat, hzl]; exact Nat.le_refl _) ?_
      exact Holds.blk_iff.2 ⟨(0, 0), fun i _ h => absurd h.2 (Nat.not_lt_zero _), hF⟩

end
end Go.Eng
