/- Slices of bytes that do not turn; strings; new memory; maps. No program in sight. -/
import Derived.Test.YtpbmnjmagdacbaaSl1
import Derived.Laws.BytesArg
import Derived.Laws.MakeOwn
import Derived.Laws.Strings
import Derived.Lib.Bytealg
namespace Go.Eng
open Go Go.RowKit HP

/-- A byte as a cell's value. -/
def u8v (c : UInt8) : Value := .int .u8 (c.toNat : Int)

theorem u8v_one (l : List UInt8) : ∀ v ∈ l.map u8v, oneCell v = true := by
  intro v hv
  obtain ⟨c, _, rfl⟩ := List.mem_map.1 hv
  rfl

/-- A slice of bytes that does not turn. -/
def Bs (G : Gh) (a : Option Addr) (n : Nat) (l : List UInt8) : Prop :=
  l.length = n ∧ ∀ i c, l[i]? = some c → ∃ b off, a = some ⟨b, off, none⟩ ∧ G.cell b (off + i) = some (u8v c)

section
variable {P : Program} {T : Nat → Option TI} {G G' : Gh} {w : World} {F : HP} {a : Option Addr} {n : Nat} {l : List UInt8}

theorem Bs.mono (h : Bs G a n l) (hG : G ≤ G') : Bs G' a n l := ⟨h.1, fun i c hi => let ⟨b, off, h1, h2⟩ := h.2 i c hi; ⟨b, off, h1, Gh.cell_mono hG h2⟩⟩

theorem Bs.nil : Bs G a 0 [] := ⟨rfl, fun i c hi => by simp at hi⟩

theorem Bs.rd (h : Bs G a n l) (hw : Holds G w F) {i : Nat} {c : UInt8} (hi : l[i]? = some c) : ∃ ad, a = some ad ∧ w.cell? (ad.add i) = some (u8v c) := by
  obtain ⟨b, off, h1, h2⟩ := h.2 i c hi
  exact ⟨_, h1, by rw [add_mk]; exact hw.rd h2⟩

theorem Bs.some (h : Bs G a n l) (hn : 0 < n) : ∃ b off, a = some ⟨b, off, none⟩ := by
  have hl : 0 < l.length := by rw [h.1]; exact hn
  obtain ⟨b, off, h1, _⟩ := h.2 0 l[0] (List.getElem?_eq_getElem hl)
  exact ⟨b, off, h1⟩

/-- A piece of it. -/
theorem Bs.sub (h : Bs G a n l) (lo hi : Nat) (h1 : lo ≤ hi) (h2 : hi ≤ n) : Bs G (a.map (·.add lo)) (hi - lo) ((l.drop lo).take (hi - lo)) := by
  refine ⟨by rw [List.length_take, List.length_drop, h.1]; omega, fun i c hi' => ?_⟩
  rw [List.getElem?_take] at hi'
  split at hi'
  · rw [List.getElem?_drop] at hi'
    obtain ⟨b, off, e1, e2⟩ := h.2 (lo + i) c hi'
    refine ⟨b, off + lo, by rw [e1, Option.map_some, add_mk], ?_⟩
    rw [Nat.add_assoc]
    exact e2
  · cases hi'

theorem Bs.take (h : Bs G a n l) (hi : Nat) (h2 : hi ≤ n) : Bs G a hi (l.take hi) := by
  refine ⟨by rw [List.length_take, h.1]; omega, fun i c hi' => ?_⟩
  rw [List.getElem?_take] at hi'
  split at hi'
  · exact h.2 i c hi'
  · cases hi'

theorem cell_of_map {l : List UInt8} {k : Nat} {v : Value} (hv : (l.map u8v)[k]? = some v) : ∃ c, l[k]? = some c ∧ v = u8v c := by
  rw [List.getElem?_map] at hv
  cases hk : l[k]? with
  | none => rw [hk] at hv; cases hv
  | some c => rw [hk] at hv; simp at hv; exact ⟨c, rfl, hv.symm⟩

theorem Bs.src (h : Bs G a n l) (hw : Holds G w F) (c : Nat) : Src P 1 (.slice a n c) n (l.map u8v) w := by
  cases a with
  | none =>
    have hl : l = [] := by
      cases l with
      | nil => rfl
      | cons x r => obtain ⟨b, off, h1, _⟩ := h.2 0 x rfl; cases h1
    subst hl
    obtain rfl : n = 0 := h.1.symm
    exact Src.nil
  | some ad =>
    refine Src.slice (by simp [h.1]) (u8v_one l) fun k v hv => ?_
    obtain ⟨c, hc, rfl⟩ := cell_of_map hv
    obtain ⟨ad', e, h2⟩ := h.rd hw hc
    cases e
    exact h2

theorem strOf_eq (l : List UInt8) : strOfNums (l.map fun c => (c.toNat : Int)) = ⟨l.toArray⟩ := by
  unfold strOfNums
  rw [List.map_map]
  congr 2
  conv => rhs; rw [← List.map_id l]
  apply List.map_congr_left
  intro c _
  simp

/-- string(b). -/
theorem str_of_cells (hT : TOk P T) {src dst e : TypeId} (hs : kindAt T src = .slice e) (he : kindAt T e = .int .u8) (hd : kindAt T dst = .str) {c : Nat} (hl : l.length = n)
    (hc : ∀ i x, l[i]? = some x → ∃ ad, a = some ad ∧ ad.spot = none ∧ w.cell? (ad.add i) = some (u8v x)) :
    (Go.convert src dst (.slice a n c)).run P w = .ok (.string ⟨l.toArray⟩) w := by
  obtain ⟨_, d1, _, h1, h2, _⟩ := kindAt_some hT hs (by simp)
  obtain rfl := kind_slice h2
  obtain ⟨_, d2, _, h3, h4, _⟩ := kindAt_some hT he (by simp)
  obtain rfl := kind_int h4
  obtain ⟨_, d3, _, h5, h6, _⟩ := kindAt_some hT hd (by simp)
  obtain rfl := kind_str h6
  cases a with
  | none =>
    have hl' : l = [] := by
      cases l with
      | nil => rfl
      | cons x r => obtain ⟨ad, h1, _⟩ := hc 0 x rfl; cases h1
    subst hl'
    rw [run_convert_bytes_nil w src e h1 h3 n c dst h5]
    rfl
  | some ad =>
    have := run_convert_bytes_arg (P := P) w src e h1 h3 ad.block ad.off n c (l.map fun c => (c.toNat : Int)) (by simp [hl]) (fun i hi => by
      have hi' : i < l.length := by omega
      obtain ⟨ad', e1, e2, e3⟩ := hc i l[i] (List.getElem?_eq_getElem hi')
      cases e1
      obtain ⟨ab, ao, asp⟩ := ad
      simp only at e2
      subst e2
      rw [add_mk] at e3
      rw [e3]
      simp [u8v, List.getD_eq_getElem?_getD, hi']) dst h5
    rw [strOf_eq] at this
    cases hl0 : l with
    | nil =>
      subst hl0
      obtain rfl : n = 0 := hl.symm
      rw [run_convert_bytes_string w src dst e _ 0 c h1 h3 h5, run_bytesToString w _ 0 c [] (by simp [loadCells, loadCellsFrom])]
      rfl
    | cons x r =>
      obtain ⟨ad', e1, e2, e3⟩ := hc 0 x (by rw [hl0]; rfl)
      cases e1
      obtain ⟨ab, ao, asp⟩ := ad
      simp only at e2
      subst e2
      rw [← hl0]
      exact this

theorem Bs.str (hT : TOk P T) {src dst e : TypeId} (hs : kindAt T src = .slice e) (he : kindAt T e = .int .u8) (hd : kindAt T dst = .str) {c : Nat} (h : Bs G a n l) (hw : Holds G w F) :
    (Go.convert src dst (.slice a n c)).run P w = .ok (.string ⟨l.toArray⟩) w :=
  str_of_cells hT hs he hd h.1 fun i x hx => by
    obtain ⟨b, off, h1, h2⟩ := h.2 i x hx
    exact ⟨_, h1, rfl, by rw [add_mk]; exact hw.rd h2⟩

theorem str_eq (l m : List UInt8) : ((⟨l.toArray⟩ : ByteArray).toList == (⟨m.toArray⟩ : ByteArray).toList) = (l == m) := by
  rw [ByteArray.toList_mk, ByteArray.toList_mk]

/-- Bytes as the library reads them. -/
theorem loadBytes_run : ∀ (l : List UInt8) (a : Addr) (acc : ByteArray) {w : World}, (∀ i x, l[i]? = some x → w.cell? (a.add i) = some (u8v x)) → a.spot = none →
    (Extern.Bytes.loadBytes a l.length acc).run P w = .ok ⟨acc.data ++ l.toArray⟩ w
  | [], a, acc, w, _, _ => by simp [Extern.Bytes.loadBytes]
  | x :: r, a, acc, w, h, hs => by
    have h0 := h 0 x rfl
    rw [add_zero] at h0
    have := loadBytes_run r (a.add 1) (acc.push x) (w := w) (fun i y hy => by
      obtain ⟨ab, ao, asp⟩ := a
      simp only at hs
      subst hs
      have := h (i + 1) y (by simpa using hy)
      rw [add_mk] at this ⊢
      rw [add_mk]
      rw [Nat.add_assoc, Nat.add_comm 1 i]
      exact this) (by simp [Addr.add])
    simp only [List.length_cons, Extern.Bytes.loadBytes, Sem.run_bind, run_load, h0, Result.andThen_ok, u8v]
    have hx : (((x.toNat : Nat) : Int).toNat).toUInt8 = x := by simp
    rw [hx, this]
    simp [ByteArray.push]

theorem Bs.bytesOf (h : Bs G a n l) (hw : Holds G w F) (c : Nat) : (Extern.Bytes.bytesOf (.slice a n c)).run P w = .ok ⟨l.toArray⟩ w := by
  cases a with
  | none =>
    have hl : l = [] := by
      cases l with
      | nil => rfl
      | cons x r => obtain ⟨b, off, h1, _⟩ := h.2 0 x rfl; cases h1
    subst hl
    rfl
  | some ad =>
    cases hl0 : l with
    | nil =>
      subst hl0
      obtain rfl : n = 0 := h.1.symm
      rfl
    | cons x r =>
      obtain ⟨b, off, e1, _⟩ := h.2 0 x (by rw [hl0]; rfl)
      cases e1
      have := loadBytes_run (P := P) l ⟨b, off, none⟩ ByteArray.empty (w := w) (fun i y hy => by
        obtain ⟨ad', e, h2⟩ := h.rd hw hy
        cases e
        exact h2) rfl
      rw [← hl0]
      simp only [Extern.Bytes.bytesOf, ← h.1]
      rw [this]
      simp [ByteArray.empty, ByteArray.emptyWithCapacity]
      rfl


/-- bytes.Compare's entry. -/
theorem Bs.compare {a' : Option Addr} {n' : Nat} {l' : List UInt8} (h : Bs G a n l) (h' : Bs G a' n' l') (hw : Holds G w F) (c c' : Nat) :
    (Extern.BytealgCompare.compare #[.slice a n c, .slice a' n' c']).run P w = .ok (.int .i64 (Lib.compareBytes l l')) w := by
  change Sem.run P (do pure (goInt (Extern.BytealgCompare.cmp (← Extern.Bytes.bytesOf (.slice a n c)) (← Extern.Bytes.bytesOf (.slice a' n' c'))))) w = _
  simp only [Sem.run_bind, h.bytesOf hw c, h'.bytesOf hw c', Result.andThen_ok, Sem.run_pure, Lib.cmp_eq]
  rfl

/-- A slice of the call's own of bytes becomes one that does not turn. -/
theorem Holds.own_freeze {E : TypeId} {c : Nat} (h : Holds G w (HP.star (own E 1 a n c (l.map u8v)) F)) : ∃ G', G ≤ G' ∧ Bs G' a n l ∧ Holds G' w F := by
  have hl := (h.own_len).1
  cases a with
  | none =>
    obtain ⟨⟨rfl, rfl, h3⟩, h'⟩ := Holds.own_none.1 h
    have : l = [] := by simpa using h3
    subst this
    exact ⟨G, Gh.refl G, Bs.nil, h'⟩
  | some ad =>
    obtain ⟨pre, rest, had, e1, e2, e3, e4⟩ := Holds.own_some h
    obtain ⟨G', hG, hc, h'⟩ := e4.blk_freeze
    refine ⟨G', hG, ⟨by simpa using hl, fun i x hx => ⟨ad.block, pre.length, by rw [← had], ?_⟩⟩, h'⟩
    have hi : i < l.length := (List.getElem?_eq_some_iff.1 hx).1
    rw [hc, List.getElem?_append_right (by omega), List.getElem?_append_left (by rw [List.length_map]; omega), Nat.add_sub_cancel_left, List.getElem?_map, hx]
    rfl

/-- make([]T, n). -/
theorem make_own (hT : TOk P T) {t E : TypeId} {i : TI} {z : List Value} (ht : kindAt T t = .slice E) (hi : T E = some i) (hz : i.zero = some z) (hzl : z.length = i.size) {kl kc : IntKind} {n : Int} (h0 : 0 ≤ n) (hb : (i.bytes : Int) * n ≤ 281474976710656)
    (h63 : n ≤ 9223372036854775807) (h : Holds G w F) :
    ∃ b w', (Instr.makeSlice t (.int kl n) (.int kc n)).run P w = .ok (.slice (some ⟨b, 0, none⟩) n.toNat n.toNat) w' ∧ Holds G w' (HP.star (own E i.size (some ⟨b, 0, none⟩) n.toNat n.toNat (List.replicate n.toNat z).flatten) F) := by
  obtain ⟨inf, d, h1, h2, h3, h4⟩ := kindAt_some hT ht (by simp)
  obtain rfl := kind_slice h3
  obtain ⟨infe, g1, g2, g3, g4⟩ := size_at hT hi
  rw [hz] at g4
  obtain ⟨zv, hzv, hzc⟩ : ∃ zv : Value, infe.zero = some zv ∧ zv.cells.toList = z := by simpa using g4
  refine ⟨_, _, run_make (P := P) w t E infe zv h2 g1 hzv kl kc n n h0 (Int.le_refl _) (by rw [g3]; exact hb) h63, ?_⟩
  have hF := h.alloc (.cells (madeCells zv.cells (n.toNat * infe.size)) E (0, 0))
  have hl := zeros_list z n.toNat
  have hm : madeCells zv.cells (n.toNat * infe.size) = ([] ++ ((List.replicate n.toNat z).flatten ++ [])).toArray := by
    have hzc' : zv.cells = z.toArray := by rw [← hzc]
    apply Array.ext'
    rw [hzc', g2, ← hzl]
    simp only [madeCells, Array.toList_map, Array.toList_range, List.nil_append, List.append_nil]
    rw [← hl]
  rw [hm] at hF ⊢
  refine Holds.own_mk (pre := []) (rest := []) (by rw [List.length_flatten, List.map_replicate, List.sum_replicate_nat, hzl]) (Nat.le_refl _) (by simp) ?_
  exact Holds.blk_iff.2 ⟨(0, 0), fun i _ h => absurd h.2 (Nat.not_lt_zero _), hF⟩

end
end Go.Eng
