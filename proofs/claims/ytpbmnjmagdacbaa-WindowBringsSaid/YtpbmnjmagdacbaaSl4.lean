/- Maps, a string's bytes, what stands for a function without a body: by place. -/
import Derived.Test.YtpbmnjmagdacbaaSl3
import Derived.WideMake
import Derived.Laws.IdiomStrings
import Derived.Laws.StandIn
import Derived.Shelf.Bytes.SlIndexAt
namespace Go.Eng
open Go Go.RowKit HP

section
variable {P : Program} {T : Nat → Option TI} {G : Gh} {w : World} {L : List HP}

/-- Looking into a map that has nothing. -/
theorem lookup_none {t kt et : TypeId} {b clock : Nat} {s : ByteArray} {z : Value} {K : Value → World → Prop} (hm : P.underlying t = some (.map kt et)) (hk : P.underlying kt = some .string)
    (hz : ∀ w, (zeroValue et).run P w = .ok z w) (h : Holds G w (all L)) (k : Nat) (hb : L[k]? = some (mp b [] clock)) (hK : K (.tuple #[z, .bool false]) w) :
    Prim P (Instr.lookup t (.map (some b)) (.string s) true) w K := by
  have hh := (pt_star_heap (h.bring k hb)).1
  have hf : Instr.findNow .string (.string s) ([] : List MapEntry) 0 = some none := rfl
  have hc : (Instr.checkKey true 10000 kt (.string s)).run P w = .ok () w := MapKept.run_checkKey (k := .string s) hk (by simp [MapKept.IsKey]) true 9999
  refine ⟨_, _, ?_, hK⟩
  simp [Instr.lookup, run_underlying hm, MapKept.run_getObj_map hh, hc, MapKept.run_findKey hk hf, hz, Result.andThen]

/-- The first entry of a map. -/
theorem update_none {t kt et : TypeId} {b clock : Nat} {s : ByteArray} {v : Value} {K : World → Prop} (hm : P.underlying t = some (.map kt et)) (hk : P.underlying kt = some .string)
    (h : Holds G w (all L)) (k : Nat) (hb : L[k]? = some (mp b [] clock)) (hK : ∀ w', Holds G w' (all (L.set k (mp b [{ key := .string s, val := v, born := clock }] (clock + 1)))) → K w') :
    PrimU P (Instr.mapUpdate t (.map (some b)) (.string s) v) w K := by
  have h1 := h.bring k hb
  have hh := (pt_star_heap h1).1
  refine ⟨_, run_mapUpdate_first w t kt et b clock s v hm hk hh, hK _ ?_⟩
  obtain ⟨e1, e2⟩ := MapKept.heap_set (o' := .map #[{ key := .string s, val := v, born := clock }] (clock + 1)) hh
  refine Holds.eq (A := HP.star (mp b [{ key := .string s, val := v, born := clock }] (clock + 1)) (all (L.eraseIdx k))) ?_ (all_set hb).symm
  exact Holds.update h1 rfl rfl rfl (by simp) e1 e2

/-- A map without entries that is made. -/
theorem New.mapAt {K : Nat → World → Prop} (h : Holds G w (all L)) (hK : ∀ b w', Holds G w' (all (mp b [] 0 :: L)) → K b w') : New w (.map #[] 0) K := New.map h hK

/-- A string's bytes in memory of their own. -/
theorem bytes_at {src dst e : TypeId} {s : ByteArray} {K : Value → World → Prop} (hs : P.underlying src = some .string) (hd : P.underlying dst = some (.slice e)) (he : P.underlying e = some (.int .u8))
    (h : Holds G w (all L)) (hK : ∀ b c w', Holds G w' (all (blk b e (bytesRow s c).toList :: L)) → K (.slice (some ⟨b, 0, none⟩) s.size c) w') :
    Prim P (convert src dst (.string s)) w K := by
  refine ⟨_, _, run_bytes_of_string w src dst e s hs hd he, hK _ _ _ ?_⟩
  refine Holds.blk_iff.2 ⟨((bytesRow s (grownCap w s.size 0 e)).size, (bytesRow s (grownCap w s.size 0 e)).size + 1), fun i hi hh => ?_, h.drew.alloc _⟩
  simp only [Array.length_toList] at hi
  omega

/-- The first place of a byte. -/
theorem indexByte_at {f : FuncId} {fn : Func} (hf : P.funcs[f]? = some fn) (hname : (fn.name == "runtime.NumGoroutine") = false)
    (hb : fn.body.isNone = true) (hn : Extern.findNext fn = none) (he : Extern.find fn = some Extern.BytealgIndexByte.indexByte)
    {a : Addr} {n c : Nat} {cv : Int} {xs : List Int} {Kp : List PanicEntry → World → Prop} {K : Value → World → Prop} (hx : xs.length = n)
    (hc : ∀ i, i < n → w.cell? (a.add i) = some (.int .u8 (xs.getD i 0))) (hK : K (.int .i64 (Lib.indexByte (Lib.bytesOf xs) cv.toNat.toUInt8)) w) :
    CallX P f [.slice (some a) n c, .int .u8 cv] w Kp K := by
  refine .inl ⟨_, _, ?_, hK⟩
  show (callFunc f #[.slice (some a) n c, .int .u8 cv]).run P w = _
  rw [run_callFunc_indexByte hf hname hb hn he, Lib.run_indexByteAt w a n c xs hx hc cv]
  rfl

theorem Holds.own_at {E : TypeId} {sz : Nat} {a : Option Addr} {n c : Nat} {cs : List Value} (h : Holds G w (all L)) (k : Nat) (hk : L[k]? = some (own E sz a n c cs)) : Holds G w (HP.star (own E sz a n c cs) (all (L.eraseIdx k))) := h.bring k hk

theorem Holds.own_rd {E : TypeId} {sz : Nat} {b off n c : Nat} {cs : List Value} (h : Holds G w (all L)) (k i : Nat) {j : Nat} {v : Value} (hk : L[k]? = some (own E sz (some ⟨b, off, none⟩) n c cs)) (hv : cs[i]? = some v) (hj : j = off + i) : w.cell? ⟨b, j, none⟩ = some v := by
  obtain ⟨ad, had, hc⟩ := Holds.own_ld (h.bring k hk) hv
  cases had
  rw [add_mk] at hc
  rw [hj]
  exact hc

theorem Holds.own_addr {E : TypeId} {sz : Nat} {a : Option Addr} {n c : Nat} {v : Value} {cs : List Value} (h : Holds G w (all (own E sz a n c (v :: cs) :: L))) : ∃ b off, a = some ⟨b, off, none⟩ := by
  cases a with
  | none => obtain ⟨⟨_, _, h3⟩, _⟩ := Holds.own_none.1 h; cases h3
  | some ad =>
    obtain ⟨pre, rest, had, _⟩ := Holds.own_some h
    exact ⟨ad.block, pre.length, by rw [← had]⟩

theorem Holds.own_addr' {E : TypeId} {sz : Nat} {a : Option Addr} {n c : Nat} {cs : List Value} (h : Holds G w (all (own E sz a n c cs :: L))) (hl : Nat.blt 0 cs.length = true) : ∃ b off, a = some ⟨b, off, none⟩ := by
  cases cs with
  | nil => cases hl
  | cons v cs => exact h.own_addr

theorem Holds.skip {A B : HP} (h : Holds G w (all (A :: B :: L))) : Holds G w (all (A :: L)) := (h.bring 1 rfl).tail

theorem all_append (A B : List HP) : all (A ++ B) = HP.star (all A) (all B) := by
  induction A with
  | nil => exact (emp_star _).symm
  | cons X A ih => simp only [List.cons_append, all, ih, star_assoc]

theorem Holds.mid {X V : HP} {A B : List HP} (h : Holds G w (all (X :: (A ++ (V :: B))))) : Holds G w (all (X :: V :: (A ++ B))) := by
  refine h.eq ?_
  simp only [all, all_append]
  rw [star_left_comm (all A)]

theorem Src.blk_at {b E : Nat} {xs : List Value} {m c sz : Nat} (h : Holds G w (all L)) (k : Nat) (hk : L[k]? = some (blk b E xs)) (hl : xs.length = m * sz) (ho : xs.all oneCell = true) : Src P sz (.slice (some ⟨b, 0, none⟩) m c) m xs w :=
  Src.slice hl (List.all_eq_true.1 ho) fun i v hv => by
    rw [add_mk]
    exact h.lda k _ hk (by rw [Nat.zero_add]; exact hv)

theorem Holds.own_of {b E : Nat} {sz n : Nat} {xs : List Value} (h : Holds G w (all (blk b E xs :: L))) (hl : xs.length = n * sz) : Holds G w (all (own E sz (some ⟨b, 0, none⟩) n n xs :: L)) :=
  Holds.own_mk (pre := []) (rest := []) hl (Nat.le_refl _) (by simp) (by rw [List.nil_append, List.append_nil]; exact h)

theorem Holds.skip2 {A B C D : HP} (h : Holds G w (all (A :: B :: C :: D :: L))) : Holds G w (all (A :: B :: L)) := by
  have h1 := ((((h.bring 2 rfl).tail).bring 2 rfl).tail)
  exact h1

theorem Holds.skip2' {A B C D : HP} (h : Holds G w (all (A :: B :: C :: D :: L))) : Holds G w (all (A :: B :: L)) := h.skip2

/-- A write behind the first cells of an owned slice. -/
theorem St.own_at {E : TypeId} {sz : Nat} {b off n c : Nat} {cs ds : List Value} {v : Value} {K : World → Prop} {j' : Nat} (h : Holds G w (all L)) (k j : Nat) (hk : L[k]? = some (own E sz (some ⟨b, off, none⟩) n c (cs ++ ds))) (hj : j' = off + (cs.length + j))
    (hlt : Nat.blt j ds.length = true) (hv : oneCell v = true) (hK : ∀ w', Holds G w' (all (L.set k (own E sz (some ⟨b, off, none⟩) n c (cs ++ ds.set j v)))) → K w') : St w ⟨b, j', none⟩ v K := by
  have hlt' : j < ds.length := by simpa using hlt
  have e : (⟨b, j', none⟩ : Addr) = (⟨b, off, none⟩ : Addr).add (cs.length + j) := by rw [add_mk, hj]
  rw [e]
  refine Holds.own_st (h.bring k hk) (i := cs.length + j) (by simp; omega) hv fun w' h' => hK w' ?_
  have e2 : (cs ++ ds).set (cs.length + j) v = cs ++ ds.set j v := by
    rw [List.set_append_right _ _ (by omega)]
    simp
  rw [e2] at h'
  exact h'.eq (all_set hk).symm

theorem St.own_set {E : TypeId} {sz : Nat} {b off n c : Nat} {cs : List Value} {v : Value} {K : World → Prop} {j' : Nat} (h : Holds G w (all L)) (k j : Nat) (hk : L[k]? = some (own E sz (some ⟨b, off, none⟩) n c cs)) (hj : j' = off + j)
    (hlt : Nat.blt j cs.length = true) (hv : oneCell v = true) (hK : ∀ w', Holds G w' (all (L.set k (own E sz (some ⟨b, off, none⟩) n c (cs.set j v)))) → K w') : St w ⟨b, j', none⟩ v K := by
  have e : (⟨b, j', none⟩ : Addr) = (⟨b, off, none⟩ : Addr).add j := by rw [add_mk, hj]
  rw [e]
  exact Holds.own_st (h.bring k hk) (i := j) (by simpa using hlt) hv fun w' h' => hK w' (h'.eq (all_set hk).symm)

theorem Src.own_at {E : TypeId} {sz : Nat} {b off n c : Nat} {cs : List Value} (h : Holds G w (all L)) (k : Nat) (hk : L[k]? = some (own E sz (some ⟨b, off, none⟩) n c cs)) (ho : cs.all oneCell = true) : Src P sz (.slice (some ⟨b, off, none⟩) n c) n cs w :=
  Src.slice (Holds.own_len (h.bring k hk)).1 (List.all_eq_true.1 ho) fun i v hv => by
    obtain ⟨ad, had, hc⟩ := Holds.own_ld (h.bring k hk) hv
    cases had
    exact hc

/-- append, by place. -/
theorem append_at (hT : TOk P T) {t t2 E ty : TypeId} {i : TI} {z : List Value} (ht : kindAt T t = .slice E) (ht2 : (∃ e2, kindAt T t2 = .slice e2) ∨ kindAt T t2 = .str) (hi : T E = some i) (hz : i.zero = some z) (hzl : z.length = i.size)
    {a : Option Addr} {n c m : Nat} {cs xs : List Value} {src : Value} {K : Value → World → Prop} (h : Holds G w (all L)) (k : Nat) (hk : L[k]? = some (own E i.size a n c cs)) (hsrc : Src P i.size src m xs w)
    (hb : (2 * (n + m) + 1000) * i.bytes ≤ 2 ^ 48) (hlim : n + m < 2 ^ 62)
    (hK : ∀ a' c' w', Holds G w' (all (own E i.size a' (n + m) c' (cs ++ xs) :: L.eraseIdx k)) → K (.slice a' (n + m) c') w') :
    Prim P (Builtin.append_ #[t, t2] ty #[.slice a n c, src]) w K := by
  obtain ⟨a', c', w', hr, h'⟩ := append_own (P := P) (ty := ty) hT ht ht2 hi hz hzl (h.bring k hk) hsrc hb hlim
  exact ⟨_, _, hr, hK _ _ _ h'⟩

end
end Go.Eng
