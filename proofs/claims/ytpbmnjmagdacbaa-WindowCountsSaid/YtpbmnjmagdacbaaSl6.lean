/- Slices of the call's own whose elements have several cells. No program in sight. -/
import Derived.Test.YtpbmnjmagdacbaaSl5
import Derived.Test.YtpbmnjmagdacbaaNu
namespace Go.Eng
open Go Go.RowKit HP

section
variable {α : Type}

theorem flat_len {sz : Nat} : ∀ (els : List (List α)), (∀ e ∈ els, e.length = sz) → els.flatten.length = els.length * sz
  | [], _ => by simp
  | e :: els, h => by
    rw [List.flatten_cons, List.length_append, flat_len els (fun x hx => h x (List.mem_cons_of_mem _ hx)), h e List.mem_cons_self, List.length_cons, Nat.add_mul, Nat.one_mul, Nat.add_comm]

theorem flat_split (els : List (List α)) (i : Nat) (hi : i < els.length) : els.flatten = (els.take i).flatten ++ (els[i] ++ (els.drop (i + 1)).flatten) := by
  conv => lhs; rw [← List.take_append_drop i els, List.flatten_append, List.drop_eq_getElem_cons hi, List.flatten_cons]

theorem flat_put (els : List (List α)) (i : Nat) (hi : i < els.length) (e : List α) : (els.set i e).flatten = (els.take i).flatten ++ (e ++ (els.drop (i + 1)).flatten) := by
  rw [flat_split (els.set i e) i (by simpa using hi), List.getElem_set_self, List.take_set_of_le (Nat.le_refl i), List.drop_set_of_lt (Nat.lt_succ_self i)]

theorem set6 : ∀ (A : List α) (x0 x1 x2 x3 x4 x5 v0 v1 v2 v3 v4 v5 : α) (B : List α),
    ((((((A ++ (x0 :: x1 :: x2 :: x3 :: x4 :: x5 :: B)).set A.length v0).set (A.length + 1) v1).set (A.length + 2) v2).set (A.length + 3) v3).set (A.length + 4) v4).set (A.length + 5) v5 = A ++ (v0 :: v1 :: v2 :: v3 :: v4 :: v5 :: B)
  | [], _, _, _, _, _, _, _, _, _, _, _, _, _ => rfl
  | a :: A, x0, x1, x2, x3, x4, x5, v0, v1, v2, v3, v4, v5, B => by
    have := set6 A x0 x1 x2 x3 x4 x5 v0 v1 v2 v3 v4 v5 B
    simp only [List.cons_append, List.length_cons, List.set_cons_succ, Nat.add_right_comm _ 1] at this ⊢
    rw [this]

end

section
variable {P : Program} {T : Nat → Option TI} {G : Gh} {w : World} {L : List HP}

theorem Prim.mk {s : Sem Value} {v : Value} {w' : World} {K : Value → World → Prop} (h : s.run P w = .ok v w') (hk : K v w') : Prim P s w K := ⟨v, w', h, hk⟩

/-- Six cells one behind another, written. -/
theorem St.six {E : TypeId} {sz : Nat} {b off n c : Nat} {A B : List Value} {x0 x1 x2 x3 x4 x5 v0 v1 v2 v3 v4 v5 : Value} {K : World → Prop} {j : Nat} (h : Holds G w (all L)) (k : Nat)
    (hk : L[k]? = some (own E sz (some ⟨b, off, none⟩) n c (A ++ (x0 :: x1 :: x2 :: x3 :: x4 :: x5 :: B)))) (hj : j = off + A.length)
    (h0 : oneCell v0 = true) (h1 : oneCell v1 = true) (h2 : oneCell v2 = true) (h3 : oneCell v3 = true) (h4 : oneCell v4 = true) (h5 : oneCell v5 = true)
    (hK : ∀ w', Holds G w' (all (L.set k (own E sz (some ⟨b, off, none⟩) n c (A ++ (v0 :: v1 :: v2 :: v3 :: v4 :: v5 :: B))))) → K w') :
    St w ⟨b, j, none⟩ v0 fun w => St w ⟨b, j + 1, none⟩ v1 fun w => St w ⟨b, j + 2, none⟩ v2 fun w => St w ⟨b, j + 3, none⟩ v3 fun w => St w ⟨b, j + 4, none⟩ v4 fun w => St w ⟨b, j + 5, none⟩ v5 K := by
  have hlt : ∀ (X : List Value) (m : Nat), X.length = (A ++ (x0 :: x1 :: x2 :: x3 :: x4 :: x5 :: B)).length → m < 6 → Nat.blt (A.length + m) X.length = true := by
    intro X m hX hm
    rw [Nat.blt_eq, hX]
    simp
    omega
  have hkl : k < L.length := (List.getElem?_eq_some_iff.1 hk).1
  refine St.own_set h k A.length hk hj (hlt _ 0 rfl (by omega)) h0 fun w h => ?_
  refine St.own_set h k (A.length + 1) (by rw [List.getElem?_set_self hkl]) (by omega) (hlt _ 1 (by simp) (by omega)) h1 fun w h => ?_
  rw [List.set_set] at h
  refine St.own_set h k (A.length + 2) (by rw [List.getElem?_set_self hkl]) (by omega) (hlt _ 2 (by simp) (by omega)) h2 fun w h => ?_
  rw [List.set_set] at h
  refine St.own_set h k (A.length + 3) (by rw [List.getElem?_set_self hkl]) (by omega) (hlt _ 3 (by simp) (by omega)) h3 fun w h => ?_
  rw [List.set_set] at h
  refine St.own_set h k (A.length + 4) (by rw [List.getElem?_set_self hkl]) (by omega) (hlt _ 4 (by simp) (by omega)) h4 fun w h => ?_
  rw [List.set_set] at h
  refine St.own_set h k (A.length + 5) (by rw [List.getElem?_set_self hkl]) (by omega) (hlt _ 5 (by simp) (by omega)) h5 fun w h => ?_
  rw [List.set_set, set6] at h
  exact hK w h

/-- The cells of a row that does not turn, as a source. -/
theorem src_of_vs {α : Type} {sz : Nat} {C : α → List Value → Prop} {ts : List α} {a : Option Addr} {c : Nat} (hw : Holds G w (all L)) (h : VsAt G sz C ts a) (hC : ∀ t cs, C t cs → ∀ v ∈ cs, oneCell v = true) (hsz : 0 < sz) (hz : ts = [] → a = none ∨ True) :
    ∃ els : List (List Value), els.length = ts.length ∧ (∀ e ∈ els, e.length = sz) ∧ (∀ (i : Nat) (t : α), ts[i]? = some t → ∃ cs, els[i]? = some cs ∧ C t cs) ∧ (∀ v ∈ els.flatten, oneCell v = true) ∧ Src P sz (.slice a ts.length c) ts.length els.flatten w := by
  have key : ∀ i, i < ts.length → ∃ cs : List Value, (∃ t, ts[i]? = some t ∧ C t cs) ∧ cs.length = sz ∧ ∃ b off, a = some ⟨b, off, none⟩ ∧ ∀ j v, cs[j]? = some v → G.cell b (off + i * sz + j) = some v := by
    intro i hi
    obtain ⟨b, off, cs, h1, h2, h3, h4⟩ := h i _ (List.getElem?_eq_getElem hi)
    exact ⟨cs, ⟨_, List.getElem?_eq_getElem hi, h2⟩, h3, b, off, h1, h4⟩
  obtain ⟨els, hl, hp⟩ := list_of key
  have h7 : ∀ e ∈ els, e.length = sz := by
    intro e he
    obtain ⟨i, hi, rfl⟩ := List.getElem_of_mem he
    exact (hp i _ (List.getElem?_eq_getElem hi)).2.1
  have hone : ∀ v ∈ els.flatten, oneCell v = true := by
    intro v hv
    obtain ⟨e, he, hve⟩ := List.mem_flatten.1 hv
    obtain ⟨i, hi, rfl⟩ := List.getElem_of_mem he
    obtain ⟨⟨t, _, hc⟩, _⟩ := hp i _ (List.getElem?_eq_getElem hi)
    exact hC t _ hc v hve
  refine ⟨els, hl, h7, fun i t hi => ?_, hone, ?_⟩
  · have hlt : i < els.length := by rw [hl]; exact (List.getElem?_eq_some_iff.1 hi).1
    obtain ⟨⟨t', ht', hc⟩, _⟩ := hp i _ (List.getElem?_eq_getElem hlt)
    rw [hi] at ht'
    cases ht'
    exact ⟨_, List.getElem?_eq_getElem hlt, hc⟩
  · cases ht : ts with
    | nil =>
      have he : els = [] := List.eq_nil_of_length_eq_zero (by rw [hl, ht]; rfl)
      subst he
      cases a with
      | none => exact Src.nil
      | some ad => exact Src.slice (by simp) (by simp) (fun k v hv => by simp at hv)
    | cons t0 ts0 =>
      have h0 : 0 < els.length := by rw [hl, ht]; exact Nat.succ_pos _
      obtain ⟨_, _, b, off, ha, _⟩ := hp 0 _ (List.getElem?_eq_getElem h0)
      rw [ha, ← ht, ← hl]
      refine Src.slice (flat_len els h7) hone fun k v hv => ?_
      have hk : k < els.length * sz := by rw [← flat_len els h7]; exact (List.getElem?_eq_some_iff.1 hv).1
      have hki : k / sz < els.length := Nat.div_lt_of_lt_mul (by rw [Nat.mul_comm]; exact hk)
      have hkj : k % sz < sz := Nat.mod_lt _ hsz
      have e1 : k = k / sz * sz + k % sz := by rw [Nat.mul_comm]; exact (Nat.div_add_mod k sz).symm
      rw [e1, flat_get els _ _ h7 hkj, List.getElem?_eq_getElem hki] at hv
      obtain ⟨_, _, b', off', ha', hc⟩ := hp _ _ (List.getElem?_eq_getElem hki)
      rw [ha] at ha'
      cases ha'
      have := hw.rd (hc _ v hv)
      rw [add_mk, e1, ← Nat.add_assoc]
      exact this

theorem Holds.els_rd {E : TypeId} {sz : Nat} {b off n c : Nat} {els : List (List Value)} (h : Holds G w (all L)) (k : Nat) (hk : L[k]? = some (own E sz (some ⟨b, off, none⟩) n c els.flatten)) (h7 : ∀ e ∈ els, e.length = sz)
    {i : Nat} {cs : List Value} (hi : els[i]? = some cs) (m : Nat) {v : Value} (hm : cs[m]? = some v) : w.cell? ⟨b, off + i * sz + m, none⟩ = some v := by
  have hmem : cs ∈ els := List.mem_of_getElem? hi
  have hlt : m < sz := by rw [← h7 cs hmem]; exact (List.getElem?_eq_some_iff.1 hm).1
  exact h.own_rd k (i * sz + m) hk (by rw [flat_get els i m h7 hlt, hi]; exact hm) (Nat.add_assoc _ _ _)

/-- A slice that is frozen, element by element. -/
theorem vs_of_frozen {α : Type} {sz : Nat} {C : α → List Value → Prop} {ts : List α} {a : Option Addr} {els : List (List Value)} (hcell : ∀ i v, els.flatten[i]? = some v → ∃ b off, a = some ⟨b, off, none⟩ ∧ G.cell b (off + i) = some v)
    (h7 : ∀ e ∈ els, e.length = sz) (hsz : 0 < sz) (hels : ∀ (i : Nat) (t : α), ts[i]? = some t → ∃ cs : List Value, els[i]? = some cs ∧ C t cs) : VsAt G sz C ts a := by
  intro i t hi
  obtain ⟨cs, hcs, hC⟩ := hels i t hi
  have hl : cs.length = sz := h7 cs (List.mem_of_getElem? hcs)
  have hflat : ∀ (j : Nat) (v : Value), cs[j]? = some v → els.flatten[i * sz + j]? = some v := by
    intro j v hv
    have hj : j < sz := by rw [← hl]; exact (List.getElem?_eq_some_iff.1 hv).1
    rw [flat_get els i j h7 hj, hcs]
    exact hv
  obtain ⟨b, off, hb, _⟩ := hcell _ _ (hflat 0 _ (List.getElem?_eq_getElem (by omega)))
  refine ⟨b, off, cs, hb, hC, hl, fun j v hv => ?_⟩
  obtain ⟨b', off', hb', hc⟩ := hcell _ _ (hflat j v hv)
  rw [hb] at hb'
  cases hb'
  rw [Nat.add_assoc]
  exact hc

end
end Go.Eng
