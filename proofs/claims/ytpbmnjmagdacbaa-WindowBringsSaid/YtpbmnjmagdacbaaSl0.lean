/- Ownership of blocks: assertions on a part of the heap, their joining, and what the generator's words ask in such terms. No program in sight. -/
import Derived.Test.YtpbmnjmagdacbaaEng6
import Derived.Deep.Draws
namespace Go.Eng
open Go Go.RowKit

abbrev PH := Nat → Option Obj
/-- An assertion on a part of the heap. -/
def HP := PH → Prop

def HP.emp : HP := fun h => ∀ b, h b = none
def HP.lift (p : Prop) : HP := fun h => p ∧ ∀ b, h b = none
def HP.pt (b : Nat) (o : Obj) : HP := fun h => h b = some o ∧ ∀ c, c ≠ b → h c = none
def HP.ex {α : Type} (A : α → HP) : HP := fun h => ∃ a, A a h
def HP.star (A B : HP) : HP := fun h => ∃ h1 h2 : PH, (∀ b, h1 b = none ∨ h2 b = none) ∧ (∀ b, h b = (h1 b).or (h2 b)) ∧ A h1 ∧ B h2


theorem star_comm (A B : HP) : (HP.star A B) = (HP.star B A) := by
  funext h
  apply propext
  constructor
  all_goals
    rintro ⟨h1, h2, hd, he, a, b⟩
    refine ⟨h2, h1, fun c => (hd c).symm, fun c => ?_, b, a⟩
    rw [he c]
    rcases hd c with h | h <;> simp [h]

theorem star_assoc (A B C : HP) : (HP.star (HP.star A B) C) = (HP.star A (HP.star B C)) := by
  funext h
  apply propext
  constructor
  · rintro ⟨h1, h3, hd, he, ⟨h4, h5, hd', he', a, b⟩, c⟩
    refine ⟨h4, fun x => (h5 x).or (h3 x), fun x => ?_, fun x => ?_, a, h5, h3, fun x => ?_, fun x => rfl, b, c⟩
    · have := hd x; have := hd' x; have := he' x
      cases hx : h4 x <;> cases hy : h5 x <;> cases hz : h3 x <;> simp_all
    · have := hd x; have := he x; have := he' x
      cases hx : h4 x <;> cases hy : h5 x <;> cases hz : h3 x <;> simp_all
    · have := hd x; have := hd' x; have := he' x
      cases hx : h4 x <;> cases hy : h5 x <;> cases hz : h3 x <;> simp_all
  · rintro ⟨h1, h3, hd, he, a, h4, h5, hd', he', b, c⟩
    refine ⟨fun x => (h1 x).or (h4 x), h5, fun x => ?_, fun x => ?_, ⟨h1, h4, fun x => ?_, fun x => rfl, a, b⟩, c⟩
    · have := hd x; have := hd' x; have := he' x
      cases hx : h1 x <;> cases hy : h4 x <;> cases hz : h5 x <;> simp_all
    · have := hd x; have := he x; have := he' x
      cases hx : h1 x <;> cases hy : h4 x <;> cases hz : h5 x <;> simp_all
    · have := hd x; have := hd' x; have := he' x
      cases hx : h1 x <;> cases hy : h4 x <;> cases hz : h5 x <;> simp_all

theorem star_left_comm (A B C : HP) : (HP.star A (HP.star B C)) = (HP.star B (HP.star A C)) := by rw [← star_assoc, star_comm A B, star_assoc]

theorem emp_star (A : HP) : (HP.star HP.emp A) = A := by
  funext h
  apply propext
  constructor
  · rintro ⟨h1, h2, hd, he, a, b⟩
    have : h = h2 := by funext x; rw [he x, a x]; rfl
    rw [this]; exact b
  · intro a
    exact ⟨fun _ => none, h, fun _ => .inl rfl, fun x => rfl, fun _ => rfl, a⟩

theorem star_emp (A : HP) : (HP.star A HP.emp) = A := by rw [star_comm, emp_star]

instance : Std.Associative HP.star := ⟨star_assoc⟩
instance : Std.Commutative HP.star := ⟨star_comm⟩

theorem lift_star {p : Prop} {A : HP} {h : PH} : (HP.star (HP.lift p) A) h ↔ p ∧ A h := by
  constructor
  · rintro ⟨h1, h2, hd, he, ⟨hp, a⟩, b⟩
    have : h = h2 := by funext x; rw [he x, a x]; rfl
    rw [this]; exact ⟨hp, b⟩
  · rintro ⟨hp, a⟩
    exact ⟨fun _ => none, h, fun _ => .inl rfl, fun x => rfl, ⟨hp, fun _ => rfl⟩, a⟩

theorem ex_star {α : Type} {A : α → HP} {B : HP} {h : PH} : (HP.star (HP.ex A) B) h ↔ ∃ a, (HP.star (A a) B) h := by
  constructor
  · rintro ⟨h1, h2, hd, he, ⟨x, a⟩, b⟩
    exact ⟨x, h1, h2, hd, he, a, b⟩
  · rintro ⟨x, h1, h2, hd, he, a, b⟩
    exact ⟨h1, h2, hd, he, ⟨x, a⟩, b⟩

/-- A block of cells, none of which is frozen. -/
def HP.blk (b : Nat) (t : TypeId) (cs : List Value) : HP := fun h => ∃ fr : Nat × Nat, (∀ i, i < cs.length → ¬ (fr.1 ≤ i ∧ i < fr.2)) ∧ HP.pt b (.cells cs.toArray t fr) h
def HP.mp (b : Nat) (es : List MapEntry) (clock : Nat) : HP := HP.pt b (.map es.toArray clock)

open HP

/-- What a proof holds fixed: the world when the law's call began (below its size nothing turns), and blocks of the call's own that will never be written any more. -/
structure Gh where
  W : World
  M : Nat → Option Obj

def Gh.le (G G' : Gh) : Prop := G'.W = G.W ∧ ∀ b o, G.M b = some o → G'.M b = some o
instance : LE Gh := ⟨Gh.le⟩
theorem Gh.refl (G : Gh) : G ≤ G := ⟨rfl, fun _ _ h => h⟩
theorem Gh.trans {a b c : Gh} (h : a ≤ b) (k : b ≤ c) : a ≤ c := ⟨k.1.trans h.1, fun x o hx => k.2 x o (h.2 x o hx)⟩

/-- A block that does not turn. -/
def Gh.obj (G : Gh) (b : Nat) : Option Obj := if b < G.W.heap.size then G.W.heap[b]? else G.M b
/-- A cell that does not turn. -/
def Gh.cell (G : Gh) (b i : Nat) : Option Value := match G.obj b with | some (.cells c _ _) => c[i]? | _ => none

theorem Gh.obj_mono {G G' : Gh} (h : G ≤ G') {b : Nat} {o : Obj} (hb : G.obj b = some o) : G'.obj b = some o := by
  unfold Gh.obj at *
  rw [h.1]
  split
  · next hl => rw [if_pos hl] at hb; exact hb
  · next hl => rw [if_neg hl] at hb; exact h.2 b o hb

theorem Gh.cell_mono {G G' : Gh} (h : G ≤ G') {b i : Nat} {v : Value} (hb : G.cell b i = some v) : G'.cell b i = some v := by
  unfold Gh.cell at *
  split at hb
  · next c _ _ ho => rw [Gh.obj_mono h ho]; exact hb
  · cases hb

def Holds (G : Gh) (w : World) (A : HP) : Prop :=
  Below G.W.heap.size G.W w ∧ (∀ b o, G.M b = some o → w.heap[b]? = some o) ∧ ∃ h : PH, A h ∧ ∀ b o, h b = some o → G.W.heap.size ≤ b ∧ w.heap[b]? = some o ∧ G.M b = none

section
variable {G : Gh} {w : World} {A B F : HP}

theorem Holds.mono (h : Holds G w A) (hab : ∀ h, A h → B h) : Holds G w B := ⟨h.1, h.2.1, h.2.2.imp fun p hp => ⟨hab p hp.1, hp.2⟩⟩

theorem Holds.eq (h : Holds G w A) (hab : A = B) : Holds G w B := hab ▸ h

theorem Holds.left (h : Holds G w (HP.star A F)) : Holds G w A := by
  obtain ⟨hb, hm, p, ⟨h1, h2, hd, he, a, f⟩, hw⟩ := h
  refine ⟨hb, hm, h1, a, fun b o hbo => hw b o ?_⟩
  rw [he b, hbo]; rfl

theorem Holds.right (h : Holds G w (HP.star A F)) : Holds G w F := (h.eq (star_comm A F)).left

theorem Holds.lift_iff {p : Prop} : Holds G w (HP.star (lift p) A) ↔ p ∧ Holds G w A := by
  constructor
  · rintro ⟨hb, hm, q, hq, hw⟩
    obtain ⟨hp, ha⟩ := lift_star.1 hq
    exact ⟨hp, hb, hm, q, ha, hw⟩
  · rintro ⟨hp, hb, hm, q, hq, hw⟩
    exact ⟨hb, hm, q, lift_star.2 ⟨hp, hq⟩, hw⟩

theorem Holds.ex_iff {α : Type} {A : α → HP} : Holds G w (HP.star (HP.ex A) F) ↔ ∃ a, Holds G w (HP.star (A a) F) := by
  constructor
  · rintro ⟨hb, hm, q, hq, hw⟩
    obtain ⟨a, ha⟩ := ex_star.1 hq
    exact ⟨a, hb, hm, q, ha, hw⟩
  · rintro ⟨a, hb, hm, q, hq, hw⟩
    exact ⟨hb, hm, q, ex_star.2 ⟨a, hq⟩, hw⟩

theorem Holds.start (W : World) : Holds ⟨W, fun _ => none⟩ W emp := ⟨Below.refl _ _, fun _ _ h => (by cases h), fun _ => none, fun _ => rfl, fun _ _ h => (by cases h)⟩

theorem pt_star_heap {b : Nat} {o : Obj} (h : Holds G w (HP.star (pt b o) F)) : w.heap[b]? = some o ∧ G.W.heap.size ≤ b ∧ G.M b = none := by
  obtain ⟨hb, hm, p, ⟨h1, h2, hd, he, a, f⟩, hw⟩ := h
  have := hw b o (by rw [he b, a.1]; rfl)
  exact ⟨this.2.1, this.1, this.2.2⟩

theorem Holds.blk_iff {b : Nat} {t : TypeId} {cs : List Value} : Holds G w (HP.star (blk b t cs) F) ↔ ∃ fr : Nat × Nat, (∀ i, i < cs.length → ¬ (fr.1 ≤ i ∧ i < fr.2)) ∧ Holds G w (HP.star (pt b (.cells cs.toArray t fr)) F) := by
  constructor
  · rintro ⟨hb, hm, p, ⟨h1, h2, hd, he, ⟨fr, hfr, a⟩, f⟩, hw⟩
    exact ⟨fr, hfr, hb, hm, p, ⟨h1, h2, hd, he, a, f⟩, hw⟩
  · rintro ⟨fr, hfr, hb, hm, p, ⟨h1, h2, hd, he, a, f⟩, hw⟩
    exact ⟨hb, hm, p, ⟨h1, h2, hd, he, ⟨fr, hfr, a⟩, f⟩, hw⟩

/-- A cell of an owned block. -/
theorem Holds.ld {b : Nat} {t : TypeId} {cs : List Value} (h : Holds G w (HP.star (blk b t cs) F)) (i : Nat) {v : Value} (hv : cs[i]? = some v) : w.cell? ⟨b, i, none⟩ = some v := by
  obtain ⟨fr, _, hp⟩ := Holds.blk_iff.1 h
  have := (pt_star_heap hp).1
  simp [World.cell?, this, hv]

/-- A block that does not turn. -/
theorem Holds.obj (h : Holds G w F) {b : Nat} {o : Obj} (hb : G.obj b = some o) : w.heap[b]? = some o := by
  unfold Gh.obj at hb
  split at hb
  · next hl => rw [h.1.block b hl]; exact hb
  · exact h.2.1 b o hb

/-- A cell that does not turn. -/
theorem Holds.rd (h : Holds G w F) {b i : Nat} {v : Value} (hv : G.cell b i = some v) : w.cell? ⟨b, i, none⟩ = some v := by
  unfold Gh.cell at hv
  split at hv
  · next c t fr ho =>
    have := h.obj ho
    simp [World.cell?, this, hv]
  · cases hv

theorem Holds.unfrozen {b : Nat} {t : TypeId} {cs : List Value} (h : Holds G w (HP.star (blk b t cs) F)) {i : Nat} (hi : i < cs.length) : w.frozen? ⟨b, i, none⟩ = false := by
  obtain ⟨fr, hfr, hp⟩ := Holds.blk_iff.1 h
  have := (pt_star_heap hp).1
  have h2 := hfr i hi
  obtain ⟨lo, hi'⟩ := fr
  simp only [World.frozen?, this]
  simp only at h2
  simp only [Bool.and_eq_false_iff, decide_eq_false_iff_not]
  by_cases h3 : lo ≤ i
  · exact .inr fun h4 => h2 ⟨h3, h4⟩
  · exact .inl h3

/-- One owned block turned. -/
theorem Holds.update {b : Nat} {o o' : Obj} {w' : World} (h : Holds G w (HP.star (pt b o) F)) (hos : w'.os = w.os) (htape : w'.tape = w.tape) (hout : w'.output = w.output) (hsize : w'.heap.size = w.heap.size)
    (hb : w'.heap[b]? = some o') (hother : ∀ c, c ≠ b → w'.heap[c]? = w.heap[c]?) : Holds G w' (HP.star (pt b o') F) := by
  obtain ⟨_, hge, hMb⟩ := pt_star_heap h
  obtain ⟨hbel, hm, p, ⟨h1, h2, hd, he, a, f⟩, hw⟩ := h
  refine ⟨⟨hos.trans hbel.os, htape.trans hbel.tape, hout.trans hbel.output, by have := hbel.size; omega, fun k hk => ?_⟩, fun c o'' hc => ?_, fun c => if c = b then some o' else p c, ⟨fun c => if c = b then some o' else none, h2, fun c => ?_, fun c => ?_, ⟨by simp, fun c hc => by simp [hc]⟩, f⟩, fun c o'' hc => ?_⟩
  · rw [hother k (by omega)]; exact hbel.block k hk
  · rw [hother c (fun e => by subst e; rw [hMb] at hc; cases hc)]; exact hm c o'' hc
  · by_cases hc : c = b
    · subst hc
      rcases hd c with h | h
      · rw [a.1] at h; cases h
      · exact .inr h
    · exact .inl (by simp [hc])
  · by_cases hc : c = b
    · subst hc; simp
    · simp only [hc, if_false]
      rw [he c, a.2 c hc]
  · by_cases hcb : c = b
    · subst hcb
      simp only [if_true] at hc
      cases hc
      exact ⟨hge, hb, hMb⟩
    · simp only [hcb, if_false] at hc
      have := hw c o'' hc
      exact ⟨this.1, by rw [hother c hcb]; exact this.2.1, this.2.2⟩

theorem Holds.setCell {b : Nat} {t : TypeId} {cs : List Value} (h : Holds G w (HP.star (blk b t cs) F)) (i : Nat) (v : Value) : Holds G (w.setCell ⟨b, i, none⟩ v) (HP.star (blk b t (cs.set i v)) F) := by
  obtain ⟨fr, hfr, hp⟩ := Holds.blk_iff.1 h
  have hh := (pt_star_heap hp).1
  refine Holds.blk_iff.2 ⟨fr, by simpa using hfr, hp.update rfl rfl rfl ?_ ?_ ?_⟩
  · simp [World.setCell]
  · simp [World.setCell, Array.getElem?_modify, hh]
  · intro c hc
    exact Below.heap_setCell w _ v c hc

theorem Holds.alloc (h : Holds G w F) (o : Obj) : Holds G (w.alloc o) (HP.star (pt w.heap.size o) F) := by
  obtain ⟨hbel, hm, p, hp, hw⟩ := h
  have hlt : ∀ c o, p c = some o → c < w.heap.size := fun c o hc => (Array.getElem?_eq_some_iff.1 (hw c o hc).2.1).1
  have hMs : G.M w.heap.size = none := by
    cases hM : G.M w.heap.size with
    | none => rfl
    | some o' => have := (Array.getElem?_eq_some_iff.1 (hm _ _ hM)).1; omega
  refine ⟨hbel.alloc hbel.size o, fun c o' hc => ?_, fun c => if c = w.heap.size then some o else p c, ⟨fun c => if c = w.heap.size then some o else none, p, fun c => ?_, fun c => ?_, ⟨by simp, fun c hc => by simp [hc]⟩, hp⟩, fun c o' hc => ?_⟩
  · have := hm c o' hc
    rw [Below.heap_alloc _ _ _ (Array.getElem?_eq_some_iff.1 this).1]
    exact this
  · by_cases hc : c = w.heap.size
    · right
      cases hpc : p c with
      | none => rfl
      | some o' => have := hlt c o' hpc; omega
    · exact .inl (by simp [hc])
  · by_cases hc : c = w.heap.size <;> simp [hc]
  · by_cases hcs : c = w.heap.size
    · subst hcs
      simp only [if_true] at hc
      cases hc
      exact ⟨hbel.size, by show (w.heap.push _)[_]? = _; simp, hMs⟩
    · simp only [hcs, if_false] at hc
      have := hlt c o' hc
      exact ⟨(hw c o' hc).1, by rw [Below.heap_alloc _ _ _ this]; exact (hw c o' hc).2.1, (hw c o' hc).2.2⟩

theorem Holds.drew (h : Holds G w F) : Holds G w.drew F := ⟨h.1.drew, h.2.1, h.2.2⟩

/-- What a callee that only makes memory leaves. -/
theorem Holds.below {w' : World} (h : Holds G w F) (hb : Below w.heap.size w w') : Holds G w' F := by
  obtain ⟨hbel, hm, p, hp, hw⟩ := h
  have keep : ∀ c o, w.heap[c]? = some o → w'.heap[c]? = some o := fun c o h2 => by
    rw [hb.block c (Array.getElem?_eq_some_iff.1 h2).1]; exact h2
  exact ⟨hbel.trans (hb.mono hbel.size), fun c o hc => keep c o (hm c o hc), p, hp, fun c o hc => ⟨(hw c o hc).1, keep c o (hw c o hc).2.1, (hw c o hc).2.2⟩⟩

/-- A block that will not be written any more. -/
theorem Holds.freeze {b : Nat} {o : Obj} (h : Holds G w (HP.star (pt b o) F)) : ∃ G', G ≤ G' ∧ G'.obj b = some o ∧ Holds G' w F := by
  obtain ⟨hb, hge, hMb⟩ := pt_star_heap h
  obtain ⟨hbel, hm, p, ⟨h1, h2, hd, he, a, f⟩, hw⟩ := h
  refine ⟨⟨G.W, fun c => if c = b then some o else G.M c⟩, ⟨rfl, fun c o' hc => ?_⟩, ?_, hbel, fun c o' hc => ?_, h2, f, fun c o' hc => ?_⟩
  · have hne : c ≠ b := fun e => by subst e; rw [hMb] at hc; cases hc
    simp [hne, hc]
  · simp [Gh.obj]; omega
  · by_cases hcb : c = b
    · subst hcb; simp only [if_true] at hc; cases hc; exact hb
    · simp only [hcb, if_false] at hc; exact hm c o' hc
  · have hcb : c ≠ b := fun e => by
      subst e
      rcases hd c with h | h
      · rw [a.1] at h; cases h
      · rw [hc] at h; cases h
    have hpc : p c = some o' := by rw [he c, hc, a.2 c hcb]; rfl
    have := hw c o' hpc
    exact ⟨this.1, this.2.1, by simp only [hcb, if_false]; exact this.2.2⟩

theorem Holds.blk_freeze {b : Nat} {t : TypeId} {cs : List Value} (h : Holds G w (HP.star (blk b t cs) F)) : ∃ G', G ≤ G' ∧ (∀ i, G'.cell b i = cs[i]?) ∧ Holds G' w F := by
  obtain ⟨fr, _, hp⟩ := Holds.blk_iff.1 h
  obtain ⟨G', h1, h2, h3⟩ := hp.freeze
  exact ⟨G', h1, fun i => by simp [Gh.cell, h2], h3⟩

theorem Holds.pt_ne {b c : Nat} {o o' : Obj} (h : Holds G w (HP.star (pt b o) (HP.star (pt c o') F))) : b ≠ c := by
  intro e
  subst e
  obtain ⟨hbel, hm, p, ⟨h1, h2, hd, he, a, h3, h4, hd', he', a', f⟩, hw⟩ := h
  rcases hd b with h | h
  · rw [a.1] at h; cases h
  · rw [he' b, a'.1] at h; cases h

end

/-! The words -/
theorem add_mk (b o n : Nat) : (⟨b, o, none⟩ : Addr).add n = ⟨b, o + n, none⟩ := by
  unfold Addr.add
  split
  · next h => subst h; rfl
  · rfl

theorem ws {α : Type} (a : α) (K : α → Prop) : withSome (some a) K = K a := rfl
theorem ws0 {α : Type} (K : α → Prop) : withSome (none : Option α) K = False := rfl

theorem ctt {b : Bool} {A B : Prop} (hb : b = true) (h : A) : cond b A B := by subst hb; exact h
theorem cff {b : Bool} {A B : Prop} (hb : b = false) (h : B) : cond b A B := by subst hb; exact h
theorem cif {b : Bool} {A B : Prop} (ht : b = true → A) (hf : b = false → B) : cond b A B := by cases b <;> simp_all

/-- It returns, and so. -/
def Ret (Q : Value → World → Prop) : Ending → World → Prop
  | .returned v, w => Q v w
  | _, _ => False

theorem CallR.of {P : Program} {f : FuncId} {args : List Value} {w : World} {Kp : List PanicEntry → World → Prop} {K Q : Value → World → Prop}
    (h : Calls P f args.toArray w (Ret Q)) (hk : ∀ v w', Q v w' → K v w') : CallR P f args w Kp K :=
  Calls.mono h fun e w' he => by cases e <;> first | exact hk _ _ he | exact he.elim

theorem Meet.mk {σ : Type} {body : (σ → World → Prop) → Prop} {rest : σ → World → Prop} (J : σ → World → Prop) (h : body J) (hr : ∀ s w, J s w → rest s w) : Meet body rest := ⟨J, h, hr⟩
theorem Meet.dup {σ : Type} {body : (σ → World → Prop) → Prop} {rest : σ → World → Prop} (h : body rest) : Meet body rest := ⟨rest, h, fun _ _ h => h⟩

/-- A loop: what holds at every round's head, and a number that falls. -/
theorem Loop.inv {σ : Type} {body : (σ → World → Prop) → σ → World → Prop} (I : σ → World → Prop) (μ : σ → World → Nat)
    (round : ∀ (X : σ → World → Prop) s w, I s w → (∀ s' w', I s' w' → μ s' w' < μ s w → X s' w') → body X s w) {s : σ} {w : World} (h : I s w) : Eng.Loop body s w := by
  intro X hX
  have key : ∀ n s w, μ s w = n → I s w → X s w := by
    intro n
    induction n using Nat.strongRecOn with
    | _ n ih =>
      intro s w hn hI
      exact hX s w (round X s w hI fun s' w' hI' hlt => ih _ (hn ▸ hlt) s' w' rfl hI')
  exact key _ s w rfl h

theorem St.of {G : Gh} {w : World} {F : HP} {b : Nat} {t : TypeId} {cs : List Value} {i : Nat} {v : Value} {K : World → Prop} (h : Holds G w (HP.star (blk b t cs) F)) (hi : i < cs.length) (hv : oneCell v = true)
    (hk : ∀ w', Holds G w' (HP.star (blk b t (cs.set i v)) F) → K w') : St w ⟨b, i, none⟩ v K :=
  ⟨⟨_, h.ld i (List.getElem?_eq_getElem hi)⟩, h.unfrozen hi, hv, hk _ (h.setCell i v)⟩

theorem New.of {G : Gh} {w : World} {F : HP} {t : TypeId} {cs : List Value} {K : Nat → World → Prop} (h : Holds G w F) (hk : ∀ b w', Holds G w' (HP.star (blk b t cs) F) → K b w') : New w (.cells cs.toArray t (0, 0)) K :=
  hk _ _ (Holds.blk_iff.2 ⟨(0, 0), fun i _ h => by simp at h, h.alloc _⟩)

theorem New.map {G : Gh} {w : World} {F : HP} {K : Nat → World → Prop} (h : Holds G w F) (hk : ∀ b w', Holds G w' (HP.star (mp b [] 0) F) → K b w') : New w (.map #[] 0) K := hk _ _ (h.alloc _)

theorem Drew.of {G : Gh} {w : World} {F : HP} {K : World → Prop} (h : Holds G w F) (hk : ∀ w', Holds G w' F → K w') : Drew w K := hk _ h.drew

end Go.Eng
