/- Regions: in the order of the text; and those whose order is drawn. -/
import Derived.Test.YtpbmnjmagdacbaaEng3
import Derived.OrdersHeld
namespace Go.Eng
open Go

section
variable {P : Program} {T : Nat → Option TI} {bl : Nat → Bool}

theorem set_same {fr : List Value} {s : Nat} {v : Value} (h : nth fr s = v) (hv : v ≠ undef ∨ s < fr.length) : fr.set s v = fr := by
  have hlt : s < fr.length := by
    rcases hv with hv | hv
    · apply Nat.lt_of_not_le
      intro hge
      apply hv
      rw [← h, nth_getD]
      simp [hge]
    · exact hv
  apply List.ext_getElem
  · simp
  · intro i h1 h2
    by_cases hi : s = i
    · subst hi
      simp
      rw [← h, nth_getD]
      simp [hlt]
    · simp [hi]

theorem nth_tup {fr : List Value} {s : Nat} {vs : Array Value} (h : nth fr s = .tuple vs) (b : Bool) : fr.toArray[s]? ≠ some (.bool b) := by
  rw [nth_getD] at h
  intro hs
  rw [Array.getD_eq_getD_getElem?, hs] at h
  cases h

theorem nth_mem {fr : List Value} {s : Nat} {b : Bool} (h : nth fr s = .bool b) : fr.toArray[s]? = some (.bool b) := by
  rw [nth_getD] at h
  cases hs : fr.toArray[s]? with
  | none =>
    simp [Array.getD_eq_getD_getElem?, hs, undef] at h
  | some v =>
    simp [Array.getD_eq_getD_getElem?, hs] at h
    rw [h]

/-- An operation's guard. -/
theorem guardX_sound {all : List Oper} {o : Oper} {fr : List Value} {K : List Value → Bool → Prop} (h : guardX all o fr K) :
    K fr (Region.wanted o (yielded all.toArray fr.toArray)) := by
  unfold guardX at h
  split at h
  · rename_i hg
    simpa [Region.wanted, hg] using h
  · rename_i j want hg
    split at h
    · rename_i oj hj
      split at h
      · rename_i s hs
        split at h
        · rename_i b hb
          have hset : fr.set s (.bool b) = fr := set_same hb (.inl (by simp [undef]))
          have hy : yielded all.toArray fr.toArray j = some b := by
            rw [nthO_get?] at hj
            have hj' : all.toArray[j]? = some oj := by simpa using hj
            simp only [yielded, hj', Option.bind_some, hs, nth_mem hb]
          have hw : Region.wanted o (yielded all.toArray fr.toArray) = (b == want) := by
            simp only [Region.wanted, hg, hy]
            cases b <;> cases want <;> rfl
          rw [hw]
          cases b
          · simp only [cond_false] at h
            rw [hset] at h
            cases want <;> exact h
          · simp only [cond_true] at h
            rw [hset] at h
            cases want <;> exact h
        · rename_i vs hv
          have hw : Region.wanted o (yielded all.toArray fr.toArray) = false := by
            rw [nthO_get?] at hj
            have hj' : all.toArray[j]? = some oj := by simpa using hj
            have hy : yielded all.toArray fr.toArray j = none := by
              simp only [yielded, hj', Option.bind_some, hs]
              split
              · rename_i b hb
                exact absurd hb (nth_tup hv b)
              · rfl
            simp only [Region.wanted, hg, hy]
            rfl
          rw [hw]
          exact h
        · exact h.elim
      · exact h.elim
    · exact h.elim

theorem putO_put (fr : List Value) (ds : List Deferred) (d : Option Tmp) (v : Value) : (Act.mk fr.toArray ds).put d v = ⟨(putO fr d v).toArray, ds⟩ := by
  cases d <;> simp [Act.put, putO]

theorem put_defers (a : Act) (d : Option Tmp) (v : Value) : (a.put d v).defers = a.defers := by cases d <;> rfl

/-- Two frames that are one but for some slots. -/
def Agree (D : List Nat) (fr fr' : List Value) : Prop := fr'.length = fr.length ∧ ∀ s, s ∉ D → fr'[s]? = fr[s]?

theorem Agree.refl (D : List Nat) (fr : List Value) : Agree D fr fr := ⟨rfl, fun _ _ => rfl⟩
theorem Agree.trans {D : List Nat} {a b c : List Value} (h : Agree D a b) (k : Agree D b c) : Agree D a c :=
  ⟨k.1.trans h.1, fun s hs => (k.2 s hs).trans (h.2 s hs)⟩
theorem Agree.mono {D D' : List Nat} {a b : List Value} (h : Agree D a b) (hd : ∀ s, s ∈ D → s ∈ D') : Agree D' a b :=
  ⟨h.1, fun s hs => h.2 s fun hm => hs (hd s hm)⟩
theorem Agree.put {D : List Nat} {a b : List Value} (h : Agree D a b) {d : Option Tmp} (hd : ∀ t, d = some t → t ∈ D) (v : Value) : Agree D a (putO b d v) := by
  cases d with
  | none => exact h
  | some t =>
    refine ⟨by simpa [putO] using h.1, fun s hs => ?_⟩
    have hne : t ≠ s := fun e => hs (e ▸ hd t rfl)
    simp only [putO]
    rw [List.getElem?_set_ne hne]
    exact h.2 s hs

/-- What a region's walk ends in. -/
def RPost (ds : List Deferred) (D : List Nat) (fr0 : List Value) (Kp : List PanicEntry → World → Prop) (K : List Value → World → Prop) : Exit → Act → World → Prop
  | .normal, a, w => ∃ fr, a = ⟨fr.toArray, ds⟩ ∧ Agree D fr0 fr ∧ K fr w
  | .panic ch, a, w => a.defers = ds ∧ Kp ch w
  | _, _, _ => False

theorem outcome_upon {o : Oper} {a : Act} {r : Result Next} {Q : Exit → Act → World → Prop} {next : Act → World → Prop} {Kp : List PanicEntry → World → Prop} {K : Value → World → Prop}
    (hp : ∀ ch w, Kp ch w → Q (.panic ch) a w) (hn : ∀ v w, K v w → next (a.put o.dst v) w) (h : Outcome P Kp K r) : o.upon P a next Q r := by
  cases r with
  | ok n w' =>
    cases n <;> simp only [Outcome] at h <;> simp only [Oper.upon]
    case value v => exact hn _ _ h
    case skip => exact hn _ _ h
    case enter f args => exact Calls.mono h fun e w'' he => by cases e <;> first | exact hn _ _ he | exact hp _ _ he | exact he.elim
  | halt x w' =>
    cases x <;> simp only [Outcome] at h
    case panic v => exact hp _ _ h

theorem eval_eq (fr : List Value) (ds : List Deferred) : (Act.mk fr.toArray ds).eval = evL fr := funext (evL_eval fr ds)

theorem load_run {ev : Operand → Value} {o : Oper} {t : TypeId} {x : Operand} {ad : Addr} (ho : o.op = .load t x) (he : ev x = .pointer (some ad)) {w : World} {v : Value} (h : (loadVar t ad).run P w = .ok v w) :
    (execOp ev o).run P w = .ok (.value v) w := by
  obtain ⟨dst, op, type, pos, after, guard⟩ := o
  simp only at ho
  subst ho
  simp only [execOp, Instr.loadAt, he, Instr.sureAddr, Sem.run_bind, Sem.run_pure, Result.andThen_ok, h]

theorem opX_sound (hT : TOk P T) (hbl : Bl P bl) {o : Oper} {fr : List Value} {w : World} {Kp : List PanicEntry → World → Prop} {K : Value → World → Prop}
    (h : opX P T bl o (evL fr) w Kp K) : Outcome P Kp K ((execOp (evL fr) o).run P w) := by
  unfold opX at h
  split at h
  · rename_i t a ho
    split at h
    · rename_i oa ha
      obtain ⟨ad, hoa, hl⟩ := withSome_some h
      subst hoa
      obtain ⟨v, S, h1, h2, h3⟩ := loadX_sound hT hl
      rw [load_run ho ha (h1 w h2)]
      exact h3
    · exact h.elim
  · rcases cond_sat h with ⟨_, h⟩ | ⟨_, h⟩
    · obtain ⟨v, h1, h2⟩ := pureX_sound hT h
      rw [h1]
      exact h2
    · exact effX_sound hT hbl (fun f => rfl) h

/-- In the order of the text. -/
theorem opsX_sound (hT : TOk P T) (hbl : Bl P bl) {ds : List Deferred} {D : List Nat} {fr0 : List Value} {all : List Oper} (l : List Oper) :
    (∀ o ∈ l, ∀ t, o.dst = some t → t ∈ D) → ∀ {fr : List Value} {w : World} {Kp : List PanicEntry → World → Prop} {K : List Value → World → Prop}, Agree D fr0 fr →
      opsX P T bl all l fr w Kp K → wpList P all.toArray (RPost ds D fr0 Kp K) l ⟨fr.toArray, ds⟩ w := by
  induction l with
  | nil => intro _ fr w Kp K ha h; exact ⟨fr, rfl, ha, h⟩
  | cons o r ih =>
    intro hd fr w Kp K ha h
    have hdo := hd o List.mem_cons_self
    simp only [opsX] at h
    have hg := guardX_sound h
    unfold wpList
    simp only []
    cases hw : Region.wanted o (yielded all.toArray fr.toArray) with
    | true =>
      rw [hw] at hg
      simp only [cond_true] at hg
      simp only [if_true]
      refine .inl ?_
      unfold Oper.wp
      rw [eval_eq]
      refine outcome_upon (Kp := Kp) (fun ch w h => ⟨rfl, h⟩) (fun v w' hK => ?_) (opX_sound hT hbl hg)
      rw [putO_put]
      exact ih (fun o ho => hd o (List.mem_cons_of_mem _ ho)) (ha.put hdo v) hK
    | false =>
      rw [hw] at hg
      simp only [cond_false] at hg
      simp only [Bool.false_eq_true, if_false]
      rw [putO_put]
      exact ih (fun o ho => hd o (List.mem_cons_of_mem _ ho)) (ha.put hdo undef) hg

/-! A region that draws its order -/
section draws
variable {ops : Array Oper} {Q : Exit → Act → World → Prop} {bm : List Nat}

/-- Whatever order; 'pend': reads that were taken ahead and may not have been carried out yet, each with what must hold for it. -/
def wpAnyP (P : Program) (ops : Array Oper) (bm : List Nat) (Q : Exit → Act → World → Prop) : Nat → Array Bool → List (Nat × (World → Prop)) → Act → World → Prop
  | 0, listed, _, a, w => Region.ready .any ops listed = [] ∧ Q .normal a w
  | fuel + 1, listed, pend, a, w =>
    (Region.ready .any ops listed = [] → Q .normal a w) ∧
    ∀ j ∈ Region.ready .any ops listed, wpOp P ops Q j (fun a' w' => (∀ x ∈ dropX (bm.getD j 0) pend, x.2 w') ∧ wpAnyP P ops bm Q fuel (listed.setIfInBounds j true) (dropX (bm.getD j 0) pend) a' w') a w

theorem mem_dropX {b : Nat} {x : Nat × (World → Prop)} {l : List (Nat × (World → Prop))} : x ∈ dropX b l ↔ x ∈ l ∧ b.testBit x.1 = false := by
  induction l with
  | nil => simp [dropX]
  | cons y r ih =>
    obtain ⟨i, S⟩ := y
    unfold dropX
    cases hb : b.testBit i with
    | true =>
      simp only [cond_true, ih, List.mem_cons]
      refine ⟨fun h => ⟨.inr h.1, h.2⟩, fun h => ⟨?_, h.2⟩⟩
      rcases h.1 with h1 | h1
      · subst h1; simp only at h; rw [hb] at h; exact absurd h.2 (by simp)
      · exact h1
    | false =>
      simp only [cond_false, List.mem_cons, ih]
      refine ⟨fun h => ?_, fun h => ?_⟩
      · rcases h with h | h
        · subst h; exact ⟨.inl rfl, hb⟩
        · exact ⟨.inr h.1, h.2⟩
      · rcases h.1 with h1 | h1
        · exact .inl h1
        · exact .inr ⟨h1, h.2⟩

theorem wpAnyP_any : ∀ (fuel : Nat) (listed : Array Bool) (pend : List (Nat × (World → Prop))) (a : Act) (w : World), wpAnyP P ops bm Q fuel listed pend a w → wpAny P .any ops Q fuel listed a w
  | 0, _, _, _, _, h => h
  | fuel + 1, _, _, _, _, h => ⟨h.1, fun j hj => wpOp_mono (fun a' w' h' => wpAnyP_any fuel _ _ a' w' h'.2) (h.2 j hj)⟩

theorem wpAnyP_sub : ∀ (fuel : Nat) (listed : Array Bool) (p p' : List (Nat × (World → Prop))) (a : Act) (w : World), (∀ x ∈ p', x ∈ p ∨ ∀ w, x.2 w) → wpAnyP P ops bm Q fuel listed p a w → wpAnyP P ops bm Q fuel listed p' a w
  | 0, _, _, _, _, _, _, h => h
  | fuel + 1, _, p, p', _, _, hs, h => ⟨h.1, fun j hj => wpOp_mono (fun a' w' h' => by
      have hs' : ∀ x ∈ dropX (bm.getD j 0) p', x ∈ dropX (bm.getD j 0) p ∨ ∀ w, x.2 w := fun x hx => by
        rw [mem_dropX] at hx
        rcases hs x hx.1 with h1 | h1
        · exact .inl (mem_dropX.2 ⟨h1, hx.2⟩)
        · exact .inr h1
      exact ⟨fun x hx => (hs' x hx).elim (h'.1 x) (fun h => h w'), wpAnyP_sub fuel _ _ _ a' w' hs' h'.2⟩) (h.2 j hj)⟩

/-- What has been carried out: with each operation all that must be ahead of it. -/
def Closed (ops : Array Oper) (listed : Array Bool) : Prop :=
  ∀ k ok, ops[k]? = some ok → listed.getD k false = true → ∀ e ∈ ok.after, Region.binds .any e = true → listed.getD e.on false = true

theorem getD_set_ne' {listed : Array Bool} {j k : Nat} (hjk : ¬ j = k) : (listed.setIfInBounds j true).getD k false = listed.getD k false := by
  simp [Array.getD_eq_getD_getElem?, Array.getElem?_setIfInBounds_ne hjk]

theorem getD_set_true {listed : Array Bool} {j k : Nat} (h : listed.getD k false = true) : (listed.setIfInBounds j true).getD k false = true := by
  by_cases hjk : j = k
  · subst hjk
    have : j < listed.size := by
      apply Nat.lt_of_not_le
      intro hge
      simp [hge] at h
    simp [this]
  · rw [getD_set_ne' hjk]
    exact h

theorem Closed.set {listed : Array Bool} (h : Closed ops listed) {j : Nat} (hj : j ∈ Region.ready .any ops listed) : Closed ops (listed.setIfInBounds j true) := by
  intro k ok hk hl e he hb
  obtain ⟨hjun, oj, hoj, hall⟩ := mem_ready.1 hj
  by_cases hjk : j = k
  · subst hjk
    rw [hoj] at hk
    cases hk
    exact getD_set_true (hall e he hb)
  · rw [getD_set_ne' hjk] at hl
    exact getD_set_true (h k ok hk hl e he hb)

theorem befL_bit {acc : List Nat} {i : Nat} (l : List Edge) : (befL acc l).testBit i = true → ∃ e ∈ l, Region.binds .any e = true ∧ (i = e.on ∨ (acc.getD e.on 0).testBit i = true) := by
  induction l with
  | nil => intro h; simp [befL] at h
  | cons e r ih =>
    intro h
    unfold befL at h
    cases hb : Region.binds .any e with
    | true =>
      rw [hb] at h
      simp only [cond_true, Nat.testBit_or, Bool.or_eq_true] at h
      rcases h with (h | h) | h
      · refine ⟨e, List.mem_cons_self, hb, .inl ?_⟩
        rw [Nat.testBit_two_pow] at h
        simpa using (of_decide_eq_true h).symm
      · exact ⟨e, List.mem_cons_self, hb, .inr h⟩
      · obtain ⟨e', he', h1, h2⟩ := ih h
        exact ⟨e', List.mem_cons_of_mem _ he', h1, h2⟩
    | false =>
      rw [hb] at h
      simp only [cond_false] at h
      obtain ⟨e', he', h1, h2⟩ := ih h
      exact ⟨e', List.mem_cons_of_mem _ he', h1, h2⟩

/-- Each bit of an operation is carried out when all that is right ahead of it is. -/
def BmOk (ops : Array Oper) (bm : List Nat) : Prop :=
  ∀ listed, Closed ops listed → ∀ k ok i, ops[k]? = some ok → (∀ e ∈ ok.after, Region.binds .any e = true → listed.getD e.on false = true) → (bm.getD k 0).testBit i = true → listed.getD i false = true

theorem befs_ok (all : List Oper) : BmOk all.toArray (befs [] all) := by
  intro listed hc
  have key : ∀ (l : List Oper) (acc : List Nat) (pre : List Oper), pre ++ l = all → acc.length = pre.length →
      (∀ k ok i, all[k]? = some ok → k < acc.length → (∀ e ∈ ok.after, Region.binds .any e = true → listed.getD e.on false = true) → (acc.getD k 0).testBit i = true → listed.getD i false = true) →
      ∀ k ok i, all[k]? = some ok → (∀ e ∈ ok.after, Region.binds .any e = true → listed.getD e.on false = true) → ((befs acc l).getD k 0).testBit i = true → listed.getD i false = true := by
    intro l
    induction l with
    | nil =>
      intro acc pre hp hl hacc k ok i hk he hb
      have hlt : k < all.length := (List.getElem?_eq_some_iff.1 hk).1
      have : all.length = pre.length := by rw [← hp]; simp
      exact hacc k ok i hk (by omega) he hb
    | cons o r ih =>
      intro acc pre hp hl hacc
      refine ih (acc ++ [befL acc o.after.toList]) (pre ++ [o]) (by simp [hp]) (by simp [hl]) ?_
      intro k ok i hk hlt he hb
      by_cases hka : k < acc.length
      · have : (acc ++ [befL acc o.after.toList]).getD k 0 = acc.getD k 0 := by
          simp [List.getD_eq_getElem?_getD, List.getElem?_append_left hka]
        rw [this] at hb
        exact hacc k ok i hk hka he hb
      · have hke : k = acc.length := by simp at hlt; omega
        subst hke
        have ho : ok = o := by
          have : all[acc.length]? = some o := by rw [← hp, hl]; simp
          rw [this] at hk
          exact (Option.some.inj hk).symm
        subst ho
        have : (acc ++ [befL acc ok.after.toList]).getD acc.length 0 = befL acc ok.after.toList := by
          simp [List.getD_eq_getElem?_getD]
        rw [this] at hb
        obtain ⟨e, hem, hbi, hor⟩ := befL_bit _ hb
        have hem' : e ∈ ok.after := by simpa using hem
        have hon := he e hem' hbi
        rcases hor with rfl | hor
        · exact hon
        · have hlt' : e.on < acc.length := by
            apply Nat.lt_of_not_le
            intro hge
            simp [List.getD_eq_getElem?_getD, List.getElem?_eq_none hge] at hor
          have hal : e.on < all.length := by rw [← hp]; simp; omega
          exact hacc e.on _ i (List.getElem?_eq_getElem hal) hlt' (hc e.on _ (by simp) hon) hor
  intro k ok i hk he hb
  exact key all [] [] rfl rfl (fun k ok i _ hlt => absurd hlt (by simp)) k ok i (by simpa using hk) he hb

/-- An operation that only looks may be taken first. -/
theorem take_first {i : Nat} {oi : Oper} {v : Value} {S : World → Prop} (hi : ops[i]? = some oi) (hsel : ∀ (j : Nat) (o : Oper) cs b, ops[j]? = some o → o.op ≠ .select cs b)
    (hQ : ∀ c a w, Q (.panic c) (a.put oi.dst v) w → Q (.panic c) a w) (hbm : BmOk ops bm) :
    ∀ (fuel : Nat) (listed : Array Bool) (pend : List (Nat × (World → Prop))) (a : Act) (w : World),
      (∀ j oj, ops[j]? = some oj → j ≠ i → listed.getD j true = false → (∀ e ∈ oj.after, Region.binds .any e = true → e.on ≠ i) → oi.apart ops oj = true) →
      Closed ops listed → i ∈ Region.ready .any ops listed → YieldsIf P ops S oi v a → S w → (∀ x ∈ pend, x.2 w) →
      wpAnyP P ops bm Q fuel (listed.setIfInBounds i true) ((i, S) :: pend) (a.put oi.dst v) w → wpAnyP P ops bm Q (fuel + 1) listed pend a w := by
  intro fuel
  induction fuel with
  | zero =>
    intro listed pend a w _ _ hr hy hS hal H
    refine ⟨fun h => (by rw [h] at hr; cases hr), fun j hj => ?_⟩
    by_cases hji : j = i
    · subst hji
      exact hy.wpOp hi hS ⟨fun x hx => hal x (mem_dropX.1 hx).1, wpAnyP_sub _ _ _ _ _ _ (fun x hx => .inl (List.mem_cons_of_mem _ (mem_dropX.1 hx).1)) H⟩
    · have := ready_mono (i := i) hj hji
      rw [H.1] at this
      cases this
  | succ fuel ih =>
    intro listed pend a w hfree hcl hr hy hS hal H
    refine ⟨fun h => (by rw [h] at hr; cases hr), fun j hj => ?_⟩
    by_cases hji : j = i
    · subst hji
      exact hy.wpOp hi hS ⟨fun x hx => hal x (mem_dropX.1 hx).1, wpAnyP_sub _ _ _ _ _ _ (fun x hx => .inl (List.mem_cons_of_mem _ (mem_dropX.1 hx).1)) H⟩
    · have h1 := H.2 j (ready_mono hj hji)
      obtain ⟨hjun, oj, hoj, hall⟩ := mem_ready.1 hj
      have hiun := (mem_ready.1 hr).1
      have hifalse : listed.getD i false = false := by
        by_cases hlt : i < listed.size
        · simp [hlt] at hiun ⊢; exact hiun
        · simp [hlt]
      have hnot : ∀ e ∈ oj.after, Region.binds .any e = true → e.on ≠ i := fun e he hb heq => by
        have h1 := hall e he hb
        rw [heq, hifalse] at h1
        cases h1
      have hbit : (bm.getD j 0).testBit i = false := by
        cases hb : (bm.getD j 0).testBit i with
        | false => rfl
        | true =>
          have := hbm listed hcl j oj i hoj hall hb
          rw [hifalse] at this
          cases this
      have hdrop : dropX (bm.getD j 0) ((i, S) :: pend) = (i, S) :: dropX (bm.getD j 0) pend := by
        show cond ((bm.getD j 0).testBit i) _ _ = _
        rw [hbit]
        rfl
      rw [hdrop] at h1
      have h2 := wpOp_putIf hoj (hfree j oj hoj hji hjun hnot) (fun cs b => hsel i oi cs b hi) (fun cs b => hsel j oj cs b hoj) hQ hy h1
      have hfree' : ∀ k ok, ops[k]? = some ok → k ≠ i → (listed.setIfInBounds j true).getD k true = false →
          (∀ e ∈ ok.after, Region.binds .any e = true → e.on ≠ i) → oi.apart ops ok = true := fun k ok hk hki hun hno => by
        refine hfree k ok hk hki ?_ hno
        by_cases hjk : j = k
        · subst hjk; exact hjun
        · rw [getD_set_ne true hjk] at hun; exact hun
      refine wpOp_mono (fun a' w' h3 => ?_) h2
      obtain ⟨hy', hS', hw'⟩ := h3
      refine ⟨fun x hx => hS' x (List.mem_cons_of_mem _ hx), ih (listed.setIfInBounds j true) _ a' w' hfree' (hcl.set hj) (ready_mono hr (Ne.symm hji)) hy' (hS' (i, S) List.mem_cons_self) (fun x hx => hS' x (List.mem_cons_of_mem _ hx)) ?_⟩
      rw [Array.setIfInBounds_comm _ _ hji]
      exact hw'

theorem keepX_sound {b : Nat} {w : World} : ∀ {l : List (Nat × (World → Prop))} {K : List (Nat × (World → Prop)) → Prop}, keepX b l w K → (∀ x ∈ dropX b l, x.2 w) ∧ K (dropX b l)
  | [], _, h => ⟨fun x hx => (by cases hx), h⟩
  | (i, S) :: r, K, h => by
    unfold keepX at h
    unfold dropX
    cases hb : b.testBit i with
    | true =>
      rw [hb] at h
      exact keepX_sound (l := r) h
    | false =>
      rw [hb] at h
      obtain ⟨hS, h⟩ := h
      obtain ⟨h1, h2⟩ := keepX_sound (l := r) h
      refine ⟨fun x hx => ?_, h2⟩
      simp only [cond_false, List.mem_cons] at hx
      rcases hx with rfl | hx
      · exact hS
      · exact h1 x hx

/-- The whole of what is asked, but for what has been seen to. -/
def Rest (P : Program) (ops : Array Oper) (bm : List Nat) (Q : Exit → Act → World → Prop) (fuel : Nat) (listed : Array Bool) (seen : List Nat) (pend : List (Nat × (World → Prop))) (a : Act) (w : World) : Prop :=
  match fuel with
  | 0 => Region.ready .any ops listed = [] ∧ Q .normal a w
  | fuel + 1 => (Region.ready .any ops listed = [] → Q .normal a w) ∧
    ∀ j ∈ Region.ready .any ops listed, j ∉ seen → wpOp P ops Q j (fun a' w' => (∀ x ∈ dropX (bm.getD j 0) pend, x.2 w') ∧ wpAnyP P ops bm Q fuel (listed.setIfInBounds j true) (dropX (bm.getD j 0) pend) a' w') a w

theorem Rest.all {fuel : Nat} {listed : Array Bool} {pend : List (Nat × (World → Prop))} {a : Act} {w : World} (h : Rest P ops bm Q fuel listed [] pend a w) : wpAnyP P ops bm Q fuel listed pend a w := by
  cases fuel with
  | zero => exact h
  | succ f => exact ⟨h.1, fun j hj => h.2 j hj (by simp)⟩

theorem Rest.of {fuel : Nat} {listed : Array Bool} {seen : List Nat} {pend : List (Nat × (World → Prop))} {a : Act} {w : World} (h : wpAnyP P ops bm Q fuel listed pend a w) : Rest P ops bm Q fuel listed seen pend a w := by
  cases fuel with
  | zero => exact h
  | succ f => exact ⟨h.1, fun j hj _ => h.2 j hj⟩

theorem mem_contains {l : List Nat} {i : Nat} (h : l.contains i = true) : i ∈ l := by simpa using h

/-- One operation that comes up. -/
theorem effOp_sound (hT : TOk P T) (hbl : Bl P bl) {ds : List Deferred} {D : List Nat} {fr0 : List Value} {all : List Oper} {bm : List Nat} {Kp : List PanicEntry → World → Prop} {K : List Value → World → Prop}
    {i : Nat} {o : Oper} {pend : List (Nat × (World → Prop))} {fr : List Value} {w : World} {G : List (Nat × (World → Prop)) → List Value → World → Prop} {K' : Act → World → Prop} (ho : nthO all i = some o)
    (hal : ∀ x ∈ pend, x.2 w)
    (hG : ∀ v w', (∀ x ∈ dropX (bm.getD i 0) pend, x.2 w') → G (dropX (bm.getD i 0) pend) (putO fr o.dst v) w' → K' ((Act.mk fr.toArray ds).put o.dst v) w')
    (h : guardX all o fr fun fr yes => cond yes (effX P T bl (evL fr) o w Kp fun v w' => keepX (bm.getD i 0) pend w' fun pend => G pend (putO fr o.dst v) w')
          (G (dropX (bm.getD i 0) pend) (putO fr o.dst undef) w)) :
    wpOp P all.toArray (RPost ds D fr0 Kp K) i K' ⟨fr.toArray, ds⟩ w := by
  have hg := guardX_sound h
  rw [nthO_get?] at ho
  have ho' : all.toArray[i]? = some o := by simpa using ho
  unfold wpOp
  simp only [ho']
  cases hw : Region.wanted o (yielded all.toArray fr.toArray) with
  | true =>
    rw [hw] at hg
    simp only [cond_true] at hg
    simp only [if_true]
    refine .inl ?_
    unfold Oper.wp
    rw [eval_eq]
    refine outcome_upon (Kp := Kp) (K := fun v w' => keepX (bm.getD i 0) pend w' fun pend => G pend (putO fr o.dst v) w') (fun ch w h => ⟨rfl, h⟩) (fun v w' hK => ?_) (effX_sound hT hbl (fun f => rfl) hg)
    obtain ⟨h1, h2⟩ := keepX_sound hK
    exact hG v w' h1 h2
  | false =>
    rw [hw] at hg
    simp only [cond_false] at hg
    simp only [Bool.false_eq_true, if_false]
    exact hG undef w (fun x hx => hal x (mem_dropX.1 hx).1) hg

theorem planX_sound (hT : TOk P T) (hbl : Bl P bl) {ds : List Deferred} {D : List Nat} {fr0 : List Value} {all : List Oper} (hd : ∀ o ∈ all, ∀ t, o.dst = some t → t ∈ D) (hsel : Region.noSelect all.toArray = true)
    {bm : List Nat} (hbm : BmOk all.toArray bm) {Kp : List PanicEntry → World → Prop} {K : List Value → World → Prop} (pl : Plan) :
    ∀ (fuel : Nat) (listed : Array Bool) (seen : List Nat) (pend : List (Nat × (World → Prop))) (fr : List Value) (w : World),
      planOk T all.toArray pl fuel listed seen = true → Closed all.toArray listed → (∀ x ∈ pend, x.2 w) → Agree D fr0 fr → planX P T bl all bm pl pend fr w Kp K →
      Rest P all.toArray bm (RPost ds D fr0 Kp K) fuel listed seen pend ⟨fr.toArray, ds⟩ w := by
  have hdst : ∀ i o, nthO all i = some o → ∀ t, o.dst = some t → t ∈ D := fun i o ho t ht => by
    rw [nthO_get?] at ho
    exact hd o (List.mem_of_getElem? ho) t ht
  induction pl with
  | done =>
    intro fuel listed seen pend fr w hok hcl hal ha h
    have hr : Region.ready .any all.toArray listed = [] := by simpa [planOk] using hok
    have hq : RPost ds D fr0 Kp K .normal ⟨fr.toArray, ds⟩ w := ⟨fr, rfl, ha, h⟩
    cases fuel with
    | zero => exact ⟨hr, hq⟩
    | succ f => exact ⟨fun _ => hq, fun j hj => by rw [hr] at hj; cases hj⟩
  | take i r ih =>
    intro fuel listed seen pend fr w hok hcl hal ha h
    cases fuel with
    | zero => simp [planOk] at hok
    | succ f =>
      simp only [planOk, Bool.and_eq_true] at hok
      obtain ⟨⟨⟨hin, hfree⟩, hqu⟩, hok⟩ := hok
      have hin' := mem_contains hin
      simp only [planX] at h
      split at h
      · rename_i o ho
        have hdo := hdst i o ho
        have ho' : all.toArray[i]? = some o := by rw [nthO_get?] at ho; simpa using ho
        have hg := guardX_sound h
        have fin : ∀ (v : Value) (S : World → Prop), YieldsIf P all.toArray S o v ⟨fr.toArray, ds⟩ → S w →
            wpAnyP P all.toArray bm (RPost ds D fr0 Kp K) f (listed.setIfInBounds i true) ((i, S) :: pend) ⟨(putO fr o.dst v).toArray, ds⟩ w →
            Rest P all.toArray bm (RPost ds D fr0 Kp K) (f + 1) listed seen pend ⟨fr.toArray, ds⟩ w := by
          intro v S hy hS hw
          refine Rest.of (take_first (S := S) ho' (fun j o cs b hj => Region.noSelect_spec hsel j o cs b hj) (fun c a w h => ⟨(put_defers a o.dst v).symm.trans h.1, h.2⟩) hbm f listed pend _ w (Region.free_spec ho' hfree) hcl hin' hy hS hal ?_)
          rw [putO_put]
          exact hw
        have plain : ∀ v, YieldsIf P all.toArray (fun _ => True) o v ⟨fr.toArray, ds⟩ → planX P T bl all bm r pend (putO fr o.dst v) w Kp K →
            Rest P all.toArray bm (RPost ds D fr0 Kp K) (f + 1) listed seen pend ⟨fr.toArray, ds⟩ w := by
          intro v hy hpl
          refine fin v _ hy trivial (wpAnyP_sub _ _ pend _ _ _ (fun x hx => ?_) (Rest.all (ih f _ [] pend _ w hok (hcl.set hin') hal (ha.put hdo v) hpl)))
          rcases List.mem_cons.1 hx with rfl | hx
          · exact .inr fun _ => trivial
          · exact .inl hx
        cases hw : Region.wanted o (yielded all.toArray fr.toArray) with
        | false =>
          rw [hw] at hg
          exact plain undef (.inr ⟨hw, rfl⟩) hg
        | true =>
          rw [hw] at hg
          simp only [cond_true] at hg
          split at hg
          · rename_i t a hop
            split at hg
            · rename_i oa hoa
              obtain ⟨ad, had, hl⟩ := withSome_some hg
              subst had
              obtain ⟨v, S, h1, h2, h3⟩ := loadX_sound hT hl
              refine fin v S (.inl ⟨hw, fun w' hw' => ?_⟩) h2 (Rest.all (ih f _ [] ((i, S) :: pend) _ w hok (hcl.set hin') (fun x hx => ?_) (ha.put hdo v) h3))
              · rw [eval_eq]
                exact load_run hop hoa (h1 w' hw')
              · rcases List.mem_cons.1 hx with rfl | hx
                · exact h2
                · exact hal x hx
            · exact hg.elim
          · obtain ⟨v, h1, h2⟩ := pureX_sound (P := P) hT hg
            exact plain v (.inl ⟨hw, fun w' _ => by rw [eval_eq]; exact h1 w'⟩) h2
      · exact h.elim
  | eff i r ih =>
    intro fuel listed seen pend fr w hok hcl hal ha h
    cases fuel with
    | zero => simp [planOk] at hok
    | succ f =>
      simp only [planOk, Bool.and_eq_true] at hok
      obtain ⟨⟨hcov, hin⟩, hok⟩ := hok
      have hin' := mem_contains hin
      simp only [planX] at h
      split at h
      · rename_i o ho
        refine ⟨fun h0 => (by rw [h0] at hin'; cases hin'), fun j hj hns => ?_⟩
        have hji : j = i := by
          have := List.all_eq_true.1 hcov j hj
          simp only [Bool.or_eq_true, beq_iff_eq] at this
          exact this.resolve_right fun hc => hns (mem_contains hc)
        subst hji
        refine effOp_sound hT hbl ho hal (G := fun p fr w => planX P T bl all bm r p fr w Kp K) (fun v w' hk hG => ⟨hk, ?_⟩) h
        rw [putO_put]
        exact Rest.all (ih f _ [] _ _ w' hok (hcl.set hin') hk (ha.put (hdst j o ho) v) hG)
      · exact h.elim
  | alt i r rest ih1 ih2 =>
    intro fuel listed seen pend fr w hok hcl hal ha h
    cases fuel with
    | zero => simp [planOk] at hok
    | succ f =>
      simp only [planOk, Bool.and_eq_true] at hok
      obtain ⟨⟨hin, hok1⟩, hok2⟩ := hok
      have hin' := mem_contains hin
      simp only [planX] at h
      obtain ⟨h1, h2⟩ := h
      have hrest := ih2 (f + 1) listed (i :: seen) pend fr w hok2 hcl hal ha h2
      split at h1
      · rename_i o ho
        refine ⟨fun h0 => (by rw [h0] at hin'; cases hin'), fun j hj hns => ?_⟩
        by_cases hji : j = i
        · subst hji
          refine effOp_sound hT hbl ho hal (G := fun p fr w => planX P T bl all bm r p fr w Kp K) (fun v w' hk hG => ⟨hk, ?_⟩) h1
          rw [putO_put]
          exact Rest.all (ih1 f _ [] _ _ w' hok1 (hcl.set hin') hk (ha.put (hdst j o ho) v) hG)
        · exact hrest.2 j hj (by simp [hji, hns])
      · exact h1.elim

theorem closed_empty (ops : Array Oper) (n : Nat) : Closed ops (Array.replicate n false) := by
  intro k ok hk hl
  by_cases h : k < n <;> simp [h] at hl

/-- A region, whatever its order. -/
theorem regionX_sound (hm : P.follows .mixedOrders = true) (hT : TOk P T) (hbl : Bl P bl) {id : Nat} {ds : List Deferred} {D : List Nat} {ops : List Oper} (hd : ∀ o ∈ ops, ∀ t, o.dst = some t → t ∈ D) {draw : Bool}
    {fr : List Value} {w : World} {Kp : List PanicEntry → World → Prop} {K : List Value → World → Prop} (h : regionX P T bl ops draw fr w Kp K) :
    (Code.region id ops.toArray draw).wp P (RPost ds D fr Kp K) ⟨fr.toArray, ds⟩ w := by
  unfold regionX at h
  cases draw with
  | false =>
    exact wp_region_lit (opsX_sound hT hbl ops hd (Agree.refl _ _) h)
  | true =>
    simp only [cond_true] at h
    obtain ⟨hok, h⟩ := cond_left h
    simp only [Bool.and_eq_true] at hok
    refine wp_region_any hm ?_
    have hs : ops.toArray.size = ops.length := by simp
    rw [hs]
    exact wpAnyP_any _ _ [] _ _ (Rest.all (planX_sound hT hbl hd hok.2 (befs_ok ops) _ _ _ _ _ _ _ hok.1 (closed_empty _ _) (fun x hx => by cases hx) (Agree.refl _ _) h))

end draws
end
end Go.Eng
