/- Whole functions: what the generator asks suffices for the call. -/
import Derived.Test.YtpbmnjmagdacbaaEng4
namespace Go.Eng
open Go

section
variable {P : Program} {T : Nat → Option TI} {bl : Nat → Bool}

theorem ofLeaf_sound {l : Leaf} {v : Value} {K : LT l → Prop} (h : ofLeaf l v K) : ∃ a, LT.val l a = v ∧ K a := by
  cases l <;> simp only [ofLeaf] at h
  case any => exact ⟨v, rfl, h⟩
  case int k =>
    split at h
    · obtain ⟨h1, h2⟩ := cond_left h
      obtain rfl := same_eq h1
      exact ⟨_, rfl, h2⟩
    · exact h.elim
  all_goals
    split at h
    · exact ⟨_, rfl, h⟩
    · exact h.elim

theorem ofLeaves_sound : ∀ {ls : List Leaf} {vs : List Value} {K : LsT ls → Prop}, ofLeaves ls vs K → ∃ s, LsT.vals ls s = vs ∧ K s
  | [], vs, K, h => by
    unfold ofLeaves at h
    split at h
    · exact ⟨(), rfl, h⟩
    · exact h.elim
  | [l], vs, K, h => by
    unfold ofLeaves at h
    split at h
    · obtain ⟨a, h1, h2⟩ := ofLeaf_sound h
      exact ⟨a, by simp [LsT.vals, h1], h2⟩
    · exact h.elim
  | l :: m :: r, vs, K, h => by
    unfold ofLeaves at h
    split at h
    · obtain ⟨a, h1, h2⟩ := ofLeaf_sound h
      obtain ⟨s, h3, h4⟩ := ofLeaves_sound h2
      exact ⟨(a, s), by simp [LsT.vals, h1, h3], h4⟩
    · exact h.elim

theorem ofSh_sound {s : Sh} {v : Value} {K : ShT s → Prop} (h : ofSh s v K) : ∃ a, ShT.val s a = v ∧ K a := by
  cases s <;> simp only [ofSh] at h
  case leaf l => exact ofLeaf_sound h
  case agg ls =>
    split at h
    · obtain ⟨s, h1, h2⟩ := ofLeaves_sound h
      exact ⟨s, by simp [ShT.val, h1], h2⟩
    · exact h.elim

theorem ofVals_sound : ∀ {ss : List Sh} {vs : List Value} {K : SsT ss → Prop}, ofVals ss vs K → ∃ s, SsT.vals ss s = vs ∧ K s
  | [], vs, K, h => by
    unfold ofVals at h
    split at h
    · exact ⟨(), rfl, h⟩
    · exact h.elim
  | [l], vs, K, h => by
    unfold ofVals at h
    split at h
    · obtain ⟨a, h1, h2⟩ := ofSh_sound h
      exact ⟨a, by simp [SsT.vals, h1], h2⟩
    · exact h.elim
  | l :: m :: r, vs, K, h => by
    unfold ofVals at h
    split at h
    · obtain ⟨a, h1, h2⟩ := ofSh_sound h
      obtain ⟨s, h3, h4⟩ := ofVals_sound h2
      exact ⟨(a, s), by simp [SsT.vals, h1, h3], h4⟩
    · exact h.elim

theorem setZ_map (fr' : List Value) (cs : List Nat) : ∀ fr : List Value, setZ fr cs (cs.map (nth fr')) = setF fr cs (nth fr') := by
  induction cs with
  | nil => intro fr; rfl
  | cons c r ih => intro fr; exact ih _

theorem setF_length (cs : List Nat) (j : Nat → Value) : ∀ fr : List Value, (setF fr cs j).length = fr.length := by
  induction cs with
  | nil => intro fr; rfl
  | cons c r ih => intro fr; simp [setF, ih]

theorem setF_get (cs : List Nat) (j : Nat → Value) : ∀ (fr : List Value) (s : Nat), (s ∉ cs → (setF fr cs j)[s]? = fr[s]?) ∧ (s ∈ cs → s < fr.length → (setF fr cs j)[s]? = some (j s)) := by
  induction cs with
  | nil => intro fr s; exact ⟨fun _ => rfl, fun h => by cases h⟩
  | cons c r ih =>
    intro fr s
    obtain ⟨h1, h2⟩ := ih (fr.set c (j c)) s
    refine ⟨fun hs => ?_, fun hs hl => ?_⟩
    · simp only [List.mem_cons, not_or] at hs
      show (setF (fr.set c (j c)) r j)[s]? = _
      rw [h1 hs.2, List.getElem?_set_ne (fun e => hs.1 e.symm)]
    · show (setF (fr.set c (j c)) r j)[s]? = _
      by_cases hr : s ∈ r
      · exact h2 hr (by simpa using hl)
      · rcases List.mem_cons.1 hs with rfl | hs
        · rw [h1 hr]
          simp [hl]
        · exact absurd hs hr

theorem nth_get {fr : List Value} {s : Nat} (h : s < fr.length) : fr[s]? = some (nth fr s) := by
  rw [nth_getD]
  simp [h]

/-- A frame that agrees outside is the old one with its own values laid in. -/
theorem restore_self {D cs dead : List Nat} {fr fr' : List Value} (h : Agree D fr fr') (hd : ∀ s, s ∈ D → s ∈ cs ∨ s ∈ dead) : restore fr cs (cs.map (nth fr')) dead (nth fr') = fr' := by
  unfold restore
  rw [setZ_map]
  apply List.ext_getElem?
  intro s
  obtain ⟨a1, a2⟩ := setF_get dead (nth fr') (setF fr cs (nth fr')) s
  obtain ⟨b1, b2⟩ := setF_get cs (nth fr') fr s
  by_cases hl : s < fr.length
  · have hl' : s < fr'.length := by rw [h.1]; exact hl
    by_cases h1 : s ∈ dead
    · rw [a2 h1 (by rw [setF_length]; exact hl), nth_get hl']
    · rw [a1 h1]
      by_cases h2 : s ∈ cs
      · rw [b2 h2 hl, nth_get hl']
      · rw [b1 h2]
        exact (h.2 s fun hm => (hd s hm).elim h2 h1).symm
  · rw [List.getElem?_eq_none (by rw [setF_length, setF_length]; omega), List.getElem?_eq_none (by rw [h.1]; omega)]

theorem restore_agree {D cs dead : List Nat} (fr : List Value) (vs : List Value) (j : Nat → Value) (hc : ∀ s, s ∈ cs → s ∈ D) (hd : ∀ s, s ∈ dead → s ∈ D) : Agree D fr (restore fr cs vs dead j) := by
  unfold restore
  have hz : ∀ (cs : List Nat) (vs fr : List Value), (∀ s, s ∈ cs → s ∈ D) → Agree D fr (setZ fr cs vs) := by
    intro cs
    induction cs with
    | nil => intro vs fr _; cases vs <;> exact Agree.refl _ _
    | cons c r ih =>
      intro vs fr hc
      cases vs with
      | nil => exact Agree.refl _ _
      | cons v us =>
        refine Agree.trans ?_ (ih us _ fun s hs => hc s (List.mem_cons_of_mem _ hs))
        exact (Agree.refl D fr).put (d := some c) (fun t ht => by cases ht; exact hc c List.mem_cons_self) v
  refine (hz cs vs fr hc).trans ⟨setF_length _ _ _, fun s hs => (setF_get dead j _ s).1 fun hm => hs (hd s hm)⟩

theorem memN_iff {n : Nat} {l : List Nat} : memN n l = true ↔ n ∈ l := by
  induction l with
  | nil => simp [memN]
  | cons m r ih =>
    simp only [memN, Bool.or_eq_true, ih, List.mem_cons]
    refine ⟨fun h => h.imp (fun h => (Nat.eq_of_beq_eq_true h).symm) id, fun h => h.imp (fun h => by subst h; exact Nat.beq_refl n) id⟩

theorem mem_dedupN {n : Nat} {l : List Nat} : n ∈ dedupN l ↔ n ∈ l := by
  induction l with
  | nil => simp [dedupN]
  | cons m r ih =>
    unfold dedupN
    cases hm : memN m r with
    | true =>
      simp only [cond_true, ih, List.mem_cons]
      refine ⟨.inr, fun h => h.elim (fun e => by subst e; exact memN_iff.1 hm) id⟩
    | false => simp only [cond_false, List.mem_cons, ih]

theorem mem_filtN {p : Nat → Bool} {n : Nat} {l : List Nat} : n ∈ filtN p l ↔ n ∈ l ∧ p n = true := by
  induction l with
  | nil => simp [filtN]
  | cons m r ih =>
    unfold filtN
    cases hm : p m with
    | true =>
      simp only [cond_true, List.mem_cons, ih]
      refine ⟨fun h => h.elim (fun e => by subst e; exact ⟨.inl rfl, hm⟩) fun h => ⟨.inr h.1, h.2⟩, fun h => h.1.elim .inl fun h1 => .inr ⟨h1, h.2⟩⟩
    | false =>
      simp only [cond_false, List.mem_cons, ih]
      refine ⟨fun h => ⟨.inr h.1, h.2⟩, fun h => ⟨h.1.elim (fun e => by subst e; rw [hm] at h; exact absurd h.2 (by simp)) id, h.2⟩⟩

theorem dead_cover (a : Code) (cs : List Nat) : ∀ s, s ∈ defs a → s ∈ cs ∨ s ∈ deadOf a cs := fun s hs => by
  cases hm : memN s cs with
  | true => exact .inl (memN_iff.1 hm)
  | false => exact .inr (mem_filtN.2 ⟨mem_dedupN.2 hs, by simp [hm]⟩)

theorem dead_sub (a : Code) (cs : List Nat) : ∀ s, s ∈ deadOf a cs → s ∈ defs a := fun _ hs => mem_dedupN.1 (mem_filtN.1 hs).1
theorem carryS_sub (C : Cx) (a : Code) : ∀ s, s ∈ carryS C a → s ∈ defs a := fun _ hs => mem_dedupN.1 (mem_filtN.1 hs).1
theorem carryL_sub (C : Cx) (a : Code) : ∀ s, s ∈ carryL C a → s ∈ defs a := fun _ hs => mem_dedupN.1 (mem_filtN.1 hs).1

theorem allJ_at {dead : List Nat} {F : (Nat → Value) → Prop} (h : allJ dead F) (j : Nat → Value) (hF : dead = [] → F (fun _ => undef) → F j) : F j := by
  cases dead with
  | nil => exact hF rfl h
  | cons d r => exact h j

theorem restore_nil (fr : List Value) (cs : List Nat) (vs : List Value) (j j' : Nat → Value) : restore fr cs vs [] j = restore fr cs vs [] j' := rfl

/-- What a piece of code's walk ends in. -/
def QX (ds : List Deferred) (D : List Nat) (fr0 : List Value) (Kp : List PanicEntry → World → Prop) (Kr : List Value → World → Prop) (Kx : Nat → List Value → World → Prop) (Kn : List Value → World → Prop) : Exit → Act → World → Prop
  | .normal, a, w => ∃ fr, a = ⟨fr.toArray, ds⟩ ∧ Agree D fr0 fr ∧ Kn fr w
  | .exit id, a, w => ∃ fr, a = ⟨fr.toArray, ds⟩ ∧ Agree D fr0 fr ∧ Kx id fr w
  | .ret, a, w => ∃ fr, a = ⟨fr.toArray, ds⟩ ∧ Kr fr w
  | .panic ch, a, w => a.defers = ds ∧ Kp ch w
  | _, _, _ => False

/-- A loop at the end of a round. -/
def LW (P : Program) (c : Code) (Q : Exit → Act → World → Prop) (a : Act) (w : World) : Prop :=
  ∀ (b : Frame) (k : List Item) (cs : List Frame), ∃ e a' w', Q e a' w' ∧ Arrives P (lone (b.at a (.inLoop c :: k)) cs w) b k cs e a' w'

theorem loop_round {c : Code} {Q : Exit → Act → World → Prop} {a : Act} {w : World} (h : c.wp P (Exit.then (LW P c Q) Q) a w) (b : Frame) (k : List Item) (cs : List Frame) :
    ∃ e a' w', Q e a' w' ∧ Arrives P (lone (b.at a (.code c :: .inLoop c :: k)) cs w) b k cs e a' w' := by
  obtain ⟨e, a₁, w₁, hq, harr⟩ := h b (.inLoop c :: k) cs
  cases e with
  | normal =>
    obtain ⟨e₂, a₂, w₂, hq₂, harr₂⟩ := hq b k cs
    exact ⟨e₂, a₂, w₂, hq₂, .of_steps harr harr₂⟩
  | exit id => exact ⟨_, a₁, w₁, hq, .pass (x := .inLoop c) rfl (fun _ _ => .inl (by simp)) harr⟩
  | goto l => exact ⟨_, a₁, w₁, hq, .pass (x := .inLoop c) rfl (fun _ _ => .inl (by simp)) harr⟩
  | ret => exact ⟨_, a₁, w₁, hq, .pass (x := .inLoop c) rfl (fun _ _ => .inl (by simp)) harr⟩
  | panic ch => exact ⟨_, a₁, w₁, hq, .pass (x := .inLoop c) rfl (fun _ _ => .inl (by simp)) harr⟩
  | outgrown => exact ⟨_, a₁, w₁, hq, .pass (x := .inLoop c) rfl (fun _ _ => .inl (by simp)) harr⟩

theorem LW_of {c : Code} {Q : Exit → Act → World → Prop} {a : Act} {w : World} (h : c.wp P (Exit.then (LW P c Q) Q) a w) : LW P c Q a w := by
  intro b k cs
  obtain ⟨e, a', w', hq, harr⟩ := loop_round h b k cs
  exact ⟨e, a', w', hq, .of_steps (.one step_inLoop) harr⟩

theorem wp_loop_of {c : Code} {Q : Exit → Act → World → Prop} {a : Act} {w : World} (h : c.wp P (Exit.then (LW P c Q) Q) a w) : (Code.loop c).wp P Q a w := by
  intro b k cs
  obtain ⟨e, a', w', hq, harr⟩ := loop_round h b k cs
  exact ⟨e, a', w', hq, .of_steps (.one step_loop) harr⟩

theorem QX_mono {ds : List Deferred} {D D' : List Nat} {fr0 fr1 : List Value} {Kp : List PanicEntry → World → Prop} {Kr : List Value → World → Prop} {Kx : Nat → List Value → World → Prop} {Kn : List Value → World → Prop}
    (ha : Agree D' fr0 fr1) (hd : ∀ s, s ∈ D → s ∈ D') {e : Exit} {a : Act} {w : World} (h : QX ds D fr1 Kp Kr Kx Kn e a w) : QX ds D' fr0 Kp Kr Kx Kn e a w := by
  cases e <;> simp only [QX] at h ⊢
  case normal => obtain ⟨fr, h1, h2, h3⟩ := h; exact ⟨fr, h1, ha.trans (h2.mono hd), h3⟩
  case exit id => obtain ⟨fr, h1, h2, h3⟩ := h; exact ⟨fr, h1, ha.trans (h2.mono hd), h3⟩
  all_goals exact h

theorem putC_same {fr : List Value} {c : Operand} {b : Bool} (h : evL fr c = .bool b) : putC fr c b = fr := by
  cases c with
  | tmp t => exact set_same h (.inl (by simp [undef]))
  | _ => rfl

theorem codeX_sound (hm : P.follows .mixedOrders = true) (hT : TOk P T) (hbl : Bl P bl) (C : Cx) {ds : List Deferred} (c : Code) :
    ∀ {fr : List Value} {w : World} {Kp : List PanicEntry → World → Prop} {Kr : List Value → World → Prop} {Kx : Nat → List Value → World → Prop} {Kn : List Value → World → Prop},
      codeX P T bl C c fr w Kp Kr Kx Kn → c.wp P (QX ds (defs c) fr Kp Kr Kx Kn) ⟨fr.toArray, ds⟩ w := by
  induction c with
  | skip => intro fr w Kp Kr Kx Kn h; exact wp_skip ⟨fr, rfl, Agree.refl _ _, h⟩
  | label l => intro fr w Kp Kr Kx Kn h; exact wp_label ⟨fr, rfl, Agree.refl _ _, h⟩
  | region id ops draw =>
    intro fr w Kp Kr Kx Kn h
    have := regionX_sound (id := id) (ds := ds) (D := regDefs ops.toList) hm hT hbl (fun o ho t ht => List.mem_filterMap.2 ⟨o, ho, ht⟩) h
    rw [Array.toArray_toList] at this
    refine wp_mono this fun e a w hq => ?_
    cases e <;> simp only [RPost] at hq
    case normal => exact hq
    case panic ch => exact hq
  | seq a b iha ihb =>
    intro fr w Kp Kr Kx Kn h
    refine wp_seq ?_
    simp only [codeX] at h
    have hb : ∀ (fr1 : List Value) (w1 : World), Agree (defs a) fr fr1 → codeX P T bl C b fr1 w1 Kp Kr Kx Kn → b.wp P (QX ds (defs (.seq a b)) fr Kp Kr Kx Kn) ⟨fr1.toArray, ds⟩ w1 := fun fr1 w1 ha hb =>
      wp_mono (ihb hb) fun e a' w' hq => QX_mono (ha.mono fun s hs => List.mem_append_left _ hs) (fun s hs => List.mem_append_right _ hs) hq
    have others : ∀ {Kn' : List Value → World → Prop} (e : Exit) (a' : Act) (w' : World), e ≠ .normal → QX ds (defs a) fr Kp Kr Kx Kn' e a' w' → QX ds (defs (.seq a b)) fr Kp Kr Kx Kn e a' w' := fun e a' w' he hq => by
      cases e <;> simp only [QX] at hq ⊢
      case normal => exact absurd rfl he
      case exit id => obtain ⟨f1, h1, h2, h3⟩ := hq; exact ⟨f1, h1, h2.mono fun s hs => List.mem_append_left _ hs, h3⟩
      all_goals exact hq
    rcases cond_sat h with ⟨_, J, hJ, hrest⟩ | ⟨_, h⟩
    · refine wp_mono (iha hJ) fun e a' w' hq => ?_
      cases e with
      | normal =>
        obtain ⟨fr1, rfl, hag, hv⟩ := hq
        obtain ⟨s, hs, hJs⟩ := ofVals_sound hv
        have hj := allJ_at (hrest s w' hJs) (nth fr1) (fun hd hF => by rw [hd] at hF ⊢; exact hF)
        rw [hs, restore_self hag (dead_cover a _)] at hj
        exact hb fr1 w' hag hj
      | _ => exact others _ _ _ (by simp) hq
    · refine wp_mono (iha h) fun e a' w' hq => ?_
      cases e with
      | normal =>
        obtain ⟨fr1, rfl, hag, hv⟩ := hq
        exact hb fr1 w' hag hv
      | _ => exact others _ _ _ (by simp) hq
  | cond c a b iha ihb =>
    intro fr w Kp Kr Kx Kn h
    simp only [codeX] at h
    split at h
    · rename_i t ht
      have hev : (Act.mk fr.toArray ds).eval c = .bool t := by rw [evL_eval, ht]
      cases t with
      | true =>
        simp only [cond_true] at h
        rw [putC_same ht] at h
        exact wp_cond_true hev (wp_mono (iha h) fun e a' w' hq => QX_mono (Agree.refl _ _) (fun s hs => List.mem_append_left _ hs) hq)
      | false =>
        simp only [cond_false] at h
        rw [putC_same ht] at h
        exact wp_cond_false hev (wp_mono (ihb h) fun e a' w' hq => QX_mono (Agree.refl _ _) (fun s hs => List.mem_append_right _ hs) hq)
    · exact h.elim
  | block id b ih =>
    intro fr w Kp Kr Kx Kn h
    simp only [codeX] at h
    refine wp_block (wp_mono (ih h) fun e a' w' hq => ?_)
    cases e <;> simp only [QX] at hq <;> simp only [Exit.inBlock]
    case normal => exact hq
    case exit i =>
      obtain ⟨f1, h1, h2, h3⟩ := hq
      rcases cond_sat h3 with ⟨hi, h3⟩ | ⟨hi, h3⟩
      · rw [if_pos (Nat.eq_of_beq_eq_true hi)]
        exact ⟨f1, h1, h2, h3⟩
      · rw [if_neg (fun e => by subst e; rw [Nat.beq_refl] at hi; cases hi)]
        exact ⟨f1, h1, h2, h3⟩
    all_goals exact hq
  | loop b ih =>
    intro fr w Kp Kr Kx Kn h
    simp only [codeX] at h
    obtain ⟨s0, hs0, hloop⟩ := ofVals_sound h
    have key := hloop (fun s w => ∀ j : Nat → Value, b.wp P (Exit.then (LW P b (QX ds (defs b) fr Kp Kr Kx Kn)) (QX ds (defs b) fr Kp Kr Kx Kn)) ⟨(restore fr (carryL C b) (SsT.vals _ s) (deadOf b (carryL C b)) j).toArray, ds⟩ w) ?_
    · have := key (nth fr)
      rw [hs0, restore_self (Agree.refl (defs b) fr) (dead_cover b _)] at this
      exact wp_loop_of this
    · intro s w1 hbody j
      have hag := restore_agree (D := defs b) (cs := carryL C b) (dead := deadOf b (carryL C b)) fr (SsT.vals _ s) j (carryL_sub C b) (dead_sub b _)
      have hj := allJ_at hbody j (fun hd hF => by rw [hd] at hF ⊢; exact hF)
      refine wp_mono (ih hj) fun e a' w' hq => ?_
      cases e with
      | normal =>
        obtain ⟨fr1, rfl, hag1, hv⟩ := hq
        obtain ⟨s', hs', hX⟩ := ofVals_sound hv
        have := hX (nth fr1)
        rw [hs', restore_self (hag.trans hag1) (dead_cover b _)] at this
        exact LW_of this
      | exit id =>
        obtain ⟨fr1, h1, h2, h3⟩ := hq
        exact ⟨fr1, h1, hag.trans h2, h3⟩
      | ret => exact hq
      | panic ch => exact hq
      | goto l => exact hq.elim
      | outgrown => exact hq.elim
  | exit id => intro fr w Kp Kr Kx Kn h; exact wp_exit ⟨fr, rfl, Agree.refl _ _, h⟩
  | ret => intro fr w Kp Kr Kx Kn h; exact wp_ret ⟨fr, rfl, h⟩
  | _ => intro fr w Kp Kr Kx Kn h; exact h.elim

def resOne (tmps : Array Value) : ResultVar → Sem Value
  | .tmp t => pure (tmps.getD t undef)
  | .cell a t => do loadVar t (← asAddr (tmps.getD a undef))

theorem results_eq (fn : Func) (tmps : Array Value) : results fn tmps = (do
    let vs ← fn.results.mapM (resOne tmps)
    pure (if h : vs.size = 1 then vs[0] else .tuple vs)) := by
  unfold results
  congr 1

theorem resVals_sound (hT : TOk P T) : ∀ {rs : List ResultVar} {fr : List Value} {w : World} {K : List Value → Prop}, resVals T rs fr w K →
    ∃ vs, (rs.mapM (resOne fr.toArray)).run P w = .ok vs w ∧ K vs
  | [], fr, w, K, h => ⟨[], by simp, h⟩
  | .tmp t :: r, fr, w, K, h => by
    obtain ⟨vs, h1, h2⟩ := resVals_sound hT (rs := r) h
    exact ⟨_, by simp only [List.mapM_cons, Sem.run_bind, resOne, Sem.run_pure, Result.andThen_ok, h1]; rw [← nth_getD], h2⟩
  | .cell a t :: r, fr, w, K, h => by
    simp only [resVals] at h
    split at h
    · rename_i oa ha
      obtain ⟨ad, had, hl⟩ := withSome_some h
      subst had
      obtain ⟨v, S, h1, h2, h3⟩ := loadX_sound hT hl
      obtain ⟨vs, h4, h5⟩ := resVals_sound hT (rs := r) h3
      refine ⟨_, ?_, h5⟩
      rw [nth_getD] at ha
      have e : resOne fr.toArray (.cell a t) = loadVar t ad := by
        simp only [resOne, ha]
        rfl
      simp only [List.mapM_cons, Sem.run_bind, e, Sem.run_pure, Result.andThen_ok, h1 w h2, h4]
    · exact h.elim

theorem resultsX_sound (hT : TOk P T) {fn : Func} {fr : List Value} {w : World} {K : Value → Prop} (h : resultsX T fn.results.toList fr w K) : ∃ v, (results fn fr.toArray).run P w = .ok v w ∧ K v := by
  obtain ⟨vs, h1, h2⟩ := resVals_sound hT h
  have hrun : (fn.results.mapM (resOne fr.toArray)).run P w = .ok vs.toArray w := by
    rw [Array.mapM_eq_mapM_toList]
    simp only [Sem.run_map, h1, Result.andThen_ok]
  rw [results_eq]
  simp only [Sem.run_bind, hrun, Result.andThen_ok]
  split at h2
  · exact ⟨_, rfl, h2⟩
  · rename_i hne
    refine ⟨_, ?_, h2⟩
    have : ¬ vs.toArray.size = 1 := fun e => by
      obtain ⟨x, hx⟩ := List.length_eq_one_iff.1 (by simpa using e)
      exact hne x hx
    rw [dif_neg this]
    rfl

/-- WHAT IS ASKED OF A FUNCTION SUFFICES FOR ITS CALL. -/
theorem funcX_calls (hm : P.follows .mixedOrders = true) (hT : TOk P T) (hbl : Bl P bl) {f : FuncId} {fn : Func} (hf : P.funcs[f]? = some fn) {args : List Value} {w : World} {R : Ending → World → Prop}
    (h : funcX P T bl fn args w R) : Calls P f args.toArray w R := by
  unfold funcX at h
  split at h
  · rename_i c hb
    refine calls_of_wp hf hb ?_
    have e : ({ tmps := args.toArray ++ Array.replicate (fn.ntmps - args.toArray.size) undef, defers := [] } : Act) = ⟨(args ++ List.replicate (fn.ntmps - args.length) undef).toArray, []⟩ := by
      congr 1
      apply Array.ext'
      simp
    rw [e]
    refine wp_mono (codeX_sound hm hT hbl _ (ds := []) c h) fun e a w hq => ?_
    cases e <;> simp only [QX] at hq <;> simp only [bodyPost]
    case normal =>
      obtain ⟨fr, rfl, _, hr⟩ := hq
      obtain ⟨v, h1, h2⟩ := resultsX_sound hT hr
      exact ⟨rfl, v, h1, h2⟩
    case ret =>
      obtain ⟨fr, rfl, hr⟩ := hq
      obtain ⟨v, h1, h2⟩ := resultsX_sound hT hr
      exact ⟨rfl, v, h1, h2⟩
    case exit id =>
      obtain ⟨fr, _, _, hr⟩ := hq
      exact hr.elim
    case panic ch => exact hq
  · exact h.elim

end
end Go.Eng
