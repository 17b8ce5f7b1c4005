/- Assertions kept as lists: the rules by place. -/
import Derived.Test.YtpbmnjmagdacbaaSl2
namespace Go.Eng
open Go Go.RowKit HP

def HP.all : List HP → HP
  | [] => HP.emp
  | A :: L => HP.star A (HP.all L)

section
variable {G : Gh} {w : World} {L : List HP}

theorem all_at {A : HP} : ∀ {L : List HP} {k : Nat}, L[k]? = some A → all L = HP.star A (all (L.eraseIdx k))
  | [], k, h => by simp at h
  | B :: L, 0, h => by simp at h; subst h; rfl
  | B :: L, k + 1, h => by
    simp only [List.getElem?_cons_succ] at h
    simp only [List.eraseIdx_cons_succ, all]
    rw [all_at h, star_left_comm]

theorem all_set {A : HP} : ∀ {L : List HP} {k : Nat} {B : HP}, L[k]? = some A → all (L.set k B) = HP.star B (all (L.eraseIdx k))
  | [], k, B, h => by simp at h
  | C :: L, 0, B, h => by simp [all]
  | C :: L, k + 1, B, h => by
    simp only [List.getElem?_cons_succ] at h
    simp only [List.eraseIdx_cons_succ, List.set_cons_succ, all]
    rw [all_set h, star_left_comm]

theorem Holds.bring {A : HP} (h : Holds G w (all L)) (k : Nat) (hk : L[k]? = some A) : Holds G w (all (A :: L.eraseIdx k)) := h.eq (all_at (k := k) hk)
theorem Holds.tail {A : HP} (h : Holds G w (all (A :: L))) : Holds G w (all L) := Holds.right h

theorem Holds.lda (h : Holds G w (all L)) (k i : Nat) {b : Nat} {t : TypeId} {cs : List Value} {v : Value} (hk : L[k]? = some (blk b t cs)) (hv : cs[i]? = some v) : w.cell? ⟨b, i, none⟩ = some v :=
  Holds.ld (h.bring k hk) i hv

theorem St.at (h : Holds G w (all L)) (k i : Nat) {b : Nat} {t : TypeId} {cs : List Value} {v : Value} {K : World → Prop} (hk : L[k]? = some (blk b t cs)) (hi : Nat.blt i cs.length = true) (hv : oneCell v = true)
    (hK : ∀ w', Holds G w' (all (L.set k (blk b t (cs.set i v)))) → K w') : St w ⟨b, i, none⟩ v K :=
  St.of (h.bring k hk) (by simpa using hi) hv fun w' h' => hK w' (h'.eq (all_set hk).symm)

theorem New.at {t : TypeId} {cs : List Value} {K : Nat → World → Prop} (h : Holds G w (all L)) (hK : ∀ b w', Holds G w' (all (blk b t cs :: L)) → K b w') : New w (.cells cs.toArray t (0, 0)) K := New.of h hK

theorem Ret.mk {Q : Value → World → Prop} {v : Value} {w : World} (h : Q v w) : Ret Q (.returned v) w := h

theorem beq_of {a b : Int} (h : a = b) : (a == b) = true := by simp [h]
theorem beq_no {a b : Int} (h : a ≠ b) : (a == b) = false := by simp [h]
theorem bne_of {a b : Int} (h : a ≠ b) : (a != b) = true := by simp [h]
theorem bne_no {a b : Int} (h : a = b) : (a != b) = false := by simp [h]

theorem Loop.start {σ : Type} {body : (σ → World → Prop) → σ → World → Prop} {s : σ} {w : World} (h : ∀ X, (∀ s w, body X s w → X s w) → X s w) : Eng.Loop body s w := h

theorem Loop.exit {σ : Type} {body : (σ → World → Prop) → σ → World → Prop} {s : σ} {w : World} (h : ∀ X, body X s w) : Eng.Loop body s w := fun X hX => hX _ _ (h X)

theorem CallV.of {P : Program} {bl : Nat → Bool} {f : Nat} {first cap : Array Value} {args : List Value} {w : World} {Kp : List PanicEntry → World → Prop} {K : Value → World → Prop}
    (hb : bl f = false) (h : CallR P f (first.toList ++ args ++ cap.toList) w Kp K) : CallV P bl (.func (.func f) first cap) args w Kp K := by
  unfold CallV
  exact cff hb h

end
end Go.Eng
