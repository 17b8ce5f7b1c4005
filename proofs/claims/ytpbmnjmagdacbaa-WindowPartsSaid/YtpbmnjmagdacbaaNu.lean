/- Plain facts on numbers that wrap, and on sums of lists. -/
import Derived.Test.YtpbmnjmagdacbaaVt
namespace Go.Eng
open Go

theorem wrap64_id {x : Int} (hx : in64 x) : IntKind.i64.wrap x = x := by
  obtain ⟨h1, h2⟩ := hx
  unfold IntKind.wrap
  simp only [IntKind.signed, IntKind.bits, Bool.true_and]
  simp only [Int.reducePow, Nat.reduceSub]
  split
  · next h =>
    have h := of_decide_eq_true h
    omega
  · next h =>
    have h : ¬ _ := fun hp => h (decide_eq_true hp)
    omega

theorem wrap64_in (x : Int) : in64 (IntKind.i64.wrap x) := by
  unfold IntKind.wrap in64
  simp only [IntKind.signed, IntKind.bits, Bool.true_and]
  simp only [Int.reducePow, Nat.reduceSub]
  split
  · next h =>
    have h := of_decide_eq_true h
    omega
  · next h =>
    have h : ¬ _ := fun hp => h (decide_eq_true hp)
    omega

theorem wrapu64_id {x : Int} (h0 : 0 ≤ x) (h1 : x < 18446744073709551616) : IntKind.u64.wrap x = x := by
  unfold IntKind.wrap
  simp only [IntKind.signed, IntKind.bits, Bool.false_and]
  simp only [Int.reducePow]
  simp
  omega

theorem sum_take {α : Type} (g : α → Nat) : ∀ (l : List α) (i : Nat) (h : i < l.length), ((l.take (i + 1)).map g).sum = ((l.take i).map g).sum + g l[i]
  | [], i, h => by simp at h
  | x :: l, 0, h => by simp
  | x :: l, i + 1, h => by
    simp only [List.take_succ_cons, List.map_cons, List.sum_cons, List.getElem_cons_succ]
    rw [sum_take g l i (by simpa using h)]
    omega

theorem VsAt.nil {α : Type} {G : Gh} {sz : Nat} {C : α → List Value → Prop} {a : Option Addr} : VsAt G sz C [] a := fun i t h => by simp at h

/-- Elements that are told one after another. -/
theorem VsAt.snoc {α : Type} {G : Gh} {sz : Nat} {C : α → List Value → Prop} {ts : List α} {a : Option Addr} {i : Nat} (h : VsAt G sz C (ts.take i) a) (hi : i < ts.length)
    (hx : ∃ b off cs, a = some ⟨b, off, none⟩ ∧ C ts[i] cs ∧ cs.length = sz ∧ ∀ j v, cs[j]? = some v → G.cell b (off + i * sz + j) = some v) : VsAt G sz C (ts.take (i + 1)) a := by
  intro k t hk
  rw [List.getElem?_take] at hk
  split at hk
  · next hlt =>
    by_cases hki : k < i
    · exact h k t (by rw [List.getElem?_take, if_pos hki]; exact hk)
    · obtain rfl : k = i := by omega
      rw [List.getElem?_eq_getElem hi] at hk
      cases hk
      exact hx
  · cases hk

end Go.Eng
