/- How a program's table of types and its functions with a body are shown to be what they are, by one closed fact each. And rules for the words that stay. -/
import Derived.Test.YtpbmnjmagdacbaaEng5
import Derived.KernelRfl
namespace Go.Eng
open Go

section
variable {P : Program}

theorem TOk_of {tb : List (Option TI)} {keep : List Bool} (h : (keep.zipIdx.map fun x => cond x.1 (tbOf P x.2) none) = tb) : TOk P fun t => match nthO tb t with | some o => o | none => none := by
  intro t i hi
  simp only [nthO_get?] at hi
  rw [← h, List.getElem?_map] at hi
  cases hk : keep.zipIdx[t]? with
  | none => rw [hk] at hi; cases hi
  | some x =>
    rw [hk] at hi
    simp only [Option.map_some] at hi
    have hx : x.2 = t := by
      rw [List.getElem?_zipIdx] at hk
      cases hkk : keep[t]? with
      | none => rw [hkk] at hk; cases hk
      | some b => rw [hkk] at hk; simp at hk; rw [← hk]
    cases hb : x.1 with
    | false => rw [hb] at hi; cases hi
    | true => rw [hb, hx] at hi; exact hi

theorem Bl_of {bl : Nat → Bool} {n : Nat} (hlt : ∀ f, bl f = false → f < n)
    (h : ((List.range n).all fun f => bl f || match P.funcs[f]? with | some fn => fn.body.isSome && fn.name != "runtime.NumGoroutine" | none => false) = true) : Bl P bl := by
  intro f hf args w
  have h1 := List.all_eq_true.1 h f (List.mem_range.2 (hlt f hf))
  rw [hf, Bool.false_or] at h1
  split at h1
  · rename_i fn hfn
    simp only [Bool.and_eq_true, bne_iff_ne, ne_eq] at h1
    have hb : fn.body.isNone = false := by cases hb : fn.body <;> simp_all
    have hn : (fn.name == "runtime.NumGoroutine") = false := by simpa using h1.2
    simp only [callFunc, Sem.run_bind, run_program, Result.andThen_ok, hfn, hn, hb]
    rfl
  · cases h1

theorem funcX_of {T : Nat → Option TI} {bl : Nat → Bool} {f : Nat} {fn : Func} {args : List Value} {w : World} {R : Ending → World → Prop} {C : Prop}
    (hm : P.follows .mixedOrders = true) (hT : TOk P T) (hbl : Bl P bl) (hf : P.funcs[f]? = some fn)
    (e : funcX P T bl fn args w R = C) (h : C) : Calls P f args.toArray w R := by
  subst e
  exact funcX_calls hm hT hbl hf h

end
end Go.Eng
