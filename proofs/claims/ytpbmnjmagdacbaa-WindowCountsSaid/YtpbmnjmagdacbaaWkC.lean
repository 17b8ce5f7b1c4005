/- The law WindowCounts: whatever the documents and the name, whatever the world when it begins, it returns true; nothing that was there turns. No condition. -/
import Derived.Test.YtpbmnjmagdacbaaRows
import Derived.Test.YtpbmnjmagdacbaaWo
import Derived.ProofKit
import Derived.OpenShut
import Derived.SizedLaws
import Derived.Carry
namespace Go.Proofs.Ytpbmnjmagdacbaa
open Go.ChangeShapes Go.WideShapes Go.ChangeAt Go.RowKit
set_option linter.unusedVariables false

theorem own : ownKnob Try.prog.godebug = none := by kernel_rfl
theorem laidOut : laidOutB Try.prog = true := by kernel_rfl

set_option maxRecDepth 100000 in
theorem counts_lifted (os : Os) (started : os.Started) (H : Type) (enc : TypeId × Value → H) :
    ReturnsInHanded {} Try.checked os 5 .any (Rows.windowCountsSpec.pre6 enc Try.prog Try.f5 Rows.windowCountsRow.domain false) (Rows.windowCountsSpec.post enc Try.prog Try.f5 false true false false) := by
  refine returnsInHanded_of_change_sized (C := Try.checked) own started (by kernel_rfl) Try.func5 (ChangeSpec.witness6 (enc := enc) (C := Try.checked) false ⟨#[], #[.slice none 0 0, .string ⟨#[]⟩], []⟩ 8 (by kernel_rfl) (by kernel_rfl) (by kernel_rfl) (by kernel_rfl) (by kernel_rfl)) ?_
  intro W base args ds gs before hval hW hc hsz _
  have hW' := hW
  obtain ⟨p, q, hA0, hV, rfl, _, _⟩ := hW
  have hA : DataW.TrodAll enc Try.prog W 0 (fun _ => true) true Try.f5.params.toList args.toList ds p := hA0
  rw [Try.params5] at hA hval hsz
  obtain ⟨v0, v1, d0, d1, p0, p1, rfl, rfl, rfl, h0, h1⟩ := trodAll_two hA
  obtain ⟨rfl, rfl⟩ := trodVars_none hV
  simp only [List.append_nil] at hW'
  have hw : ∀ x ∈ DataW.weightsEach Try.prog [Sw.t_Sapi_Value, Sw.t_string] [d0, d1], x ≤ reachBytes := by
    intro x hx
    have := List.all_eq_true.1 hsz x hx
    simpa using this
  simp only [DataW.weightsEach, List.mem_append] at hw
  obtain ⟨a, n, c, dd, ts, rfl, hnc, hv⟩ := Sw.Vs.of (hval 0 _ _ rfl rfl) h0 (fun x h => hw x (.inl h))
  obtain ⟨nm, rfl, hnm⟩ := Sw.Str.of (hval 1 _ _ rfl rfl) h1 (fun x h => hw x (.inr (.inl h)))
  have hlt : ∀ x ∈ p0 ++ p1, x.block < W.heap.size := fun x hx => by simpa using hW'.lt x hx
  refine (Sw.counts_walk (L := []) (c := c) hnm hv (Eng.Holds.start W)).mono fun e W' he => ?_
  cases e with
  | returned v =>
    obtain ⟨rfl, G', hG, hH⟩ := he
    have hb : Below W.heap.size W W' := by
      have := hH.1
      rw [hG.1] at this
      exact this
    exact ⟨_, rfl, _, [], _, [], _, [], hW', trodAll_cons_mk (shut_bool Try.underlying4 _) trodAll_mk0, trodAll_mk2 (Below.trod laidOut (by kernel_rfl) (of_decide_eq_true (by kernel_rfl)) h0 hb fun x hx => hlt x (List.mem_append_left _ hx)) (Below.trod laidOut (by kernel_rfl) (of_decide_eq_true (by kernel_rfl)) h1 hb fun x hx => hlt x (List.mem_append_right _ hx)), rfl, hb.frame _, fun h => by cases h⟩
  | _ => exact he.elim

/-- The law WindowCounts: whatever the documents and the name, whatever the world when it begins, it returns true; nothing that was there turns. -/
theorem counts_holds : Rows.WindowCountsSaid :=
  OpenClaim.holds_of_wide 5 Try.f5 rfl rfl rfl rfl rfl rfl rfl ⟨rfl, rfl, rfl, rfl, rfl⟩ rfl rfl rfl rfl rfl (by kernel_rfl) Try.func5 (by kernel_rfl)
    (of_decide_eq_true (by kernel_rfl)) (by unfold Func.isWrapper; first | (rw [if_pos (by decide +kernel)]; kernel_rfl) | (rw [if_neg (by decide +kernel)]; exact ⟨rfl, rfl⟩))
    (fun os started H enc _ => counts_lifted os started H enc)

#print axioms counts_holds
end Go.Proofs.Ytpbmnjmagdacbaa
