/- The law WindowBrings: whatever the documents, the number and the error, whatever the world when it begins, it returns true; nothing that was there turns. No condition. -/
import Derived.Test.YtpbmnjmagdacbaaRows
import Derived.Test.YtpbmnjmagdacbaaWo
import Derived.ProofKit
import Derived.OpenShut
import Derived.SizedLaws
import Derived.Carry
namespace Go.Proofs.Ytpbmnjmagdacbaa
open Go.ChangeShapes Go.WideShapes Go.ChangeAt Go.RowKit
set_option linter.unusedVariables false

theorem own : ownKnob Try.prog.godebug = none := by kernel_rfl
theorem laidOut : laidOutB Try.prog = true := by kernel_rfl

set_option maxRecDepth 100000 in
theorem brings_lifted (os : Os) (started : os.Started) (H : Type) (enc : TypeId × Value → H) :
    ReturnsInHanded {} Try.checked os 3 .any (Rows.windowBringsSpec.pre6 enc Try.prog Try.f3 Rows.windowBringsRow.domain false) (Rows.windowBringsSpec.post enc Try.prog Try.f3 false true false false) := by
  refine returnsInHanded_of_change_sized (C := Try.checked) own started (by kernel_rfl) Try.func3 (ChangeSpec.witness6 (enc := enc) (C := Try.checked) false ⟨#[], #[.slice none 0 0, .int .i64 0, .int .u8 0], []⟩ 8 (by kernel_rfl) (by kernel_rfl) (by kernel_rfl) (by kernel_rfl) (by kernel_rfl)) ?_
  intro W base args ds gs before hval hW hc hsz _
  have hW' := hW
  obtain ⟨p, q, hA0, hV, rfl, _, _⟩ := hW
  have hA : DataW.TrodAll enc Try.prog W 0 (fun _ => true) true Try.f3.params.toList args.toList ds p := hA0
  rw [Try.params3] at hA hval hsz
  obtain ⟨v0, v1, v2, d0, d1, d2, p0, p1, p2, rfl, rfl, rfl, h0, h1, h2⟩ := trodAll_three hA
  obtain ⟨rfl, rfl⟩ := trodVars_none hV
  simp only [List.append_nil] at hW'
  have hw : ∀ x ∈ DataW.weightsEach Try.prog [Sw.t_Sapi_Value, Sw.t_int64, Sw.t_uint8] [d0, d1, d2], x ≤ reachBytes := by
    intro x hx
    have := List.all_eq_true.1 hsz x hx
    simpa using this
  simp only [DataW.weightsEach, List.mem_append] at hw
  obtain ⟨a, n, c, dd, ts, rfl, hnc, hv⟩ := Sw.Vs.of (hval 0 _ _ rfl rfl) h0 (fun x h => hw x (.inl h))
  obtain ⟨k, rfl, hk⟩ := Sw.I64.of (hval 1 _ _ rfl rfl) h1
  obtain ⟨e8, rfl, he8⟩ := Sw.U8.of (hval 2 _ _ rfl rfl) h2
  have hlt : ∀ x ∈ p0 ++ p1 ++ p2, x.block < W.heap.size := fun x hx => by simpa using hW'.lt x hx
  refine (Sw.brings_walk (L := []) (c := c) hk he8 hnc hv (Eng.Holds.start W)).mono fun e W' he => ?_
  cases e with
  | returned v =>
    obtain ⟨rfl, G', hG, hH⟩ := he
    have hb : Below W.heap.size W W' := by
      have := hH.1
      rw [hG.1] at this
      exact this
    exact ⟨_, rfl, _, [], _, [], _, [], hW', trodAll_cons_mk (shut_bool Try.underlying4 _) trodAll_mk0, trodAll_mk3 (Below.trod laidOut (by kernel_rfl) (of_decide_eq_true (by kernel_rfl)) h0 hb fun x hx => hlt x (List.mem_append_left _ (List.mem_append_left _ hx))) (Below.trod laidOut (by kernel_rfl) (of_decide_eq_true (by kernel_rfl)) h1 hb fun x hx => hlt x (List.mem_append_left _ (List.mem_append_right _ hx))) (Below.trod laidOut (by kernel_rfl) (of_decide_eq_true (by kernel_rfl)) h2 hb fun x hx => hlt x (List.mem_append_right _ hx)), rfl, hb.frame _, fun h => by cases h⟩
  | _ => exact he.elim

/-- The law WindowBrings: whatever the documents, the number and the error, whatever the world when it begins, it returns true; nothing that was there turns. -/
theorem brings_holds : Rows.WindowBringsSaid :=
  OpenClaim.holds_of_wide 3 Try.f3 rfl rfl rfl rfl rfl rfl rfl ⟨rfl, rfl, rfl, rfl, rfl⟩ rfl rfl rfl rfl rfl (by kernel_rfl) Try.func3 (by kernel_rfl)
    (of_decide_eq_true (by kernel_rfl)) (by unfold Func.isWrapper; first | (rw [if_pos (by decide +kernel)]; kernel_rfl) | (rw [if_neg (by decide +kernel)]; exact ⟨rfl, rfl⟩))
    (fun os started H enc _ => brings_lifted os started H enc)

#print axioms brings_holds
end Go.Proofs.Ytpbmnjmagdacbaa
