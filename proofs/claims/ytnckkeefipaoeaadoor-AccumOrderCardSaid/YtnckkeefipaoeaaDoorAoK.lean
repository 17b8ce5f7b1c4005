/- The law AccumOrder: whatever the numbers and the values, whatever the world when it begins, it returns true; nothing that was there turns. No condition but that the listed variables lie as the text lays them. -/
import Derived.Test.YtnckkeefipaoeaaDoorTie
import Derived.Test.YtnckkeefipaoeaaDoorCards
import Derived.Test.YtnckkeefipaoeaaDoorVa4
import Derived.ProofKit
import Derived.OpenShut
import Derived.LaidMore
import Derived.Lay
import Derived.SevenTiedAt
import Derived.Stop.Joined
import Derived.Carry
set_option maxRecDepth 100000
namespace Go.Proofs.Sd
open Go Go.Eng Go.Eng.HP Go.RowKit Go.Proofs Go.WideShapes

theorem vty : VTy pg T t_int t_int64 t_string t_uint8 t_Suint8 t_api_Value t_api_Field t_Sapi_Value t_Sapi_Field :=
  ⟨tok, rfl, rfl, rfl, rfl, rfl, rfl, rfl, rfl, rfl, ⟨by kernel_rfl, by kernel_rfl, by kernel_rfl, by kernel_rfl, by kernel_rfl, by kernel_rfl, by kernel_rfl, by kernel_rfl, by kernel_rfl⟩,
    ⟨of_decide_eq_true (by kernel_rfl), of_decide_eq_true (by kernel_rfl), of_decide_eq_true (by kernel_rfl)⟩⟩

/-- An argument that is a row of values. -/
theorem Vs.of {H : Type} {enc : TypeId × Value → H} {W : World} {b0 : Nat} {rr : Reach} {v : Value} {d : DataW H} {ps : List MemPlace} (hval : Value.okWide pg W rr b0 t_Sapi_Value v) (hd : DataW.Trod enc pg W 0 (fun _ => true) true t_Sapi_Value v d ps)
    (hw : ∀ x ∈ d.weights pg t_Sapi_Value, x ≤ reachBytes) : ∃ a n c dd ts, v = .slice a n c ∧ Vs ⟨W, fun _ => none⟩ dd ts a n := by
  obtain ⟨a, n, c, rfl⟩ := okWide_slice (under_slice tok vty.sv) hval
  obtain ⟨fuel, hf⟩ := hd
  obtain ⟨a', n', c', m, he, hle, hcap, hm, hes⟩ := open_sl (under_slice tok vty.sv) (by rw [vty.sizes.2.2.2.2.2.2.2.1]; decide) hf hw
  simp only [Value.cells, List.cons.injEq, Value.slice.injEq] at he
  obtain ⟨⟨rfl, rfl, rfl⟩, _⟩ := he
  have key : ∀ i, i < n → ∃ t : VT, ∃ b off cs, a = some ⟨b, off, none⟩ ∧ (∃ r' : Vr, cs = r'.cells ∧ VC ⟨W, fun _ => none⟩ m t r') ∧ cs.length = 6 ∧ ∀ j v, cs[j]? = some v → (⟨W, fun _ => none⟩ : Gh).cell b (off + i * 6 + j) = some v := by
    intro i hi
    obtain ⟨b, off, es, y, ha, hlen, hcell, hy', hwy⟩ := hes i hi
    obtain ⟨t, r, rfl, hr⟩ := VC.of vty m es y.1 y.2 hy' hwy
    refine ⟨t, b, off, r.cells, ha, ⟨r, rfl, hr⟩, rfl, fun j v hv => ?_⟩
    have := start_cell (hcell j v hv)
    rw [vty.sizes.2.2.2.2.2.2.2.1] at this
    exact this
  obtain ⟨ts, hl, hp⟩ := list_of key
  have hb : n ≤ big := by
    have := le_big (Nat.le_trans (Nat.le_mul_of_pos_right c vty.bytes.2.1) hcap)
    omega
  exact ⟨a, n, c, m, ts, rfl, hl.symm, by omega, fun i t hi => hp i t hi⟩

theorem I16.of {H : Type} {enc : TypeId × Value → H} {W : World} {b0 : Nat} {rr : Reach} {v : Value} {d : DataW H} {ps : List MemPlace} (hval : Value.okWide pg W rr b0 t_Sint16 v) (hd : DataW.Trod enc pg W 0 (fun _ => true) true t_Sint16 v d ps)
    (hw : ∀ x ∈ d.weights pg t_Sint16, x ≤ reachBytes) : ∃ a n c xs, v = .slice a n c ∧ I16 ⟨W, fun _ => none⟩ xs a n := by
  have hu := under_slice (T := T) (t := t_Sint16) (e := t_int16) tok rfl
  have hi := under_int (T := T) (t := t_int16) tok (k := .i16) rfl
  have hc : pg.cellsOf t_int16 = 1 := by kernel_rfl
  obtain ⟨a, n, c, rfl⟩ := okWide_slice hu hval
  obtain ⟨fuel, hf⟩ := hd
  obtain ⟨a', n', c', m, he, hle, hcap, hm, hes⟩ := open_sl hu (by rw [hc]; decide) hf hw
  simp only [Value.cells, List.cons.injEq, Value.slice.injEq] at he
  obtain ⟨⟨rfl, rfl, rfl⟩, _⟩ := he
  have key : ∀ i, i < n → ∃ x : Int, -32768 ≤ x ∧ x < 32768 ∧ ∃ b off, a = some ⟨b, off, none⟩ ∧ (⟨W, fun _ => none⟩ : Gh).cell b (off + i) = some (.int .i16 x) := by
    intro i hi'
    obtain ⟨b, off, es, y, ha, hlen, hcell, hy', hwy⟩ := hes i hi'
    obtain ⟨x, rfl, _, hwf⟩ := DataW.trod_int hi hy'
    have hb : -32768 ≤ x ∧ x < 32768 := by
      revert hwf
      simp [Lit.wf, IntKind.min, IntKind.max, IntKind.signed, IntKind.bits]
      omega
    refine ⟨x, hb.1, hb.2, b, off, ha, ?_⟩
    have := start_cell (hcell 0 _ rfl)
    rw [hc, Nat.mul_one, Nat.add_zero] at this
    exact this
  obtain ⟨xs, hl, hp⟩ := list_of key
  exact ⟨a, n, c, xs, rfl, hl.symm, fun i hi => hp i _ (List.getElem?_eq_getElem hi)⟩

end Go.Proofs.Sd
namespace Go.Proofs.YtnckkeefipaoeaaDoor
open Go.ChangeShapes Go.WideShapes Go.ChangeAt Go.RowKit
set_option linter.unusedVariables false

theorem own : ownKnob Tryd.prog.godebug = none := by kernel_rfl
theorem laidOut : laidOutB Tryd.prog = true := by kernel_rfl

set_option maxRecDepth 100000 in
theorem order_lifted (os : Os) (started : os.Started) (H : Type) (enc : TypeId × Value → H) :
    ReturnsInHanded {} Tryd.checked os 3 .any (fun w args => (Rows.accumOrderSpec.pre enc Tryd.prog Tryd.f3 Rows.accumOrderRow.domain false w args ∧ laidMetH Tryd.prog Rows.accumOrderRow.laid w) ∧ sizedMet enc Tryd.prog Tryd.f3 (OpenSpec.ofChange Rows.accumOrderSpec) false w args)
      (Rows.accumOrderSpec.post enc Tryd.prog Tryd.f3 false true false false) := by
  refine returnsInHanded_of_change_and (C := Tryd.checked) (X := fun w _ => laidMetH Tryd.prog Rows.accumOrderRow.laid w) (fun _ _ _ hh h => h.of_heap hh) own started (by kernel_rfl) Tryd.func3
    (ChangeSpec.witness_shaped (enc := enc) (C := Tryd.checked) (os := os) (X := fun w _ => laidMetH Tryd.prog Rows.accumOrderRow.laid w) false (World.laidAll Tryd.prog os Rows.accumOrderRow.laid) #[.slice none 0 0, .slice none 0 0] 8 (World.laidAll_os _ _ _)
      (World.shaped_of_ZipB (by kernel_rfl) (by kernel_rfl)) (by kernel_rfl) (by kernel_rfl) (by kernel_rfl)
      (by rw [MakeChecks.laidMetH_plain _ _ _ (by kernel_rfl)]; exact laidMet_laidAll _ (by kernel_rfl) (by kernel_rfl))) ?_
  intro W base args ds gs before hval hW hc hsz hL _
  have hW' := hW
  obtain ⟨p, q, hA0, hV, rfl, _, _⟩ := hW
  have hA : DataW.TrodAll enc Tryd.prog W 0 (fun _ => true) true Tryd.f3.params.toList args.toList ds p := hA0
  rw [Tryd.params3] at hA hval hsz
  obtain ⟨v0, v1, d0, d1, p0, p1, rfl, rfl, rfl, h0, h1⟩ := trodAll_two hA
  obtain ⟨rfl, rfl⟩ := trodVars_none hV
  simp only [List.append_nil] at hW'
  have hw : ∀ x ∈ DataW.weightsEach Tryd.prog [Sd.t_Sint16, Sd.t_Sapi_Value] [d0, d1], x ≤ reachBytes := by
    intro x hx
    have := List.all_eq_true.1 hsz x hx
    simpa using this
  simp only [DataW.weightsEach, List.mem_append] at hw
  obtain ⟨a, n, c, xs, rfl, hx⟩ := Sd.I16.of (hval 0 _ _ rfl rfl) h0 (fun x h => hw x (.inl h))
  obtain ⟨a2, n2, c2, dd, ts, rfl, hv⟩ := Sd.Vs.of (hval 1 _ _ rfl rfl) h1 (fun x h => hw x (.inr (.inl h)))
  have hlt : ∀ x ∈ p0 ++ p1, x.block < W.heap.size := fun x hx => by simpa using hW'.lt x hx
  refine (Sd.order_walk (L := []) (c := c) (c2 := c2) hx hv (Eng.Holds.start W)).mono fun e W' he => ?_
  cases e with
  | returned v =>
    obtain ⟨rfl, G', hG, hH⟩ := he
    have hb : Below W.heap.size W W' := by
      have := hH.1
      rw [hG.1] at this
      exact this
    exact ⟨_, rfl, _, [], _, [], _, [], hW', trodAll_cons_mk (shut_bool Tryd.underlying4 _) trodAll_mk0,
      trodAll_mk2 (Below.trod laidOut (by kernel_rfl) (of_decide_eq_true (by kernel_rfl)) h0 hb fun x hx => hlt x (List.mem_append_left _ hx))
        (Below.trod laidOut (by kernel_rfl) (of_decide_eq_true (by kernel_rfl)) h1 hb fun x hx => hlt x (List.mem_append_right _ hx)), rfl, hb.frame _, fun h => by cases h⟩
  | _ => exact he.elim

theorem order_over : Rows.AccumOrderSaid :=
  OpenClaim.holds_of_wide 3 Tryd.f3 rfl rfl rfl rfl rfl rfl rfl ⟨rfl, rfl, rfl, rfl, rfl⟩ rfl rfl rfl rfl rfl (by kernel_rfl) Tryd.func3 (by kernel_rfl)
    (of_decide_eq_true (by kernel_rfl)) (by unfold Func.isWrapper; first | (rw [if_pos (by decide +kernel)]; kernel_rfl) | (rw [if_neg (by decide +kernel)]; exact ⟨rfl, rfl⟩))
    (fun os started H enc _ => order_lifted os started H enc)

theorem order_holds : Rows.AccumOrderCardSaid :=
  Claim7.holds_tied_plain_at .later [] [.data, .data, .data, .data, .pinned] true (true, "19c82b8fdf5c261b92238a92c35a6fc63b3ef00cfc738f3d7bd32829b1436e30") true order_over (fun _ h => by cases h) (by kernel_rfl) (fun _ h => by cases h) accumOrder_row_tie rfl ⟨rfl, rfl⟩ (by kernel_rfl) rfl
    (fun f fn hf hfn => by
      obtain rfl : f = 3 := Option.some.inj ((show Tryd.prog.funcNamed "aqueduct/aqueductlaw12.AccumOrder" = some 3 by kernel_rfl).symm.trans hf) |>.symm
      obtain rfl : fn = Tryd.f3 := (Option.some.inj (Tryd.func3.symm.trans hfn)).symm
      exact ⟨by kernel_rfl, fun j t ht => by
        rw [Tryd.params3] at ht
        rcases j with _ | _ | j
        · obtain rfl : t = 22 := (Option.some.inj (show some 22 = some t from ht)).symm
          show Tryd.prog.wantsStandIn 22 = false
          kernel_rfl
        · obtain rfl : t = 23 := (Option.some.inj (show some 23 = some t from ht)).symm
          show Tryd.prog.wantsStandIn 23 = false
          kernel_rfl
        · simp at ht⟩)
    (by kernel_rfl)
#print axioms order_holds
end Go.Proofs.YtnckkeefipaoeaaDoor
