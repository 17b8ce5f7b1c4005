/- How the laws' arguments read. -/
import Derived.Test.YtpbmnjmagdacbaaWf
import Derived.ProofKit
import Derived.OpenShut
import Derived.SizedLaws
import Derived.Carry
set_option maxRecDepth 100000
set_option linter.unusedVariables false
namespace Go.Proofs.Sw
open Go Go.Eng Go.Eng.HP Go.RowKit Go.Proofs Go.WideShapes

theorem vty : VTy pg T t_int t_int64 t_string t_uint8 t_Suint8 t_api_Value t_api_Field t_Sapi_Value t_Sapi_Field :=
  ⟨tok, rfl, rfl, rfl, rfl, rfl, rfl, rfl, rfl, rfl, ⟨by kernel_rfl, by kernel_rfl, by kernel_rfl, by kernel_rfl, by kernel_rfl, by kernel_rfl, by kernel_rfl, by kernel_rfl, by kernel_rfl⟩,
    ⟨of_decide_eq_true (by kernel_rfl), of_decide_eq_true (by kernel_rfl), of_decide_eq_true (by kernel_rfl)⟩⟩

section
variable {H : Type} {enc : TypeId × Value → H} {W : World} {b0 : Nat} {rr : Reach} {v : Value} {d : DataW H} {ps : List MemPlace}

/-- An argument that is a row of values. -/
theorem Vs.of (hval : Value.okWide pg W rr b0 t_Sapi_Value v) (hd : DataW.Trod enc pg W 0 (fun _ => true) true t_Sapi_Value v d ps)
    (hw : ∀ x ∈ d.weights pg t_Sapi_Value, x ≤ reachBytes) : ∃ a n c dd ts, v = .slice a n c ∧ n ≤ c ∧ Vs ⟨W, fun _ => none⟩ dd ts a n := by
  obtain ⟨a, n, c, rfl⟩ := okWide_slice (under_slice tok vty.sv) hval
  obtain ⟨fuel, hf⟩ := hd
  obtain ⟨a', n', c', m, he, hle, hcap, hm, hes⟩ := open_sl (under_slice tok vty.sv) (by rw [vty.sizes.2.2.2.2.2.2.2.1]; decide) hf hw
  simp only [Value.cells, List.cons.injEq, Value.slice.injEq] at he
  obtain ⟨⟨rfl, rfl, rfl⟩, _⟩ := he
  have key : ∀ i, i < n → ∃ t : VT, ∃ b off cs, a = some ⟨b, off, none⟩ ∧ (∃ r' : Vr, cs = r'.cells ∧ VC ⟨W, fun _ => none⟩ m t r') ∧ cs.length = 6 ∧ ∀ j v, cs[j]? = some v → (⟨W, fun _ => none⟩ : Gh).cell b (off + i * 6 + j) = some v := by
    intro i hi
    obtain ⟨b, off, es, y, ha, hlen, hcell, hy', hwy⟩ := hes i hi
    obtain ⟨t, r, rfl, hr⟩ := VC.of vty m es y.1 y.2 hy' hwy
    refine ⟨t, b, off, r.cells, ha, ⟨r, rfl, hr⟩, rfl, fun j v hv => ?_⟩
    have := start_cell (hcell j v hv)
    rw [vty.sizes.2.2.2.2.2.2.2.1] at this
    exact this
  obtain ⟨ts, hl, hp⟩ := list_of key
  have hb : n ≤ big := by
    have := le_big (Nat.le_trans (Nat.le_mul_of_pos_right c vty.bytes.2.1) hcap)
    omega
  exact ⟨a, n, c, m, ts, rfl, hle, hl.symm, by omega, fun i t hi => hp i t hi⟩

theorem Str.of (hval : Value.okWide pg W rr b0 t_string v) (hd : DataW.Trod enc pg W 0 (fun _ => true) true t_string v d ps) (hw : ∀ x ∈ d.weights pg t_string, x ≤ reachBytes) : ∃ s, v = .string s ∧ s.size ≤ big := by
  have hu := under_str (T := T) (t := t_string) tok rfl
  obtain ⟨s, rfl⟩ := okWide_string hu hval
  obtain ⟨fuel, hf⟩ := hd
  obtain ⟨s', he, hx, _⟩ := DataW.trod_string hu hf
  simp only [Value.cells, List.cons.injEq, Value.string.injEq] at he
  obtain ⟨rfl, _⟩ := he
  refine ⟨s, rfl, le_big (hw s.size ?_)⟩
  have hd' : d = .lit (.string s.data.toList) := by
    have := congrArg Prod.fst hx
    exact this
  rw [hd']
  exact w_str s _

theorem I64.of (hval : Value.okWide pg W rr b0 t_int64 v) (hd : DataW.Trod enc pg W 0 (fun _ => true) true t_int64 v d ps) : ∃ n, v = .int .i64 n ∧ in64 n := by
  have hu := under_int (T := T) (t := t_int64) (k := .i64) tok rfl
  obtain ⟨n, rfl⟩ := okWide_int hu hval
  obtain ⟨fuel, hf⟩ := hd
  obtain ⟨n', he, _, hw⟩ := DataW.trod_int hu hf
  simp only [Value.cells, List.cons.injEq, Value.int.injEq] at he
  obtain ⟨⟨_, rfl⟩, _⟩ := he
  refine ⟨n, rfl, ?_⟩
  revert hw
  simp [Lit.wf, IntKind.min, IntKind.max, IntKind.signed, IntKind.bits, in64]
  omega

theorem u8_wf {x : Int} (hw : (Lit.int .u8 x).wf = true) : 0 ≤ x ∧ x < 256 := by
  revert hw
  simp [Lit.wf, IntKind.min, IntKind.max, IntKind.signed, IntKind.bits]
  omega

theorem U8.of (hval : Value.okWide pg W rr b0 t_uint8 v) (hd : DataW.Trod enc pg W 0 (fun _ => true) true t_uint8 v d ps) : ∃ n, v = .int .u8 n ∧ 0 ≤ n ∧ n < 256 := by
  have hu := under_int (T := T) (t := t_uint8) (k := .u8) tok rfl
  obtain ⟨n, rfl⟩ := okWide_int hu hval
  obtain ⟨fuel, hf⟩ := hd
  obtain ⟨n', he, _, hw⟩ := DataW.trod_int hu hf
  simp only [Value.cells, List.cons.injEq, Value.int.injEq] at he
  obtain ⟨⟨_, rfl⟩, _⟩ := he
  exact ⟨n, rfl, u8_wf hw⟩

theorem U82.of (hval : Value.okWide pg W rr b0 t_2_uint8 v) (hd : DataW.Trod enc pg W 0 (fun _ => true) true t_2_uint8 v d ps) : ∃ x y, v = .agg #[.int .u8 x, .int .u8 y] ∧ (0 ≤ x ∧ x < 256) ∧ 0 ≤ y ∧ y < 256 := by
  have hu : pg.underlying t_2_uint8 = some (.array 2 t_uint8) := by kernel_rfl
  have he := under_int (T := T) (t := t_uint8) (k := .u8) tok rfl
  have hc : pg.cellsOf t_uint8 = 1 := by kernel_rfl
  have hc2 : pg.cellsOf t_2_uint8 = 2 := by kernel_rfl
  simp only [Value.okWide, hu] at hval
  obtain ⟨cs, rfl, hsz, _⟩ := hval
  obtain ⟨fuel, hf⟩ := hd
  obtain ⟨xs, m, _, _, hl, hxl, hel⟩ := DataW.trod_array hu hf
  simp only [Value.cells] at hl hel
  rw [hc2] at hl
  obtain ⟨c0, c1, hcs⟩ : ∃ c0 c1, cs.toList = [c0, c1] := by
    match h : cs.toList, hl with
    | [c0, c1], _ => exact ⟨c0, c1, rfl⟩
  rw [hcs, hc] at hel
  have e0 := hel 0 (by decide)
  have e1 := hel 1 (by decide)
  simp only [Nat.zero_mul, Nat.one_mul, List.drop_zero, List.drop_succ_cons, List.take_succ_cons, List.take_zero] at e0 e1
  rw [List.getElem?_eq_getElem (by omega)] at e0 e1
  obtain ⟨x, hx, _, hwx⟩ := DataW.trod_int he e0
  obtain ⟨y, hy, _, hwy⟩ := DataW.trod_int he e1
  cases hx
  cases hy
  refine ⟨x, y, ?_, u8_wf hwx, u8_wf hwy⟩
  congr 1
  apply Array.ext'
  rw [hcs]

end
end Go.Proofs.Sw
