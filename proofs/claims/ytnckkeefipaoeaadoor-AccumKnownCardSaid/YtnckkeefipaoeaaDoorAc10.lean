/- The law of what is known by hand, walked. -/
import Derived.Test.YtnckkeefipaoeaaDoorAc9
set_option linter.unusedVariables false
set_option linter.unusedSimpArgs false
set_option maxRecDepth 100000
set_option maxHeartbeats 40000000
namespace Go.Proofs.Sd
open Go Go.Eng Go.Eng.HP Go.RowKit Go.Proofs
attribute [local irreducible] St New Drew Prim PrimU CallR CallV CallI CallX Meet Eng.Loop withSome HP.blk HP.mp Calls Holds Ret

/-- What a round of the law's loop asks. -/
def kBody (b17 b19 : Nat) (R : Ending → World → Prop) : (Bool × Int → World → Prop) → Bool × Int → World → Prop :=
 (fun X21 s22 w23 =>
 ∀ j24 : Nat → Value, (cond (decide (s22.2 < ((8 : Nat) : Int)))
 ((0 ≤ s22.2 ∧ s22.2 < ((8 : Nat) : Int)) ∧
 ∃ x25 : ByteArray, w23.cell? ((⟨b19, 0, none⟩ : Addr).add ((s22.2).toNat * 1)) = some (.string x25) ∧
 (CallR pg f_accum_Kind [(.string x25)] w23 (fun ch w => R (.panicked ch) w) fun v26 w27 =>
 ∃ y28 : Int, v26 = (.int .i64 y28) ∧
 (CallR pg f_accum_New [(.int .i64 y28)] w27 (fun ch w => R (.panicked ch) w) fun v29 w30 =>
 ∃ y31 : Option Addr, v29 = (.pointer y31) ∧
 (cond y31.isNone
 (R (.returned (.bool false)) w30)
 ((CallR pg f_Paccum_State_Value [(.pointer y31)] w30 (fun ch w => R (.panicked ch) w) fun v32 w33 =>
 ∃ y34 : Int, ∃ y35 : Int, ∃ y36 : ByteArray, ∃ (y37 : Option Addr) (l38 c39 : Nat), ∃ (y40 : Option Addr) (l41 c42 : Nat), ∃ (y43 : Option Addr) (l44 c45 : Nat), v32 = (.agg #[(.int .i64 y34), (.int .i64 y35), (.string y36), (.slice y37 l38 c39), (.slice y40 l41 c42), (.slice y43 l44 c45)]) ∧
 (New w33 (.cells #[(.int .i64 (0 : Int)), (.int .i64 (0 : Int)), (.string (⟨#[]⟩ : ByteArray)), (.slice none 0 0), (.slice none 0 0), (.slice none 0 0)] t_api_Value (0, 0)) fun b46 w47 =>
 (St w47 ⟨b46, 0, none⟩ (.int .i64 y34) fun w48 =>
 (St w48 ⟨b46, 1, none⟩ (.int .i64 y35) fun w49 =>
 (St w49 ⟨b46, 2, none⟩ (.string y36) fun w50 =>
 (St w50 ⟨b46, 3, none⟩ (.slice y37 l38 c39) fun w51 =>
 (St w51 ⟨b46, 4, none⟩ (.slice y40 l41 c42) fun w52 =>
 (St w52 ⟨b46, 5, none⟩ (.slice y43 l44 c45) fun w53 =>
 (Eng.Loop (σ := Bool × Int) (fun X54 s55 w56 =>
 ∀ j57 : Nat → Value, (cond (decide (s55.2 < ((5 : Nat) : Int)))
 ((0 ≤ s55.2 ∧ s55.2 < ((5 : Nat) : Int)) ∧
 ∃ x58 : Int, w56.cell? ((⟨b17, 0, none⟩ : Addr).add ((s55.2).toNat * 6)) = some (.int .i64 x58) ∧
 ∃ x59 : Int, w56.cell? (((⟨b17, 0, none⟩ : Addr).add ((s55.2).toNat * 6)).add 1) = some (.int .i64 x59) ∧
 ∃ x60 : ByteArray, w56.cell? (((⟨b17, 0, none⟩ : Addr).add ((s55.2).toNat * 6)).add 2) = some (.string x60) ∧
 ∃ (x61 : Option Addr) (l62 c63 : Nat), w56.cell? (((⟨b17, 0, none⟩ : Addr).add ((s55.2).toNat * 6)).add 3) = some (.slice x61 l62 c63) ∧
 ∃ (x64 : Option Addr) (l65 c66 : Nat), w56.cell? (((⟨b17, 0, none⟩ : Addr).add ((s55.2).toNat * 6)).add 4) = some (.slice x64 l65 c66) ∧
 ∃ (x67 : Option Addr) (l68 c69 : Nat), w56.cell? (((⟨b17, 0, none⟩ : Addr).add ((s55.2).toNat * 6)).add 5) = some (.slice x67 l68 c69) ∧
 (CallR pg f_Paccum_State_Add [(.pointer y31), (.agg #[(.int .i64 x58), (.int .i64 x59), (.string x60), (.slice x61 l62 c63), (.slice x64 l65 c66), (.slice x67 l68 c69)])] w56 (fun ch w => R (.panicked ch) w) fun v70 w71 =>
 ∃ y72 : Int, v70 = (.int .i64 y72) ∧
 (cond (y72 != (0 : Int))
 (R (.returned (.bool false)) w71)
 (X54 (s55.1, (IntKind.i64.wrap (s55.2 + (1 : Int)))) w71))))
 ((CallR pg f_Paccum_State_Value [(.pointer y31)] w56 (fun ch w => R (.panicked ch) w) fun v73 w74 =>
 ∃ y75 : Int, ∃ y76 : Int, ∃ y77 : ByteArray, ∃ (y78 : Option Addr) (l79 c80 : Nat), ∃ (y81 : Option Addr) (l82 c83 : Nat), ∃ (y84 : Option Addr) (l85 c86 : Nat), v73 = (.agg #[(.int .i64 y75), (.int .i64 y76), (.string y77), (.slice y78 l79 c80), (.slice y81 l82 c83), (.slice y84 l85 c86)]) ∧
 (New w74 (.cells #[(.int .i64 (0 : Int)), (.int .i64 (0 : Int)), (.string (⟨#[]⟩ : ByteArray)), (.slice none 0 0), (.slice none 0 0), (.slice none 0 0)] t_api_Value (0, 0)) fun b87 w88 =>
 (St w88 ⟨b87, 0, none⟩ (.int .i64 y75) fun w89 =>
 (St w89 ⟨b87, 1, none⟩ (.int .i64 y76) fun w90 =>
 (St w90 ⟨b87, 2, none⟩ (.string y77) fun w91 =>
 (St w91 ⟨b87, 3, none⟩ (.slice y78 l79 c80) fun w92 =>
 (St w92 ⟨b87, 4, none⟩ (.slice y81 l82 c83) fun w93 =>
 (St w93 ⟨b87, 5, none⟩ (.slice y84 l85 c86) fun w94 =>
 (Meet (σ := Bool) (fun J95 =>
 (cond (s22.2 == (0 : Int))
 (∃ x98 : Int, w94.cell? ⟨b46, 0, none⟩ = some (.int .i64 x98) ∧
 (cond (x98 == (3 : Int))
 (∃ x99 : Int, w94.cell? ⟨b46, 1, none⟩ = some (.int .i64 x99) ∧
 (cond (x99 == (0 : Int))
 (∃ x100 : Int, w94.cell? ⟨b87, 0, none⟩ = some (.int .i64 x100) ∧
 (cond (x100 == (4 : Int))
 (∃ x101 : Int, w94.cell? ⟨b87, 1, none⟩ = some (.int .i64 x101) ∧
 J95 (x101 == (6 : Int)) w94)
 (J95 false w94)))
 (J95 false w94)))
 (J95 false w94)))
 ((Meet (σ := Bool) (fun J102 =>
 (cond (s22.2 == (1 : Int))
 (J102 true w94)
 (J102 (s22.2 == (2 : Int)) w94)))
 (fun s103 w104 =>
 ∀ j105 : Nat → Value, (cond s103
 (∃ x106 : Int, w104.cell? ⟨b46, 0, none⟩ = some (.int .i64 x106) ∧
 (cond (x106 == (2 : Int))
 (∃ x107 : Int, w104.cell? ⟨b87, 0, none⟩ = some (.int .i64 x107) ∧
 (cond (x107 == (4 : Int))
 (∃ x108 : Int, w104.cell? ⟨b87, 1, none⟩ = some (.int .i64 x108) ∧
 J95 (x108 == (3 : Int)) w104)
 (J95 false w104)))
 (J95 false w104)))
 ((Meet (σ := Bool) (fun J109 =>
 (cond (s22.2 == (3 : Int))
 (J109 true w104)
 (J109 (s22.2 == (4 : Int)) w104)))
 (fun s110 w111 =>
 ∀ j112 : Nat → Value, (cond s110
 (∃ x113 : Int, w111.cell? ⟨b46, 0, none⟩ = some (.int .i64 x113) ∧
 (cond (x113 == (2 : Int))
 (∃ x114 : Int, w111.cell? ⟨b87, 0, none⟩ = some (.int .i64 x114) ∧
 J95 (x114 == (2 : Int)) w111)
 (J95 false w111)))
 ((cond (s22.2 == (5 : Int))
 (∃ x115 : Int, w111.cell? ⟨b46, 0, none⟩ = some (.int .i64 x115) ∧
 (cond (x115 == (7 : Int))
 (∃ (x116 : Option Addr) (l117 c118 : Nat), w111.cell? ⟨b46, 5, none⟩ = some (.slice x116 l117 c118) ∧
 (cond (((l117 : Nat) : Int) == (0 : Int))
 (∃ (x119 : Option Addr) (l120 c121 : Nat), w111.cell? ⟨b87, 5, none⟩ = some (.slice x119 l120 c121) ∧
 (cond (((l120 : Nat) : Int) == (3 : Int))
 (∃ (x122 : Option Addr) (l123 c124 : Nat), w111.cell? ⟨b87, 5, none⟩ = some (.slice x122 l123 c124) ∧
 (withSome x122 fun (a125 : Addr) =>
 (0 ≤ (0 : Int) ∧ (0 : Int) < ((l123 : Nat) : Int)) ∧
 ∃ x126 : Int, w111.cell? (a125.add (((0 : Int)).toNat * 6)) = some (.int .i64 x126) ∧
 J95 (x126 == (2 : Int)) w111))
 (J95 false w111)))
 (J95 false w111)))
 (J95 false w111)))
 ((cond (s22.2 == (6 : Int))
 (∃ x127 : Int, w111.cell? ⟨b46, 0, none⟩ = some (.int .i64 x127) ∧
 (cond (x127 == (7 : Int))
 (∃ (x128 : Option Addr) (l129 c130 : Nat), w111.cell? ⟨b87, 5, none⟩ = some (.slice x128 l129 c130) ∧
 (cond (((l129 : Nat) : Int) == (2 : Int))
 (∃ (x131 : Option Addr) (l132 c133 : Nat), w111.cell? ⟨b87, 5, none⟩ = some (.slice x131 l132 c133) ∧
 (withSome x131 fun (a134 : Addr) =>
 (0 ≤ (1 : Int) ∧ (1 : Int) < ((l132 : Nat) : Int)) ∧
 ∃ x135 : Int, w111.cell? (a134.add (((1 : Int)).toNat * 6)) = some (.int .i64 x135) ∧
 J95 (x135 == (4 : Int)) w111))
 (J95 false w111)))
 (J95 false w111)))
 (∃ x136 : Int, w111.cell? ⟨b46, 1, none⟩ = some (.int .i64 x136) ∧
 (cond (x136 == (0 : Int))
 (∃ x137 : Int, w111.cell? ⟨b87, 0, none⟩ = some (.int .i64 x137) ∧
 (cond (x137 == (3 : Int))
 (∃ x138 : Int, w111.cell? ⟨b87, 1, none⟩ = some (.int .i64 x138) ∧
 J95 (x138 == (5 : Int)) w111)
 (J95 false w111)))
 (J95 false w111)))))))))))))))))
 (fun s96 w97 =>
 ∀ j139 : Nat → Value, (cond (!s96)
 (R (.returned (.bool false)) w97)
 (X21 (s55.1, (IntKind.i64.wrap (s22.2 + (1 : Int)))) w97))))))))))))))) (s22.1, (0 : Int)) w53))))))))))))))
 ((CallR pg f_accum_New [(.int .i64 (1 : Int))] w23 (fun ch w => R (.panicked ch) w) fun v140 w141 =>
 ∃ y142 : Option Addr, v140 = (.pointer y142) ∧
 (CallR pg f_aqueductlaw12_AccumKnown_1 [(.int .i64 (9223372036854775807 : Int))] w141 (fun ch w => R (.panicked ch) w) fun v143 w144 =>
 ∃ y145 : Int, ∃ y146 : Int, ∃ y147 : ByteArray, ∃ (y148 : Option Addr) (l149 c150 : Nat), ∃ (y151 : Option Addr) (l152 c153 : Nat), ∃ (y154 : Option Addr) (l155 c156 : Nat), v143 = (.agg #[(.int .i64 y145), (.int .i64 y146), (.string y147), (.slice y148 l149 c150), (.slice y151 l152 c153), (.slice y154 l155 c156)]) ∧
 (CallR pg f_Paccum_State_Add [(.pointer y142), (.agg #[(.int .i64 y145), (.int .i64 y146), (.string y147), (.slice y148 l149 c150), (.slice y151 l152 c153), (.slice y154 l155 c156)])] w144 (fun ch w => R (.panicked ch) w) fun v157 w158 =>
 ∃ y159 : Int, v157 = (.int .i64 y159) ∧
 (CallR pg f_aqueductlaw12_AccumKnown_1 [(.int .i64 (1 : Int))] w158 (fun ch w => R (.panicked ch) w) fun v160 w161 =>
 ∃ y162 : Int, ∃ y163 : Int, ∃ y164 : ByteArray, ∃ (y165 : Option Addr) (l166 c167 : Nat), ∃ (y168 : Option Addr) (l169 c170 : Nat), ∃ (y171 : Option Addr) (l172 c173 : Nat), v160 = (.agg #[(.int .i64 y162), (.int .i64 y163), (.string y164), (.slice y165 l166 c167), (.slice y168 l169 c170), (.slice y171 l172 c173)]) ∧
 (CallR pg f_Paccum_State_Add [(.pointer y142), (.agg #[(.int .i64 y162), (.int .i64 y163), (.string y164), (.slice y165 l166 c167), (.slice y168 l169 c170), (.slice y171 l172 c173)])] w161 (fun ch w => R (.panicked ch) w) fun v174 w175 =>
 ∃ y176 : Int, v174 = (.int .i64 y176) ∧
 (CallR pg f_aqueductlaw12_AccumKnown_1 [(.int .i64 (-1 : Int))] w175 (fun ch w => R (.panicked ch) w) fun v177 w178 =>
 ∃ y179 : Int, ∃ y180 : Int, ∃ y181 : ByteArray, ∃ (y182 : Option Addr) (l183 c184 : Nat), ∃ (y185 : Option Addr) (l186 c187 : Nat), ∃ (y188 : Option Addr) (l189 c190 : Nat), v177 = (.agg #[(.int .i64 y179), (.int .i64 y180), (.string y181), (.slice y182 l183 c184), (.slice y185 l186 c187), (.slice y188 l189 c190)]) ∧
 (CallR pg f_Paccum_State_Add [(.pointer y142), (.agg #[(.int .i64 y179), (.int .i64 y180), (.string y181), (.slice y182 l183 c184), (.slice y185 l186 c187), (.slice y188 l189 c190)])] w178 (fun ch w => R (.panicked ch) w) fun v191 w192 =>
 ∃ y193 : Int, v191 = (.int .i64 y193) ∧
 (Meet (σ := Bool) (fun J194 =>
 (cond (y159 == (0 : Int))
 ((cond (y176 == (10 : Int))
 ((cond (y193 == (0 : Int))
 ((CallR pg f_Paccum_State_Value [(.pointer y142)] w192 (fun ch w => R (.panicked ch) w) fun v197 w198 =>
 ∃ y199 : Int, ∃ y200 : Int, ∃ y201 : ByteArray, ∃ (y202 : Option Addr) (l203 c204 : Nat), ∃ (y205 : Option Addr) (l206 c207 : Nat), ∃ (y208 : Option Addr) (l209 c210 : Nat), v197 = (.agg #[(.int .i64 y199), (.int .i64 y200), (.string y201), (.slice y202 l203 c204), (.slice y205 l206 c207), (.slice y208 l209 c210)]) ∧
 (cond (y200 == (9223372036854775806 : Int))
 ((CallR pg f_accum_Kind [(.string (⟨#[115, 117, 109]⟩ : ByteArray))] w198 (fun ch w => R (.panicked ch) w) fun v211 w212 =>
 ∃ y213 : Int, v211 = (.int .i64 y213) ∧
 J194 (y213 == (0 : Int)) w212))
 (J194 false w198))))
 (J194 false w192)))
 (J194 false w192)))
 (J194 false w192)))
 (fun s195 w196 =>
 ∀ j214 : Nat → Value, R (.returned (.bool s195)) w196))))))))))))

section
variable {G : Gh} {w : World} {L : List HP}

theorem w1 : IntKind.i64.wrap ((0 : Int) + 1) = 1 := by decide
theorem w2 : IntKind.i64.wrap ((1 : Int) + 1) = 2 := by decide
theorem w3 : IntKind.i64.wrap ((2 : Int) + 1) = 3 := by decide
theorem w4 : IntKind.i64.wrap ((3 : Int) + 1) = 4 := by decide
theorem w5 : IntKind.i64.wrap ((4 : Int) + 1) = 5 := by decide
theorem w6 : IntKind.i64.wrap ((5 : Int) + 1) = 6 := by decide
theorem w7 : IntKind.i64.wrap ((6 : Int) + 1) = 7 := by decide
theorem w8 : IntKind.i64.wrap ((7 : Int) + 1) = 8 := by decide
theorem w03 : IntKind.i64.wrap ((0 : Int) + 3) = 3 := by decide
theorem w33 : IntKind.i64.wrap ((3 : Int) + 3) = 6 := by decide
theorem k1 : sumKind 3 4 3 = 4 := by decide
theorem k2 : sumKind 4 3 6 = 4 := by decide
theorem c1 : cmpI 3 3 = 0 := by decide

theorem known_s8 {X : Bool × Int → World → Prop} {b bi : Nat} (hX : ∀ s w, kBody bi b (Ret fun v w' => v = .bool true ∧ ∃ A, Holds G w' A) X s w → X s w) : ∀ {w : World}, Holds G w (all (blk b t_string [.string ⟨#[36, 115, 117, 109]⟩, .string ⟨#[36, 109, 105, 110]⟩, .string ⟨#[36, 109, 97, 120]⟩, .string ⟨#[36, 102, 105, 114, 115, 116]⟩, .string ⟨#[36, 108, 97, 115, 116]⟩, .string ⟨#[36, 112, 117, 115, 104]⟩, .string ⟨#[36, 97, 100, 100, 84, 111, 83, 101, 116]⟩, .string ⟨#[36, 99, 111, 117, 110, 116]⟩] :: blk bi t_api_Value [.int .i64 0, .int .i64 0, .string em, .slice none 0 0, .slice none 0 0, .slice none 0 0, .int .i64 2, .int .i64 0, .string em, .slice none 0 0, .slice none 0 0, .slice none 0 0, .int .i64 4, .int .i64 3, .string em, .slice none 0 0, .slice none 0 0, .slice none 0 0, .int .i64 3, .int .i64 3, .string em, .slice none 0 0, .slice none 0 0, .slice none 0 0, .int .i64 0, .int .i64 0, .string em, .slice none 0 0, .slice none 0 0, .slice none 0 0] :: L)) → X (false, 8) w := by
  intro w h
  refine hX _ _ ?_
  unfold kBody
  dsimp only
  repeat' (first
    | (refine New.at h (fun b w hh => ?_); clear h; have h := hh; clear hh)
    | (refine Drew.of h (fun w hh => ?_); clear h; have h := hh; clear hh)
    | (refine St.at h 0 _ rfl rfl rfl (fun w hh => ?_); clear h; have h := hh; clear hh; simp only [List.set_cons_zero, List.set_cons_succ] at h)
    | (refine St.at h 1 _ rfl rfl rfl (fun w hh => ?_); clear h; have h := hh; clear hh; simp only [List.set_cons_zero, List.set_cons_succ] at h)
    | (refine St.at h 2 _ rfl rfl rfl (fun w hh => ?_); clear h; have h := hh; clear hh; simp only [List.set_cons_zero, List.set_cons_succ] at h)
    | (refine CallR.of (New_sum h) ?_; rintro _ w ⟨s, rfl, h⟩)
    | (refine CallR.of (known_1 _ h) ?_; rintro _ w ⟨rfl, h⟩)
    | refine ⟨_, h.lda 0 _ rfl rfl, ?_⟩
    | refine ⟨_, _, _, h.lda 0 _ rfl rfl, ?_⟩
    | refine ⟨h.lda 0 _ rfl rfl, ?_⟩
    | refine ⟨_, h.lda 1 _ rfl rfl, ?_⟩
    | refine ⟨_, _, _, h.lda 1 _ rfl rfl, ?_⟩
    | refine ⟨h.lda 1 _ rfl rfl, ?_⟩
    | refine ⟨_, h.lda 2 _ rfl rfl, ?_⟩
    | refine ⟨_, _, _, h.lda 2 _ rfl rfl, ?_⟩
    | refine ⟨h.lda 2 _ rfl rfl, ?_⟩
    | exact h.lda 0 _ rfl rfl
    | exact h.lda 1 _ rfl rfl
    | exact h.lda 2 _ rfl rfl
    | refine ⟨_, rfl, ?_⟩
    | refine ⟨_, _, rfl, ?_⟩
    | refine ⟨_, _, _, rfl, ?_⟩
    | refine ⟨_, _, _, _, _, _, _, _, _, _, _, _, rfl, ?_⟩
    | refine ⟨_, _, _, _, _, _, _, _, _, _, _, _, _, rfl, ?_⟩
    | refine ctt rfl ?_
    | refine cff rfl ?_
    | refine Meet.dup ?_
    | intro j
    | rw [ws]
    | simp only [ws, add_mk]
    | refine And.intro ?_ ?_)
  repeat' (first
    | (refine New.at h (fun b w hh => ?_); clear h; have h := hh; clear hh)
    | (refine Drew.of h (fun w hh => ?_); clear h; have h := hh; clear hh)
    | (refine St.at h 0 _ rfl rfl rfl (fun w hh => ?_); clear h; have h := hh; clear hh; simp only [List.set_cons_zero, List.set_cons_succ] at h)
    | (refine St.at h 1 _ rfl rfl rfl (fun w hh => ?_); clear h; have h := hh; clear hh; simp only [List.set_cons_zero, List.set_cons_succ] at h)
    | (refine St.at h 2 _ rfl rfl rfl (fun w hh => ?_); clear h; have h := hh; clear hh; simp only [List.set_cons_zero, List.set_cons_succ] at h)
    | (refine CallR.of (Add_sum _ _ _ _ _ _ _ (by decide) (by decide) (by decide) h) ?_; rintro _ w ⟨rfl, h⟩)
    | refine ⟨_, h.lda 0 _ rfl rfl, ?_⟩
    | refine ⟨_, _, _, h.lda 0 _ rfl rfl, ?_⟩
    | refine ⟨h.lda 0 _ rfl rfl, ?_⟩
    | refine ⟨_, h.lda 1 _ rfl rfl, ?_⟩
    | refine ⟨_, _, _, h.lda 1 _ rfl rfl, ?_⟩
    | refine ⟨h.lda 1 _ rfl rfl, ?_⟩
    | refine ⟨_, h.lda 2 _ rfl rfl, ?_⟩
    | refine ⟨_, _, _, h.lda 2 _ rfl rfl, ?_⟩
    | refine ⟨h.lda 2 _ rfl rfl, ?_⟩
    | exact h.lda 0 _ rfl rfl
    | exact h.lda 1 _ rfl rfl
    | exact h.lda 2 _ rfl rfl
    | refine ⟨_, rfl, ?_⟩
    | refine ⟨_, _, rfl, ?_⟩
    | refine ⟨_, _, _, rfl, ?_⟩
    | refine ⟨_, _, _, _, _, _, _, _, _, _, _, _, rfl, ?_⟩
    | refine ⟨_, _, _, _, _, _, _, _, _, _, _, _, _, rfl, ?_⟩
    | refine ctt rfl ?_
    | refine cff rfl ?_
    | refine Meet.dup ?_
    | intro j
    | rw [ws]
    | simp only [ws, add_mk]
    | refine And.intro ?_ ?_)
  repeat' (first
    | (refine New.at h (fun b w hh => ?_); clear h; have h := hh; clear hh)
    | (refine Drew.of h (fun w hh => ?_); clear h; have h := hh; clear hh)
    | (refine St.at h 0 _ rfl rfl rfl (fun w hh => ?_); clear h; have h := hh; clear hh; simp only [List.set_cons_zero, List.set_cons_succ] at h)
    | (refine St.at h 1 _ rfl rfl rfl (fun w hh => ?_); clear h; have h := hh; clear hh; simp only [List.set_cons_zero, List.set_cons_succ] at h)
    | (refine St.at h 2 _ rfl rfl rfl (fun w hh => ?_); clear h; have h := hh; clear hh; simp only [List.set_cons_zero, List.set_cons_succ] at h)
    | (refine CallR.of (known_1 _ h) ?_; rintro _ w ⟨rfl, h⟩)
    | refine ⟨_, h.lda 0 _ rfl rfl, ?_⟩
    | refine ⟨_, _, _, h.lda 0 _ rfl rfl, ?_⟩
    | refine ⟨h.lda 0 _ rfl rfl, ?_⟩
    | refine ⟨_, h.lda 1 _ rfl rfl, ?_⟩
    | refine ⟨_, _, _, h.lda 1 _ rfl rfl, ?_⟩
    | refine ⟨h.lda 1 _ rfl rfl, ?_⟩
    | refine ⟨_, h.lda 2 _ rfl rfl, ?_⟩
    | refine ⟨_, _, _, h.lda 2 _ rfl rfl, ?_⟩
    | refine ⟨h.lda 2 _ rfl rfl, ?_⟩
    | exact h.lda 0 _ rfl rfl
    | exact h.lda 1 _ rfl rfl
    | exact h.lda 2 _ rfl rfl
    | refine ⟨_, rfl, ?_⟩
    | refine ⟨_, _, rfl, ?_⟩
    | refine ⟨_, _, _, rfl, ?_⟩
    | refine ⟨_, _, _, _, _, _, _, _, _, _, _, _, rfl, ?_⟩
    | refine ⟨_, _, _, _, _, _, _, _, _, _, _, _, _, rfl, ?_⟩
    | refine ctt rfl ?_
    | refine cff rfl ?_
    | refine Meet.dup ?_
    | intro j
    | rw [ws]
    | simp only [ws, add_mk]
    | refine And.intro ?_ ?_)
  repeat' (first
    | (refine New.at h (fun b w hh => ?_); clear h; have h := hh; clear hh)
    | (refine Drew.of h (fun w hh => ?_); clear h; have h := hh; clear hh)
    | (refine St.at h 0 _ rfl rfl rfl (fun w hh => ?_); clear h; have h := hh; clear hh; simp only [List.set_cons_zero, List.set_cons_succ] at h)
    | (refine St.at h 1 _ rfl rfl rfl (fun w hh => ?_); clear h; have h := hh; clear hh; simp only [List.set_cons_zero, List.set_cons_succ] at h)
    | (refine St.at h 2 _ rfl rfl rfl (fun w hh => ?_); clear h; have h := hh; clear hh; simp only [List.set_cons_zero, List.set_cons_succ] at h)
    | (refine CallR.of (Add_sum_bad _ _ _ _ _ _ _ (by decide) (by decide) (by decide) h) ?_; rintro _ w ⟨rfl, h⟩)
    | refine ⟨_, h.lda 0 _ rfl rfl, ?_⟩
    | refine ⟨_, _, _, h.lda 0 _ rfl rfl, ?_⟩
    | refine ⟨h.lda 0 _ rfl rfl, ?_⟩
    | refine ⟨_, h.lda 1 _ rfl rfl, ?_⟩
    | refine ⟨_, _, _, h.lda 1 _ rfl rfl, ?_⟩
    | refine ⟨h.lda 1 _ rfl rfl, ?_⟩
    | refine ⟨_, h.lda 2 _ rfl rfl, ?_⟩
    | refine ⟨_, _, _, h.lda 2 _ rfl rfl, ?_⟩
    | refine ⟨h.lda 2 _ rfl rfl, ?_⟩
    | exact h.lda 0 _ rfl rfl
    | exact h.lda 1 _ rfl rfl
    | exact h.lda 2 _ rfl rfl
    | refine ⟨_, rfl, ?_⟩
    | refine ⟨_, _, rfl, ?_⟩
    | refine ⟨_, _, _, rfl, ?_⟩
    | refine ⟨_, _, _, _, _, _, _, _, _, _, _, _, rfl, ?_⟩
    | refine ⟨_, _, _, _, _, _, _, _, _, _, _, _, _, rfl, ?_⟩
    | refine ctt rfl ?_
    | refine cff rfl ?_
    | refine Meet.dup ?_
    | intro j
    | rw [ws]
    | simp only [ws, add_mk]
    | refine And.intro ?_ ?_)
  repeat' (first
    | (refine New.at h (fun b w hh => ?_); clear h; have h := hh; clear hh)
    | (refine Drew.of h (fun w hh => ?_); clear h; have h := hh; clear hh)
    | (refine St.at h 0 _ rfl rfl rfl (fun w hh => ?_); clear h; have h := hh; clear hh; simp only [List.set_cons_zero, List.set_cons_succ] at h)
    | (refine St.at h 1 _ rfl rfl rfl (fun w hh => ?_); clear h; have h := hh; clear hh; simp only [List.set_cons_zero, List.set_cons_succ] at h)
    | (refine St.at h 2 _ rfl rfl rfl (fun w hh => ?_); clear h; have h := hh; clear hh; simp only [List.set_cons_zero, List.set_cons_succ] at h)
    | (refine CallR.of (known_1 _ h) ?_; rintro _ w ⟨rfl, h⟩)
    | refine ⟨_, h.lda 0 _ rfl rfl, ?_⟩
    | refine ⟨_, _, _, h.lda 0 _ rfl rfl, ?_⟩
    | refine ⟨h.lda 0 _ rfl rfl, ?_⟩
    | refine ⟨_, h.lda 1 _ rfl rfl, ?_⟩
    | refine ⟨_, _, _, h.lda 1 _ rfl rfl, ?_⟩
    | refine ⟨h.lda 1 _ rfl rfl, ?_⟩
    | refine ⟨_, h.lda 2 _ rfl rfl, ?_⟩
    | refine ⟨_, _, _, h.lda 2 _ rfl rfl, ?_⟩
    | refine ⟨h.lda 2 _ rfl rfl, ?_⟩
    | exact h.lda 0 _ rfl rfl
    | exact h.lda 1 _ rfl rfl
    | exact h.lda 2 _ rfl rfl
    | refine ⟨_, rfl, ?_⟩
    | refine ⟨_, _, rfl, ?_⟩
    | refine ⟨_, _, _, rfl, ?_⟩
    | refine ⟨_, _, _, _, _, _, _, _, _, _, _, _, rfl, ?_⟩
    | refine ⟨_, _, _, _, _, _, _, _, _, _, _, _, _, rfl, ?_⟩
    | refine ctt rfl ?_
    | refine cff rfl ?_
    | refine Meet.dup ?_
    | intro j
    | rw [ws]
    | simp only [ws, add_mk]
    | refine And.intro ?_ ?_)
  repeat' (first
    | (refine New.at h (fun b w hh => ?_); clear h; have h := hh; clear hh)
    | (refine Drew.of h (fun w hh => ?_); clear h; have h := hh; clear hh)
    | (refine St.at h 0 _ rfl rfl rfl (fun w hh => ?_); clear h; have h := hh; clear hh; simp only [List.set_cons_zero, List.set_cons_succ] at h)
    | (refine St.at h 1 _ rfl rfl rfl (fun w hh => ?_); clear h; have h := hh; clear hh; simp only [List.set_cons_zero, List.set_cons_succ] at h)
    | (refine St.at h 2 _ rfl rfl rfl (fun w hh => ?_); clear h; have h := hh; clear hh; simp only [List.set_cons_zero, List.set_cons_succ] at h)
    | (refine CallR.of (Add_sum _ _ _ _ _ _ _ (by decide) (by decide) (by decide) h) ?_; rintro _ w ⟨rfl, h⟩)
    | refine ⟨_, h.lda 0 _ rfl rfl, ?_⟩
    | refine ⟨_, _, _, h.lda 0 _ rfl rfl, ?_⟩
    | refine ⟨h.lda 0 _ rfl rfl, ?_⟩
    | refine ⟨_, h.lda 1 _ rfl rfl, ?_⟩
    | refine ⟨_, _, _, h.lda 1 _ rfl rfl, ?_⟩
    | refine ⟨h.lda 1 _ rfl rfl, ?_⟩
    | refine ⟨_, h.lda 2 _ rfl rfl, ?_⟩
    | refine ⟨_, _, _, h.lda 2 _ rfl rfl, ?_⟩
    | refine ⟨h.lda 2 _ rfl rfl, ?_⟩
    | exact h.lda 0 _ rfl rfl
    | exact h.lda 1 _ rfl rfl
    | exact h.lda 2 _ rfl rfl
    | refine ⟨_, rfl, ?_⟩
    | refine ⟨_, _, rfl, ?_⟩
    | refine ⟨_, _, _, rfl, ?_⟩
    | refine ⟨_, _, _, _, _, _, _, _, _, _, _, _, rfl, ?_⟩
    | refine ⟨_, _, _, _, _, _, _, _, _, _, _, _, _, rfl, ?_⟩
    | refine ctt rfl ?_
    | refine cff rfl ?_
    | refine Meet.dup ?_
    | intro j
    | rw [ws]
    | simp only [ws, add_mk]
    | refine And.intro ?_ ?_)
  repeat' (first
    | (refine New.at h (fun b w hh => ?_); clear h; have h := hh; clear hh)
    | (refine Drew.of h (fun w hh => ?_); clear h; have h := hh; clear hh)
    | (refine St.at h 0 _ rfl rfl rfl (fun w hh => ?_); clear h; have h := hh; clear hh; simp only [List.set_cons_zero, List.set_cons_succ] at h)
    | (refine St.at h 1 _ rfl rfl rfl (fun w hh => ?_); clear h; have h := hh; clear hh; simp only [List.set_cons_zero, List.set_cons_succ] at h)
    | (refine St.at h 2 _ rfl rfl rfl (fun w hh => ?_); clear h; have h := hh; clear hh; simp only [List.set_cons_zero, List.set_cons_succ] at h)
    | (refine CallR.of (Value_num _ _ _ _ _ _ (by decide) h) ?_; rintro _ w ⟨rfl, h⟩)
    | refine ⟨_, h.lda 0 _ rfl rfl, ?_⟩
    | refine ⟨_, _, _, h.lda 0 _ rfl rfl, ?_⟩
    | refine ⟨h.lda 0 _ rfl rfl, ?_⟩
    | refine ⟨_, h.lda 1 _ rfl rfl, ?_⟩
    | refine ⟨_, _, _, h.lda 1 _ rfl rfl, ?_⟩
    | refine ⟨h.lda 1 _ rfl rfl, ?_⟩
    | refine ⟨_, h.lda 2 _ rfl rfl, ?_⟩
    | refine ⟨_, _, _, h.lda 2 _ rfl rfl, ?_⟩
    | refine ⟨h.lda 2 _ rfl rfl, ?_⟩
    | exact h.lda 0 _ rfl rfl
    | exact h.lda 1 _ rfl rfl
    | exact h.lda 2 _ rfl rfl
    | refine ⟨_, rfl, ?_⟩
    | refine ⟨_, _, rfl, ?_⟩
    | refine ⟨_, _, _, rfl, ?_⟩
    | refine ⟨_, _, _, _, _, _, _, _, _, _, _, _, rfl, ?_⟩
    | refine ⟨_, _, _, _, _, _, _, _, _, _, _, _, _, rfl, ?_⟩
    | refine ctt rfl ?_
    | refine cff rfl ?_
    | refine Meet.dup ?_
    | intro j
    | rw [ws]
    | simp only [ws, add_mk]
    | refine And.intro ?_ ?_)
  repeat' (first
    | (refine New.at h (fun b w hh => ?_); clear h; have h := hh; clear hh)
    | (refine Drew.of h (fun w hh => ?_); clear h; have h := hh; clear hh)
    | (refine St.at h 0 _ rfl rfl rfl (fun w hh => ?_); clear h; have h := hh; clear hh; simp only [List.set_cons_zero, List.set_cons_succ] at h)
    | (refine St.at h 1 _ rfl rfl rfl (fun w hh => ?_); clear h; have h := hh; clear hh; simp only [List.set_cons_zero, List.set_cons_succ] at h)
    | (refine St.at h 2 _ rfl rfl rfl (fun w hh => ?_); clear h; have h := hh; clear hh; simp only [List.set_cons_zero, List.set_cons_succ] at h)
    | (refine CallR.of (Kind_of _ 0 (by decide) h) ?_; rintro _ w ⟨rfl, h⟩)
    | refine ⟨_, h.lda 0 _ rfl rfl, ?_⟩
    | refine ⟨_, _, _, h.lda 0 _ rfl rfl, ?_⟩
    | refine ⟨h.lda 0 _ rfl rfl, ?_⟩
    | refine ⟨_, h.lda 1 _ rfl rfl, ?_⟩
    | refine ⟨_, _, _, h.lda 1 _ rfl rfl, ?_⟩
    | refine ⟨h.lda 1 _ rfl rfl, ?_⟩
    | refine ⟨_, h.lda 2 _ rfl rfl, ?_⟩
    | refine ⟨_, _, _, h.lda 2 _ rfl rfl, ?_⟩
    | refine ⟨h.lda 2 _ rfl rfl, ?_⟩
    | exact h.lda 0 _ rfl rfl
    | exact h.lda 1 _ rfl rfl
    | exact h.lda 2 _ rfl rfl
    | refine ⟨_, rfl, ?_⟩
    | refine ⟨_, _, rfl, ?_⟩
    | refine ⟨_, _, _, rfl, ?_⟩
    | refine ⟨_, _, _, _, _, _, _, _, _, _, _, _, rfl, ?_⟩
    | refine ⟨_, _, _, _, _, _, _, _, _, _, _, _, _, rfl, ?_⟩
    | refine ctt rfl ?_
    | refine cff rfl ?_
    | refine Meet.dup ?_
    | intro j
    | rw [ws]
    | simp only [ws, add_mk]
    | refine And.intro ?_ ?_)
  exact Ret.mk ⟨rfl, _, h⟩

theorem known_s7 {X : Bool × Int → World → Prop} {b bi : Nat} (hX : ∀ s w, kBody bi b (Ret fun v w' => v = .bool true ∧ ∃ A, Holds G w' A) X s w → X s w) (s8 : ∀ {w : World}, Holds G w (all (blk b t_string [.string ⟨#[36, 115, 117, 109]⟩, .string ⟨#[36, 109, 105, 110]⟩, .string ⟨#[36, 109, 97, 120]⟩, .string ⟨#[36, 102, 105, 114, 115, 116]⟩, .string ⟨#[36, 108, 97, 115, 116]⟩, .string ⟨#[36, 112, 117, 115, 104]⟩, .string ⟨#[36, 97, 100, 100, 84, 111, 83, 101, 116]⟩, .string ⟨#[36, 99, 111, 117, 110, 116]⟩] :: blk bi t_api_Value [.int .i64 0, .int .i64 0, .string em, .slice none 0 0, .slice none 0 0, .slice none 0 0, .int .i64 2, .int .i64 0, .string em, .slice none 0 0, .slice none 0 0, .slice none 0 0, .int .i64 4, .int .i64 3, .string em, .slice none 0 0, .slice none 0 0, .slice none 0 0, .int .i64 3, .int .i64 3, .string em, .slice none 0 0, .slice none 0 0, .slice none 0 0, .int .i64 0, .int .i64 0, .string em, .slice none 0 0, .slice none 0 0, .slice none 0 0] :: L)) → X (false, 8) w) : ∀ {w : World}, Holds G w (all (blk b t_string [.string ⟨#[36, 115, 117, 109]⟩, .string ⟨#[36, 109, 105, 110]⟩, .string ⟨#[36, 109, 97, 120]⟩, .string ⟨#[36, 102, 105, 114, 115, 116]⟩, .string ⟨#[36, 108, 97, 115, 116]⟩, .string ⟨#[36, 112, 117, 115, 104]⟩, .string ⟨#[36, 97, 100, 100, 84, 111, 83, 101, 116]⟩, .string ⟨#[36, 99, 111, 117, 110, 116]⟩] :: blk bi t_api_Value [.int .i64 0, .int .i64 0, .string em, .slice none 0 0, .slice none 0 0, .slice none 0 0, .int .i64 2, .int .i64 0, .string em, .slice none 0 0, .slice none 0 0, .slice none 0 0, .int .i64 4, .int .i64 3, .string em, .slice none 0 0, .slice none 0 0, .slice none 0 0, .int .i64 3, .int .i64 3, .string em, .slice none 0 0, .slice none 0 0, .slice none 0 0, .int .i64 0, .int .i64 0, .string em, .slice none 0 0, .slice none 0 0, .slice none 0 0] :: L)) → X (false, 7) w := by
  intro w h
  refine hX _ _ ?_
  unfold kBody
  dsimp only
  repeat' (first
    | (refine New.at h (fun b w hh => ?_); clear h; have h := hh; clear hh)
    | (refine Drew.of h (fun w hh => ?_); clear h; have h := hh; clear hh)
    | (refine St.at h 0 _ rfl rfl rfl (fun w hh => ?_); clear h; have h := hh; clear hh; simp only [List.set_cons_zero, List.set_cons_succ] at h)
    | (refine St.at h 1 _ rfl rfl rfl (fun w hh => ?_); clear h; have h := hh; clear hh; simp only [List.set_cons_zero, List.set_cons_succ] at h)
    | (refine St.at h 2 _ rfl rfl rfl (fun w hh => ?_); clear h; have h := hh; clear hh; simp only [List.set_cons_zero, List.set_cons_succ] at h)
    | refine ⟨⟨by decide, by decide⟩, ?_⟩
    | (refine CallR.of (Kind_of _ 8 (by decide) h) ?_; rintro _ w ⟨rfl, h⟩)
    | (refine CallR.of (New_count h) ?_; rintro _ w ⟨s, rfl, h⟩)
    | (refine CallR.of (Value_count _ _ _ _ _ _ h) ?_; rintro _ w ⟨rfl, h⟩)
    | refine ⟨_, h.lda 0 _ rfl rfl, ?_⟩
    | refine ⟨_, _, _, h.lda 0 _ rfl rfl, ?_⟩
    | refine ⟨h.lda 0 _ rfl rfl, ?_⟩
    | refine ⟨_, h.lda 1 _ rfl rfl, ?_⟩
    | refine ⟨_, _, _, h.lda 1 _ rfl rfl, ?_⟩
    | refine ⟨h.lda 1 _ rfl rfl, ?_⟩
    | refine ⟨_, h.lda 2 _ rfl rfl, ?_⟩
    | refine ⟨_, _, _, h.lda 2 _ rfl rfl, ?_⟩
    | refine ⟨h.lda 2 _ rfl rfl, ?_⟩
    | exact h.lda 0 _ rfl rfl
    | exact h.lda 1 _ rfl rfl
    | exact h.lda 2 _ rfl rfl
    | refine ⟨_, rfl, ?_⟩
    | refine ⟨_, _, rfl, ?_⟩
    | refine ⟨_, _, _, rfl, ?_⟩
    | refine ⟨_, _, _, _, _, _, _, _, _, _, _, _, rfl, ?_⟩
    | refine ⟨_, _, _, _, _, _, _, _, _, _, _, _, _, rfl, ?_⟩
    | refine ctt rfl ?_
    | refine cff rfl ?_
    | refine Meet.dup ?_
    | intro j
    | rw [ws]
    | simp only [ws, add_mk]
    | refine And.intro ?_ ?_)
  replace h := h.bring 1 rfl
  simp only [List.eraseIdx_cons_zero, List.eraseIdx_cons_succ] at h
  refine Loop.start (fun Y hY => ?_)
  refine hY _ _ ?_
  dsimp only
  repeat' (first
    | (refine New.at h (fun b w hh => ?_); clear h; have h := hh; clear hh)
    | (refine Drew.of h (fun w hh => ?_); clear h; have h := hh; clear hh)
    | (refine St.at h 0 _ rfl rfl rfl (fun w hh => ?_); clear h; have h := hh; clear hh; simp only [List.set_cons_zero, List.set_cons_succ] at h)
    | (refine St.at h 1 _ rfl rfl rfl (fun w hh => ?_); clear h; have h := hh; clear hh; simp only [List.set_cons_zero, List.set_cons_succ] at h)
    | (refine St.at h 2 _ rfl rfl rfl (fun w hh => ?_); clear h; have h := hh; clear hh; simp only [List.set_cons_zero, List.set_cons_succ] at h)
    | (refine St.at h 3 _ rfl rfl rfl (fun w hh => ?_); clear h; have h := hh; clear hh; simp only [List.set_cons_zero, List.set_cons_succ] at h)
    | (refine St.at h 4 _ rfl rfl rfl (fun w hh => ?_); clear h; have h := hh; clear hh; simp only [List.set_cons_zero, List.set_cons_succ] at h)
    | refine ⟨⟨by decide, by decide⟩, ?_⟩
    | (refine CallR.of (Add_count _ _ _ _ _ _ _ _ _ _ _ _ _ _ _ _ _ _ h) ?_; rintro _ w ⟨rfl, h⟩)
    | refine ⟨_, h.lda 0 _ rfl rfl, ?_⟩
    | refine ⟨_, _, _, h.lda 0 _ rfl rfl, ?_⟩
    | refine ⟨h.lda 0 _ rfl rfl, ?_⟩
    | refine ⟨_, h.lda 1 _ rfl rfl, ?_⟩
    | refine ⟨_, _, _, h.lda 1 _ rfl rfl, ?_⟩
    | refine ⟨h.lda 1 _ rfl rfl, ?_⟩
    | refine ⟨_, h.lda 2 _ rfl rfl, ?_⟩
    | refine ⟨_, _, _, h.lda 2 _ rfl rfl, ?_⟩
    | refine ⟨h.lda 2 _ rfl rfl, ?_⟩
    | refine ⟨_, h.lda 3 _ rfl rfl, ?_⟩
    | refine ⟨_, _, _, h.lda 3 _ rfl rfl, ?_⟩
    | refine ⟨h.lda 3 _ rfl rfl, ?_⟩
    | refine ⟨_, h.lda 4 _ rfl rfl, ?_⟩
    | refine ⟨_, _, _, h.lda 4 _ rfl rfl, ?_⟩
    | refine ⟨h.lda 4 _ rfl rfl, ?_⟩
    | exact h.lda 0 _ rfl rfl
    | exact h.lda 1 _ rfl rfl
    | exact h.lda 2 _ rfl rfl
    | exact h.lda 3 _ rfl rfl
    | exact h.lda 4 _ rfl rfl
    | refine ⟨_, rfl, ?_⟩
    | refine ⟨_, _, rfl, ?_⟩
    | refine ⟨_, _, _, rfl, ?_⟩
    | refine ⟨_, _, _, _, _, _, _, _, _, _, _, _, rfl, ?_⟩
    | refine ⟨_, _, _, _, _, _, _, _, _, _, _, _, _, rfl, ?_⟩
    | refine ctt rfl ?_
    | refine cff rfl ?_
    | refine Meet.dup ?_
    | intro j
    | rw [ws]
    | simp only [ws, add_mk]
    | refine And.intro ?_ ?_)
  refine hY _ _ ?_
  dsimp only
  simp only [w1, w2, w3, w4, w5, w6, w7, w8, w03, w33, k1, k2, c1]
  (try simp only [w1, w2, w3, w4, w5, w6, w7, w8, w03, w33, k1, k2, c1] at h)
  repeat' (first
    | (refine New.at h (fun b w hh => ?_); clear h; have h := hh; clear hh)
    | (refine Drew.of h (fun w hh => ?_); clear h; have h := hh; clear hh)
    | (refine St.at h 0 _ rfl rfl rfl (fun w hh => ?_); clear h; have h := hh; clear hh; simp only [List.set_cons_zero, List.set_cons_succ] at h)
    | (refine St.at h 1 _ rfl rfl rfl (fun w hh => ?_); clear h; have h := hh; clear hh; simp only [List.set_cons_zero, List.set_cons_succ] at h)
    | (refine St.at h 2 _ rfl rfl rfl (fun w hh => ?_); clear h; have h := hh; clear hh; simp only [List.set_cons_zero, List.set_cons_succ] at h)
    | (refine St.at h 3 _ rfl rfl rfl (fun w hh => ?_); clear h; have h := hh; clear hh; simp only [List.set_cons_zero, List.set_cons_succ] at h)
    | (refine St.at h 4 _ rfl rfl rfl (fun w hh => ?_); clear h; have h := hh; clear hh; simp only [List.set_cons_zero, List.set_cons_succ] at h)
    | refine ⟨⟨by decide, by decide⟩, ?_⟩
    | (refine CallR.of (Add_count _ _ _ _ _ _ _ _ _ _ _ _ _ _ _ _ _ _ h) ?_; rintro _ w ⟨rfl, h⟩)
    | refine ⟨_, h.lda 0 _ rfl rfl, ?_⟩
    | refine ⟨_, _, _, h.lda 0 _ rfl rfl, ?_⟩
    | refine ⟨h.lda 0 _ rfl rfl, ?_⟩
    | refine ⟨_, h.lda 1 _ rfl rfl, ?_⟩
    | refine ⟨_, _, _, h.lda 1 _ rfl rfl, ?_⟩
    | refine ⟨h.lda 1 _ rfl rfl, ?_⟩
    | refine ⟨_, h.lda 2 _ rfl rfl, ?_⟩
    | refine ⟨_, _, _, h.lda 2 _ rfl rfl, ?_⟩
    | refine ⟨h.lda 2 _ rfl rfl, ?_⟩
    | refine ⟨_, h.lda 3 _ rfl rfl, ?_⟩
    | refine ⟨_, _, _, h.lda 3 _ rfl rfl, ?_⟩
    | refine ⟨h.lda 3 _ rfl rfl, ?_⟩
    | refine ⟨_, h.lda 4 _ rfl rfl, ?_⟩
    | refine ⟨_, _, _, h.lda 4 _ rfl rfl, ?_⟩
    | refine ⟨h.lda 4 _ rfl rfl, ?_⟩
    | exact h.lda 0 _ rfl rfl
    | exact h.lda 1 _ rfl rfl
    | exact h.lda 2 _ rfl rfl
    | exact h.lda 3 _ rfl rfl
    | exact h.lda 4 _ rfl rfl
    | refine ⟨_, rfl, ?_⟩
    | refine ⟨_, _, rfl, ?_⟩
    | refine ⟨_, _, _, rfl, ?_⟩
    | refine ⟨_, _, _, _, _, _, _, _, _, _, _, _, rfl, ?_⟩
    | refine ⟨_, _, _, _, _, _, _, _, _, _, _, _, _, rfl, ?_⟩
    | refine ctt rfl ?_
    | refine cff rfl ?_
    | refine Meet.dup ?_
    | intro j
    | rw [ws]
    | simp only [ws, add_mk]
    | refine And.intro ?_ ?_)
  refine hY _ _ ?_
  dsimp only
  simp only [w1, w2, w3, w4, w5, w6, w7, w8, w03, w33, k1, k2, c1]
  (try simp only [w1, w2, w3, w4, w5, w6, w7, w8, w03, w33, k1, k2, c1] at h)
  repeat' (first
    | (refine New.at h (fun b w hh => ?_); clear h; have h := hh; clear hh)
    | (refine Drew.of h (fun w hh => ?_); clear h; have h := hh; clear hh)
    | (refine St.at h 0 _ rfl rfl rfl (fun w hh => ?_); clear h; have h := hh; clear hh; simp only [List.set_cons_zero, List.set_cons_succ] at h)
    | (refine St.at h 1 _ rfl rfl rfl (fun w hh => ?_); clear h; have h := hh; clear hh; simp only [List.set_cons_zero, List.set_cons_succ] at h)
    | (refine St.at h 2 _ rfl rfl rfl (fun w hh => ?_); clear h; have h := hh; clear hh; simp only [List.set_cons_zero, List.set_cons_succ] at h)
    | (refine St.at h 3 _ rfl rfl rfl (fun w hh => ?_); clear h; have h := hh; clear hh; simp only [List.set_cons_zero, List.set_cons_succ] at h)
    | (refine St.at h 4 _ rfl rfl rfl (fun w hh => ?_); clear h; have h := hh; clear hh; simp only [List.set_cons_zero, List.set_cons_succ] at h)
    | refine ⟨⟨by decide, by decide⟩, ?_⟩
    | (refine CallR.of (Add_count _ _ _ _ _ _ _ _ _ _ _ _ _ _ _ _ _ _ h) ?_; rintro _ w ⟨rfl, h⟩)
    | refine ⟨_, h.lda 0 _ rfl rfl, ?_⟩
    | refine ⟨_, _, _, h.lda 0 _ rfl rfl, ?_⟩
    | refine ⟨h.lda 0 _ rfl rfl, ?_⟩
    | refine ⟨_, h.lda 1 _ rfl rfl, ?_⟩
    | refine ⟨_, _, _, h.lda 1 _ rfl rfl, ?_⟩
    | refine ⟨h.lda 1 _ rfl rfl, ?_⟩
    | refine ⟨_, h.lda 2 _ rfl rfl, ?_⟩
    | refine ⟨_, _, _, h.lda 2 _ rfl rfl, ?_⟩
    | refine ⟨h.lda 2 _ rfl rfl, ?_⟩
    | refine ⟨_, h.lda 3 _ rfl rfl, ?_⟩
    | refine ⟨_, _, _, h.lda 3 _ rfl rfl, ?_⟩
    | refine ⟨h.lda 3 _ rfl rfl, ?_⟩
    | refine ⟨_, h.lda 4 _ rfl rfl, ?_⟩
    | refine ⟨_, _, _, h.lda 4 _ rfl rfl, ?_⟩
    | refine ⟨h.lda 4 _ rfl rfl, ?_⟩
    | exact h.lda 0 _ rfl rfl
    | exact h.lda 1 _ rfl rfl
    | exact h.lda 2 _ rfl rfl
    | exact h.lda 3 _ rfl rfl
    | exact h.lda 4 _ rfl rfl
    | refine ⟨_, rfl, ?_⟩
    | refine ⟨_, _, rfl, ?_⟩
    | refine ⟨_, _, _, rfl, ?_⟩
    | refine ⟨_, _, _, _, _, _, _, _, _, _, _, _, rfl, ?_⟩
    | refine ⟨_, _, _, _, _, _, _, _, _, _, _, _, _, rfl, ?_⟩
    | refine ctt rfl ?_
    | refine cff rfl ?_
    | refine Meet.dup ?_
    | intro j
    | rw [ws]
    | simp only [ws, add_mk]
    | refine And.intro ?_ ?_)
  refine hY _ _ ?_
  dsimp only
  simp only [w1, w2, w3, w4, w5, w6, w7, w8, w03, w33, k1, k2, c1]
  (try simp only [w1, w2, w3, w4, w5, w6, w7, w8, w03, w33, k1, k2, c1] at h)
  repeat' (first
    | (refine New.at h (fun b w hh => ?_); clear h; have h := hh; clear hh)
    | (refine Drew.of h (fun w hh => ?_); clear h; have h := hh; clear hh)
    | (refine St.at h 0 _ rfl rfl rfl (fun w hh => ?_); clear h; have h := hh; clear hh; simp only [List.set_cons_zero, List.set_cons_succ] at h)
    | (refine St.at h 1 _ rfl rfl rfl (fun w hh => ?_); clear h; have h := hh; clear hh; simp only [List.set_cons_zero, List.set_cons_succ] at h)
    | (refine St.at h 2 _ rfl rfl rfl (fun w hh => ?_); clear h; have h := hh; clear hh; simp only [List.set_cons_zero, List.set_cons_succ] at h)
    | (refine St.at h 3 _ rfl rfl rfl (fun w hh => ?_); clear h; have h := hh; clear hh; simp only [List.set_cons_zero, List.set_cons_succ] at h)
    | (refine St.at h 4 _ rfl rfl rfl (fun w hh => ?_); clear h; have h := hh; clear hh; simp only [List.set_cons_zero, List.set_cons_succ] at h)
    | refine ⟨⟨by decide, by decide⟩, ?_⟩
    | (refine CallR.of (Add_count _ _ _ _ _ _ _ _ _ _ _ _ _ _ _ _ _ _ h) ?_; rintro _ w ⟨rfl, h⟩)
    | refine ⟨_, h.lda 0 _ rfl rfl, ?_⟩
    | refine ⟨_, _, _, h.lda 0 _ rfl rfl, ?_⟩
    | refine ⟨h.lda 0 _ rfl rfl, ?_⟩
    | refine ⟨_, h.lda 1 _ rfl rfl, ?_⟩
    | refine ⟨_, _, _, h.lda 1 _ rfl rfl, ?_⟩
    | refine ⟨h.lda 1 _ rfl rfl, ?_⟩
    | refine ⟨_, h.lda 2 _ rfl rfl, ?_⟩
    | refine ⟨_, _, _, h.lda 2 _ rfl rfl, ?_⟩
    | refine ⟨h.lda 2 _ rfl rfl, ?_⟩
    | refine ⟨_, h.lda 3 _ rfl rfl, ?_⟩
    | refine ⟨_, _, _, h.lda 3 _ rfl rfl, ?_⟩
    | refine ⟨h.lda 3 _ rfl rfl, ?_⟩
    | refine ⟨_, h.lda 4 _ rfl rfl, ?_⟩
    | refine ⟨_, _, _, h.lda 4 _ rfl rfl, ?_⟩
    | refine ⟨h.lda 4 _ rfl rfl, ?_⟩
    | exact h.lda 0 _ rfl rfl
    | exact h.lda 1 _ rfl rfl
    | exact h.lda 2 _ rfl rfl
    | exact h.lda 3 _ rfl rfl
    | exact h.lda 4 _ rfl rfl
    | refine ⟨_, rfl, ?_⟩
    | refine ⟨_, _, rfl, ?_⟩
    | refine ⟨_, _, _, rfl, ?_⟩
    | refine ⟨_, _, _, _, _, _, _, _, _, _, _, _, rfl, ?_⟩
    | refine ⟨_, _, _, _, _, _, _, _, _, _, _, _, _, rfl, ?_⟩
    | refine ctt rfl ?_
    | refine cff rfl ?_
    | refine Meet.dup ?_
    | intro j
    | rw [ws]
    | simp only [ws, add_mk]
    | refine And.intro ?_ ?_)
  refine hY _ _ ?_
  dsimp only
  simp only [w1, w2, w3, w4, w5, w6, w7, w8, w03, w33, k1, k2, c1]
  (try simp only [w1, w2, w3, w4, w5, w6, w7, w8, w03, w33, k1, k2, c1] at h)
  repeat' (first
    | (refine New.at h (fun b w hh => ?_); clear h; have h := hh; clear hh)
    | (refine Drew.of h (fun w hh => ?_); clear h; have h := hh; clear hh)
    | (refine St.at h 0 _ rfl rfl rfl (fun w hh => ?_); clear h; have h := hh; clear hh; simp only [List.set_cons_zero, List.set_cons_succ] at h)
    | (refine St.at h 1 _ rfl rfl rfl (fun w hh => ?_); clear h; have h := hh; clear hh; simp only [List.set_cons_zero, List.set_cons_succ] at h)
    | (refine St.at h 2 _ rfl rfl rfl (fun w hh => ?_); clear h; have h := hh; clear hh; simp only [List.set_cons_zero, List.set_cons_succ] at h)
    | (refine St.at h 3 _ rfl rfl rfl (fun w hh => ?_); clear h; have h := hh; clear hh; simp only [List.set_cons_zero, List.set_cons_succ] at h)
    | (refine St.at h 4 _ rfl rfl rfl (fun w hh => ?_); clear h; have h := hh; clear hh; simp only [List.set_cons_zero, List.set_cons_succ] at h)
    | refine ⟨⟨by decide, by decide⟩, ?_⟩
    | (refine CallR.of (Add_count _ _ _ _ _ _ _ _ _ _ _ _ _ _ _ _ _ _ h) ?_; rintro _ w ⟨rfl, h⟩)
    | refine ⟨_, h.lda 0 _ rfl rfl, ?_⟩
    | refine ⟨_, _, _, h.lda 0 _ rfl rfl, ?_⟩
    | refine ⟨h.lda 0 _ rfl rfl, ?_⟩
    | refine ⟨_, h.lda 1 _ rfl rfl, ?_⟩
    | refine ⟨_, _, _, h.lda 1 _ rfl rfl, ?_⟩
    | refine ⟨h.lda 1 _ rfl rfl, ?_⟩
    | refine ⟨_, h.lda 2 _ rfl rfl, ?_⟩
    | refine ⟨_, _, _, h.lda 2 _ rfl rfl, ?_⟩
    | refine ⟨h.lda 2 _ rfl rfl, ?_⟩
    | refine ⟨_, h.lda 3 _ rfl rfl, ?_⟩
    | refine ⟨_, _, _, h.lda 3 _ rfl rfl, ?_⟩
    | refine ⟨h.lda 3 _ rfl rfl, ?_⟩
    | refine ⟨_, h.lda 4 _ rfl rfl, ?_⟩
    | refine ⟨_, _, _, h.lda 4 _ rfl rfl, ?_⟩
    | refine ⟨h.lda 4 _ rfl rfl, ?_⟩
    | exact h.lda 0 _ rfl rfl
    | exact h.lda 1 _ rfl rfl
    | exact h.lda 2 _ rfl rfl
    | exact h.lda 3 _ rfl rfl
    | exact h.lda 4 _ rfl rfl
    | refine ⟨_, rfl, ?_⟩
    | refine ⟨_, _, rfl, ?_⟩
    | refine ⟨_, _, _, rfl, ?_⟩
    | refine ⟨_, _, _, _, _, _, _, _, _, _, _, _, rfl, ?_⟩
    | refine ⟨_, _, _, _, _, _, _, _, _, _, _, _, _, rfl, ?_⟩
    | refine ctt rfl ?_
    | refine cff rfl ?_
    | refine Meet.dup ?_
    | intro j
    | rw [ws]
    | simp only [ws, add_mk]
    | refine And.intro ?_ ?_)
  refine hY _ _ ?_
  dsimp only
  simp only [w1, w2, w3, w4, w5, w6, w7, w8, w03, w33, k1, k2, c1]
  (try simp only [w1, w2, w3, w4, w5, w6, w7, w8, w03, w33, k1, k2, c1] at h)
  repeat' (first
    | (refine New.at h (fun b w hh => ?_); clear h; have h := hh; clear hh)
    | (refine Drew.of h (fun w hh => ?_); clear h; have h := hh; clear hh)
    | (refine St.at h 0 _ rfl rfl rfl (fun w hh => ?_); clear h; have h := hh; clear hh; simp only [List.set_cons_zero, List.set_cons_succ] at h)
    | (refine St.at h 1 _ rfl rfl rfl (fun w hh => ?_); clear h; have h := hh; clear hh; simp only [List.set_cons_zero, List.set_cons_succ] at h)
    | (refine St.at h 2 _ rfl rfl rfl (fun w hh => ?_); clear h; have h := hh; clear hh; simp only [List.set_cons_zero, List.set_cons_succ] at h)
    | refine ⟨⟨by decide, by decide⟩, ?_⟩
    | (refine CallR.of (Value_count _ _ _ _ _ _ h) ?_; rintro _ w ⟨rfl, h⟩)
    | refine ⟨_, h.lda 0 _ rfl rfl, ?_⟩
    | refine ⟨_, _, _, h.lda 0 _ rfl rfl, ?_⟩
    | refine ⟨h.lda 0 _ rfl rfl, ?_⟩
    | refine ⟨_, h.lda 1 _ rfl rfl, ?_⟩
    | refine ⟨_, _, _, h.lda 1 _ rfl rfl, ?_⟩
    | refine ⟨h.lda 1 _ rfl rfl, ?_⟩
    | refine ⟨_, h.lda 2 _ rfl rfl, ?_⟩
    | refine ⟨_, _, _, h.lda 2 _ rfl rfl, ?_⟩
    | refine ⟨h.lda 2 _ rfl rfl, ?_⟩
    | exact h.lda 0 _ rfl rfl
    | exact h.lda 1 _ rfl rfl
    | exact h.lda 2 _ rfl rfl
    | refine ⟨_, rfl, ?_⟩
    | refine ⟨_, _, rfl, ?_⟩
    | refine ⟨_, _, _, rfl, ?_⟩
    | refine ⟨_, _, _, _, _, _, _, _, _, _, _, _, rfl, ?_⟩
    | refine ⟨_, _, _, _, _, _, _, _, _, _, _, _, _, rfl, ?_⟩
    | refine ctt rfl ?_
    | refine cff rfl ?_
    | refine Meet.dup ?_
    | intro j
    | rw [ws]
    | simp only [ws, add_mk]
    | refine And.intro ?_ ?_)
  exact s8 h.tail.tail.tail

theorem known_s6 {X : Bool × Int → World → Prop} {b bi : Nat} (hX : ∀ s w, kBody bi b (Ret fun v w' => v = .bool true ∧ ∃ A, Holds G w' A) X s w → X s w) (s7 : ∀ {w : World}, Holds G w (all (blk b t_string [.string ⟨#[36, 115, 117, 109]⟩, .string ⟨#[36, 109, 105, 110]⟩, .string ⟨#[36, 109, 97, 120]⟩, .string ⟨#[36, 102, 105, 114, 115, 116]⟩, .string ⟨#[36, 108, 97, 115, 116]⟩, .string ⟨#[36, 112, 117, 115, 104]⟩, .string ⟨#[36, 97, 100, 100, 84, 111, 83, 101, 116]⟩, .string ⟨#[36, 99, 111, 117, 110, 116]⟩] :: blk bi t_api_Value [.int .i64 0, .int .i64 0, .string em, .slice none 0 0, .slice none 0 0, .slice none 0 0, .int .i64 2, .int .i64 0, .string em, .slice none 0 0, .slice none 0 0, .slice none 0 0, .int .i64 4, .int .i64 3, .string em, .slice none 0 0, .slice none 0 0, .slice none 0 0, .int .i64 3, .int .i64 3, .string em, .slice none 0 0, .slice none 0 0, .slice none 0 0, .int .i64 0, .int .i64 0, .string em, .slice none 0 0, .slice none 0 0, .slice none 0 0] :: L)) → X (false, 7) w) : ∀ {w : World}, Holds G w (all (blk b t_string [.string ⟨#[36, 115, 117, 109]⟩, .string ⟨#[36, 109, 105, 110]⟩, .string ⟨#[36, 109, 97, 120]⟩, .string ⟨#[36, 102, 105, 114, 115, 116]⟩, .string ⟨#[36, 108, 97, 115, 116]⟩, .string ⟨#[36, 112, 117, 115, 104]⟩, .string ⟨#[36, 97, 100, 100, 84, 111, 83, 101, 116]⟩, .string ⟨#[36, 99, 111, 117, 110, 116]⟩] :: blk bi t_api_Value [.int .i64 0, .int .i64 0, .string em, .slice none 0 0, .slice none 0 0, .slice none 0 0, .int .i64 2, .int .i64 0, .string em, .slice none 0 0, .slice none 0 0, .slice none 0 0, .int .i64 4, .int .i64 3, .string em, .slice none 0 0, .slice none 0 0, .slice none 0 0, .int .i64 3, .int .i64 3, .string em, .slice none 0 0, .slice none 0 0, .slice none 0 0, .int .i64 0, .int .i64 0, .string em, .slice none 0 0, .slice none 0 0, .slice none 0 0] :: L)) → X (false, 6) w := by
  intro w h
  refine hX _ _ ?_
  unfold kBody
  dsimp only
  repeat' (first
    | (refine New.at h (fun b w hh => ?_); clear h; have h := hh; clear hh)
    | (refine Drew.of h (fun w hh => ?_); clear h; have h := hh; clear hh)
    | (refine St.at h 0 _ rfl rfl rfl (fun w hh => ?_); clear h; have h := hh; clear hh; simp only [List.set_cons_zero, List.set_cons_succ] at h)
    | (refine St.at h 1 _ rfl rfl rfl (fun w hh => ?_); clear h; have h := hh; clear hh; simp only [List.set_cons_zero, List.set_cons_succ] at h)
    | (refine St.at h 2 _ rfl rfl rfl (fun w hh => ?_); clear h; have h := hh; clear hh; simp only [List.set_cons_zero, List.set_cons_succ] at h)
    | refine ⟨⟨by decide, by decide⟩, ?_⟩
    | (refine CallR.of (Kind_of _ 7 (by decide) h) ?_; rintro _ w ⟨rfl, h⟩)
    | (refine CallR.of (New_list 7 f_Paccum_State_set (.inr ⟨rfl, rfl⟩) h) ?_; rintro _ w ⟨s, rfl, h⟩)
    | (refine CallR.of (Value_nil _ _ _ _ h) ?_; rintro _ w ⟨rfl, h⟩)
    | refine ⟨_, h.lda 0 _ rfl rfl, ?_⟩
    | refine ⟨_, _, _, h.lda 0 _ rfl rfl, ?_⟩
    | refine ⟨h.lda 0 _ rfl rfl, ?_⟩
    | refine ⟨_, h.lda 1 _ rfl rfl, ?_⟩
    | refine ⟨_, _, _, h.lda 1 _ rfl rfl, ?_⟩
    | refine ⟨h.lda 1 _ rfl rfl, ?_⟩
    | refine ⟨_, h.lda 2 _ rfl rfl, ?_⟩
    | refine ⟨_, _, _, h.lda 2 _ rfl rfl, ?_⟩
    | refine ⟨h.lda 2 _ rfl rfl, ?_⟩
    | exact h.lda 0 _ rfl rfl
    | exact h.lda 1 _ rfl rfl
    | exact h.lda 2 _ rfl rfl
    | refine ⟨_, rfl, ?_⟩
    | refine ⟨_, _, rfl, ?_⟩
    | refine ⟨_, _, _, rfl, ?_⟩
    | refine ⟨_, _, _, _, _, _, _, _, _, _, _, _, rfl, ?_⟩
    | refine ⟨_, _, _, _, _, _, _, _, _, _, _, _, _, rfl, ?_⟩
    | refine ctt rfl ?_
    | refine cff rfl ?_
    | refine Meet.dup ?_
    | intro j
    | rw [ws]
    | simp only [ws, add_mk]
    | refine And.intro ?_ ?_)
  replace h := h.bring 1 rfl
  simp only [List.eraseIdx_cons_zero, List.eraseIdx_cons_succ] at h
  replace h : Holds G w (all (own t_api_Value 6 none 0 0 [] :: _)) := Holds.own_nil h
  replace h := h.bring 1 rfl
  simp only [List.eraseIdx_cons_zero, List.eraseIdx_cons_succ] at h
  refine Loop.start (fun Y hY => ?_)
  refine hY _ _ ?_
  dsimp only
  repeat' (first
    | (refine New.at h (fun b w hh => ?_); clear h; have h := hh; clear hh)
    | (refine Drew.of h (fun w hh => ?_); clear h; have h := hh; clear hh)
    | (refine St.at h 0 _ rfl rfl rfl (fun w hh => ?_); clear h; have h := hh; clear hh; simp only [List.set_cons_zero, List.set_cons_succ] at h)
    | (refine St.at h 1 _ rfl rfl rfl (fun w hh => ?_); clear h; have h := hh; clear hh; simp only [List.set_cons_zero, List.set_cons_succ] at h)
    | (refine St.at h 2 _ rfl rfl rfl (fun w hh => ?_); clear h; have h := hh; clear hh; simp only [List.set_cons_zero, List.set_cons_succ] at h)
    | (refine St.at h 3 _ rfl rfl rfl (fun w hh => ?_); clear h; have h := hh; clear hh; simp only [List.set_cons_zero, List.set_cons_succ] at h)
    | (refine St.at h 4 _ rfl rfl rfl (fun w hh => ?_); clear h; have h := hh; clear hh; simp only [List.set_cons_zero, List.set_cons_succ] at h)
    | refine ⟨⟨by decide, by decide⟩, ?_⟩
    | (refine CallR.of (Add_skip _ _ _ _ _ _ _ _ _ _ rfl (fun h => set_missing_0 _ _ _ _ h) h) ?_; rintro _ w ⟨rfl, h⟩)
    | refine ⟨_, h.lda 0 _ rfl rfl, ?_⟩
    | refine ⟨_, _, _, h.lda 0 _ rfl rfl, ?_⟩
    | refine ⟨h.lda 0 _ rfl rfl, ?_⟩
    | refine ⟨_, h.lda 1 _ rfl rfl, ?_⟩
    | refine ⟨_, _, _, h.lda 1 _ rfl rfl, ?_⟩
    | refine ⟨h.lda 1 _ rfl rfl, ?_⟩
    | refine ⟨_, h.lda 2 _ rfl rfl, ?_⟩
    | refine ⟨_, _, _, h.lda 2 _ rfl rfl, ?_⟩
    | refine ⟨h.lda 2 _ rfl rfl, ?_⟩
    | refine ⟨_, h.lda 3 _ rfl rfl, ?_⟩
    | refine ⟨_, _, _, h.lda 3 _ rfl rfl, ?_⟩
    | refine ⟨h.lda 3 _ rfl rfl, ?_⟩
    | refine ⟨_, h.lda 4 _ rfl rfl, ?_⟩
    | refine ⟨_, _, _, h.lda 4 _ rfl rfl, ?_⟩
    | refine ⟨h.lda 4 _ rfl rfl, ?_⟩
    | exact h.lda 0 _ rfl rfl
    | exact h.lda 1 _ rfl rfl
    | exact h.lda 2 _ rfl rfl
    | exact h.lda 3 _ rfl rfl
    | exact h.lda 4 _ rfl rfl
    | refine ⟨_, rfl, ?_⟩
    | refine ⟨_, _, rfl, ?_⟩
    | refine ⟨_, _, _, rfl, ?_⟩
    | refine ⟨_, _, _, _, _, _, _, _, _, _, _, _, rfl, ?_⟩
    | refine ⟨_, _, _, _, _, _, _, _, _, _, _, _, _, rfl, ?_⟩
    | refine ctt rfl ?_
    | refine cff rfl ?_
    | refine Meet.dup ?_
    | intro j
    | rw [ws]
    | simp only [ws, add_mk]
    | refine And.intro ?_ ?_)
  refine hY _ _ ?_
  dsimp only
  simp only [w1, w2, w3, w4, w5, w6, w7, w8, w03, w33, k1, k2, c1]
  (try simp only [w1, w2, w3, w4, w5, w6, w7, w8, w03, w33, k1, k2, c1] at h)
  repeat' (first
    | (refine New.at h (fun b w hh => ?_); clear h; have h := hh; clear hh)
    | (refine Drew.of h (fun w hh => ?_); clear h; have h := hh; clear hh)
    | (refine St.at h 0 _ rfl rfl rfl (fun w hh => ?_); clear h; have h := hh; clear hh; simp only [List.set_cons_zero, List.set_cons_succ] at h)
    | (refine St.at h 1 _ rfl rfl rfl (fun w hh => ?_); clear h; have h := hh; clear hh; simp only [List.set_cons_zero, List.set_cons_succ] at h)
    | (refine St.at h 2 _ rfl rfl rfl (fun w hh => ?_); clear h; have h := hh; clear hh; simp only [List.set_cons_zero, List.set_cons_succ] at h)
    | (refine St.at h 3 _ rfl rfl rfl (fun w hh => ?_); clear h; have h := hh; clear hh; simp only [List.set_cons_zero, List.set_cons_succ] at h)
    | (refine St.at h 4 _ rfl rfl rfl (fun w hh => ?_); clear h; have h := hh; clear hh; simp only [List.set_cons_zero, List.set_cons_succ] at h)
    | refine ⟨⟨by decide, by decide⟩, ?_⟩
    | (refine CallR.of (Add_list _ _ _ _ _ _ _ _ _ _ _ _ _ rfl (fun h => set_push_0 _ _ _ _ h) h) ?_; rintro _ w ⟨rfl, bb, oo, cc, h⟩)
    | refine ⟨_, h.lda 0 _ rfl rfl, ?_⟩
    | refine ⟨_, _, _, h.lda 0 _ rfl rfl, ?_⟩
    | refine ⟨h.lda 0 _ rfl rfl, ?_⟩
    | refine ⟨_, h.lda 1 _ rfl rfl, ?_⟩
    | refine ⟨_, _, _, h.lda 1 _ rfl rfl, ?_⟩
    | refine ⟨h.lda 1 _ rfl rfl, ?_⟩
    | refine ⟨_, h.lda 2 _ rfl rfl, ?_⟩
    | refine ⟨_, _, _, h.lda 2 _ rfl rfl, ?_⟩
    | refine ⟨h.lda 2 _ rfl rfl, ?_⟩
    | refine ⟨_, h.lda 3 _ rfl rfl, ?_⟩
    | refine ⟨_, _, _, h.lda 3 _ rfl rfl, ?_⟩
    | refine ⟨h.lda 3 _ rfl rfl, ?_⟩
    | refine ⟨_, h.lda 4 _ rfl rfl, ?_⟩
    | refine ⟨_, _, _, h.lda 4 _ rfl rfl, ?_⟩
    | refine ⟨h.lda 4 _ rfl rfl, ?_⟩
    | exact h.lda 0 _ rfl rfl
    | exact h.lda 1 _ rfl rfl
    | exact h.lda 2 _ rfl rfl
    | exact h.lda 3 _ rfl rfl
    | exact h.lda 4 _ rfl rfl
    | refine ⟨_, rfl, ?_⟩
    | refine ⟨_, _, rfl, ?_⟩
    | refine ⟨_, _, _, rfl, ?_⟩
    | refine ⟨_, _, _, _, _, _, _, _, _, _, _, _, rfl, ?_⟩
    | refine ⟨_, _, _, _, _, _, _, _, _, _, _, _, _, rfl, ?_⟩
    | refine ctt rfl ?_
    | refine cff rfl ?_
    | refine Meet.dup ?_
    | intro j
    | rw [ws]
    | simp only [ws, add_mk]
    | refine And.intro ?_ ?_)
  refine hY _ _ ?_
  dsimp only
  simp only [w1, w2, w3, w4, w5, w6, w7, w8, w03, w33, k1, k2, c1]
  (try simp only [w1, w2, w3, w4, w5, w6, w7, w8, w03, w33, k1, k2, c1] at h)
  repeat' (first
    | (refine New.at h (fun b w hh => ?_); clear h; have h := hh; clear hh)
    | (refine Drew.of h (fun w hh => ?_); clear h; have h := hh; clear hh)
    | (refine St.at h 0 _ rfl rfl rfl (fun w hh => ?_); clear h; have h := hh; clear hh; simp only [List.set_cons_zero, List.set_cons_succ] at h)
    | (refine St.at h 1 _ rfl rfl rfl (fun w hh => ?_); clear h; have h := hh; clear hh; simp only [List.set_cons_zero, List.set_cons_succ] at h)
    | (refine St.at h 2 _ rfl rfl rfl (fun w hh => ?_); clear h; have h := hh; clear hh; simp only [List.set_cons_zero, List.set_cons_succ] at h)
    | (refine St.at h 3 _ rfl rfl rfl (fun w hh => ?_); clear h; have h := hh; clear hh; simp only [List.set_cons_zero, List.set_cons_succ] at h)
    | (refine St.at h 4 _ rfl rfl rfl (fun w hh => ?_); clear h; have h := hh; clear hh; simp only [List.set_cons_zero, List.set_cons_succ] at h)
    | refine ⟨⟨by decide, by decide⟩, ?_⟩
    | (refine CallR.of (Add_list _ _ _ _ _ _ _ _ _ _ _ _ _ rfl (fun h => set_push_1 _ _ _ _ _ _ h) h) ?_; rintro _ w ⟨rfl, bb, oo, cc, h⟩)
    | refine ⟨_, h.lda 0 _ rfl rfl, ?_⟩
    | refine ⟨_, _, _, h.lda 0 _ rfl rfl, ?_⟩
    | refine ⟨h.lda 0 _ rfl rfl, ?_⟩
    | refine ⟨_, h.lda 1 _ rfl rfl, ?_⟩
    | refine ⟨_, _, _, h.lda 1 _ rfl rfl, ?_⟩
    | refine ⟨h.lda 1 _ rfl rfl, ?_⟩
    | refine ⟨_, h.lda 2 _ rfl rfl, ?_⟩
    | refine ⟨_, _, _, h.lda 2 _ rfl rfl, ?_⟩
    | refine ⟨h.lda 2 _ rfl rfl, ?_⟩
    | refine ⟨_, h.lda 3 _ rfl rfl, ?_⟩
    | refine ⟨_, _, _, h.lda 3 _ rfl rfl, ?_⟩
    | refine ⟨h.lda 3 _ rfl rfl, ?_⟩
    | refine ⟨_, h.lda 4 _ rfl rfl, ?_⟩
    | refine ⟨_, _, _, h.lda 4 _ rfl rfl, ?_⟩
    | refine ⟨h.lda 4 _ rfl rfl, ?_⟩
    | exact h.lda 0 _ rfl rfl
    | exact h.lda 1 _ rfl rfl
    | exact h.lda 2 _ rfl rfl
    | exact h.lda 3 _ rfl rfl
    | exact h.lda 4 _ rfl rfl
    | refine ⟨_, rfl, ?_⟩
    | refine ⟨_, _, rfl, ?_⟩
    | refine ⟨_, _, _, rfl, ?_⟩
    | refine ⟨_, _, _, _, _, _, _, _, _, _, _, _, rfl, ?_⟩
    | refine ⟨_, _, _, _, _, _, _, _, _, _, _, _, _, rfl, ?_⟩
    | refine ctt rfl ?_
    | refine cff rfl ?_
    | refine Meet.dup ?_
    | intro j
    | rw [ws]
    | simp only [ws, add_mk]
    | refine And.intro ?_ ?_)
  refine hY _ _ ?_
  dsimp only
  simp only [w1, w2, w3, w4, w5, w6, w7, w8, w03, w33, k1, k2, c1]
  (try simp only [w1, w2, w3, w4, w5, w6, w7, w8, w03, w33, k1, k2, c1] at h)
  repeat' (first
    | (refine New.at h (fun b w hh => ?_); clear h; have h := hh; clear hh)
    | (refine Drew.of h (fun w hh => ?_); clear h; have h := hh; clear hh)
    | (refine St.at h 0 _ rfl rfl rfl (fun w hh => ?_); clear h; have h := hh; clear hh; simp only [List.set_cons_zero, List.set_cons_succ] at h)
    | (refine St.at h 1 _ rfl rfl rfl (fun w hh => ?_); clear h; have h := hh; clear hh; simp only [List.set_cons_zero, List.set_cons_succ] at h)
    | (refine St.at h 2 _ rfl rfl rfl (fun w hh => ?_); clear h; have h := hh; clear hh; simp only [List.set_cons_zero, List.set_cons_succ] at h)
    | (refine St.at h 3 _ rfl rfl rfl (fun w hh => ?_); clear h; have h := hh; clear hh; simp only [List.set_cons_zero, List.set_cons_succ] at h)
    | (refine St.at h 4 _ rfl rfl rfl (fun w hh => ?_); clear h; have h := hh; clear hh; simp only [List.set_cons_zero, List.set_cons_succ] at h)
    | refine ⟨⟨by decide, by decide⟩, ?_⟩
    | (refine CallR.of (Add_skip _ _ _ _ _ _ _ _ _ _ rfl (fun h => set_same_2 _ _ _ _ _ _ h) h) ?_; rintro _ w ⟨rfl, h⟩)
    | refine ⟨_, h.lda 0 _ rfl rfl, ?_⟩
    | refine ⟨_, _, _, h.lda 0 _ rfl rfl, ?_⟩
    | refine ⟨h.lda 0 _ rfl rfl, ?_⟩
    | refine ⟨_, h.lda 1 _ rfl rfl, ?_⟩
    | refine ⟨_, _, _, h.lda 1 _ rfl rfl, ?_⟩
    | refine ⟨h.lda 1 _ rfl rfl, ?_⟩
    | refine ⟨_, h.lda 2 _ rfl rfl, ?_⟩
    | refine ⟨_, _, _, h.lda 2 _ rfl rfl, ?_⟩
    | refine ⟨h.lda 2 _ rfl rfl, ?_⟩
    | refine ⟨_, h.lda 3 _ rfl rfl, ?_⟩
    | refine ⟨_, _, _, h.lda 3 _ rfl rfl, ?_⟩
    | refine ⟨h.lda 3 _ rfl rfl, ?_⟩
    | refine ⟨_, h.lda 4 _ rfl rfl, ?_⟩
    | refine ⟨_, _, _, h.lda 4 _ rfl rfl, ?_⟩
    | refine ⟨h.lda 4 _ rfl rfl, ?_⟩
    | exact h.lda 0 _ rfl rfl
    | exact h.lda 1 _ rfl rfl
    | exact h.lda 2 _ rfl rfl
    | exact h.lda 3 _ rfl rfl
    | exact h.lda 4 _ rfl rfl
    | refine ⟨_, rfl, ?_⟩
    | refine ⟨_, _, rfl, ?_⟩
    | refine ⟨_, _, _, rfl, ?_⟩
    | refine ⟨_, _, _, _, _, _, _, _, _, _, _, _, rfl, ?_⟩
    | refine ⟨_, _, _, _, _, _, _, _, _, _, _, _, _, rfl, ?_⟩
    | refine ctt rfl ?_
    | refine cff rfl ?_
    | refine Meet.dup ?_
    | intro j
    | rw [ws]
    | simp only [ws, add_mk]
    | refine And.intro ?_ ?_)
  refine hY _ _ ?_
  dsimp only
  simp only [w1, w2, w3, w4, w5, w6, w7, w8, w03, w33, k1, k2, c1]
  (try simp only [w1, w2, w3, w4, w5, w6, w7, w8, w03, w33, k1, k2, c1] at h)
  repeat' (first
    | (refine New.at h (fun b w hh => ?_); clear h; have h := hh; clear hh)
    | (refine Drew.of h (fun w hh => ?_); clear h; have h := hh; clear hh)
    | (refine St.at h 0 _ rfl rfl rfl (fun w hh => ?_); clear h; have h := hh; clear hh; simp only [List.set_cons_zero, List.set_cons_succ] at h)
    | (refine St.at h 1 _ rfl rfl rfl (fun w hh => ?_); clear h; have h := hh; clear hh; simp only [List.set_cons_zero, List.set_cons_succ] at h)
    | (refine St.at h 2 _ rfl rfl rfl (fun w hh => ?_); clear h; have h := hh; clear hh; simp only [List.set_cons_zero, List.set_cons_succ] at h)
    | (refine St.at h 3 _ rfl rfl rfl (fun w hh => ?_); clear h; have h := hh; clear hh; simp only [List.set_cons_zero, List.set_cons_succ] at h)
    | (refine St.at h 4 _ rfl rfl rfl (fun w hh => ?_); clear h; have h := hh; clear hh; simp only [List.set_cons_zero, List.set_cons_succ] at h)
    | refine ⟨⟨by decide, by decide⟩, ?_⟩
    | (refine CallR.of (Add_skip _ _ _ _ _ _ _ _ _ _ rfl (fun h => set_missing_2 _ _ _ _ _ _ h) h) ?_; rintro _ w ⟨rfl, h⟩)
    | refine ⟨_, h.lda 0 _ rfl rfl, ?_⟩
    | refine ⟨_, _, _, h.lda 0 _ rfl rfl, ?_⟩
    | refine ⟨h.lda 0 _ rfl rfl, ?_⟩
    | refine ⟨_, h.lda 1 _ rfl rfl, ?_⟩
    | refine ⟨_, _, _, h.lda 1 _ rfl rfl, ?_⟩
    | refine ⟨h.lda 1 _ rfl rfl, ?_⟩
    | refine ⟨_, h.lda 2 _ rfl rfl, ?_⟩
    | refine ⟨_, _, _, h.lda 2 _ rfl rfl, ?_⟩
    | refine ⟨h.lda 2 _ rfl rfl, ?_⟩
    | refine ⟨_, h.lda 3 _ rfl rfl, ?_⟩
    | refine ⟨_, _, _, h.lda 3 _ rfl rfl, ?_⟩
    | refine ⟨h.lda 3 _ rfl rfl, ?_⟩
    | refine ⟨_, h.lda 4 _ rfl rfl, ?_⟩
    | refine ⟨_, _, _, h.lda 4 _ rfl rfl, ?_⟩
    | refine ⟨h.lda 4 _ rfl rfl, ?_⟩
    | exact h.lda 0 _ rfl rfl
    | exact h.lda 1 _ rfl rfl
    | exact h.lda 2 _ rfl rfl
    | exact h.lda 3 _ rfl rfl
    | exact h.lda 4 _ rfl rfl
    | refine ⟨_, rfl, ?_⟩
    | refine ⟨_, _, rfl, ?_⟩
    | refine ⟨_, _, _, rfl, ?_⟩
    | refine ⟨_, _, _, _, _, _, _, _, _, _, _, _, rfl, ?_⟩
    | refine ⟨_, _, _, _, _, _, _, _, _, _, _, _, _, rfl, ?_⟩
    | refine ctt rfl ?_
    | refine cff rfl ?_
    | refine Meet.dup ?_
    | intro j
    | rw [ws]
    | simp only [ws, add_mk]
    | refine And.intro ?_ ?_)
  refine hY _ _ ?_
  dsimp only
  simp only [w1, w2, w3, w4, w5, w6, w7, w8, w03, w33, k1, k2, c1]
  (try simp only [w1, w2, w3, w4, w5, w6, w7, w8, w03, w33, k1, k2, c1] at h)
  repeat' (first
    | (refine New.at h (fun b w hh => ?_); clear h; have h := hh; clear hh)
    | (refine Drew.of h (fun w hh => ?_); clear h; have h := hh; clear hh)
    | (refine St.at h 0 _ rfl rfl rfl (fun w hh => ?_); clear h; have h := hh; clear hh; simp only [List.set_cons_zero, List.set_cons_succ] at h)
    | (refine St.at h 1 _ rfl rfl rfl (fun w hh => ?_); clear h; have h := hh; clear hh; simp only [List.set_cons_zero, List.set_cons_succ] at h)
    | (refine St.at h 2 _ rfl rfl rfl (fun w hh => ?_); clear h; have h := hh; clear hh; simp only [List.set_cons_zero, List.set_cons_succ] at h)
    | refine ⟨_, h.own_rd 1 0 rfl rfl rfl, ?_⟩
    | refine ⟨_, _, _, h.own_rd 1 0 rfl rfl rfl, ?_⟩
    | exact h.own_rd 1 0 rfl rfl rfl
    | refine ⟨_, h.own_rd 1 1 rfl rfl rfl, ?_⟩
    | refine ⟨_, _, _, h.own_rd 1 1 rfl rfl rfl, ?_⟩
    | exact h.own_rd 1 1 rfl rfl rfl
    | refine ⟨_, h.own_rd 1 2 rfl rfl rfl, ?_⟩
    | refine ⟨_, _, _, h.own_rd 1 2 rfl rfl rfl, ?_⟩
    | exact h.own_rd 1 2 rfl rfl rfl
    | refine ⟨_, h.own_rd 1 3 rfl rfl rfl, ?_⟩
    | refine ⟨_, _, _, h.own_rd 1 3 rfl rfl rfl, ?_⟩
    | exact h.own_rd 1 3 rfl rfl rfl
    | refine ⟨_, h.own_rd 1 4 rfl rfl rfl, ?_⟩
    | refine ⟨_, _, _, h.own_rd 1 4 rfl rfl rfl, ?_⟩
    | exact h.own_rd 1 4 rfl rfl rfl
    | refine ⟨_, h.own_rd 1 5 rfl rfl rfl, ?_⟩
    | refine ⟨_, _, _, h.own_rd 1 5 rfl rfl rfl, ?_⟩
    | exact h.own_rd 1 5 rfl rfl rfl
    | refine ⟨_, h.own_rd 1 6 rfl rfl rfl, ?_⟩
    | refine ⟨_, _, _, h.own_rd 1 6 rfl rfl rfl, ?_⟩
    | exact h.own_rd 1 6 rfl rfl rfl
    | refine ⟨_, h.own_rd 1 7 rfl rfl rfl, ?_⟩
    | refine ⟨_, _, _, h.own_rd 1 7 rfl rfl rfl, ?_⟩
    | exact h.own_rd 1 7 rfl rfl rfl
    | refine ⟨_, h.own_rd 1 8 rfl rfl rfl, ?_⟩
    | refine ⟨_, _, _, h.own_rd 1 8 rfl rfl rfl, ?_⟩
    | exact h.own_rd 1 8 rfl rfl rfl
    | refine ⟨_, h.own_rd 1 9 rfl rfl rfl, ?_⟩
    | refine ⟨_, _, _, h.own_rd 1 9 rfl rfl rfl, ?_⟩
    | exact h.own_rd 1 9 rfl rfl rfl
    | refine ⟨_, h.own_rd 1 10 rfl rfl rfl, ?_⟩
    | refine ⟨_, _, _, h.own_rd 1 10 rfl rfl rfl, ?_⟩
    | exact h.own_rd 1 10 rfl rfl rfl
    | refine ⟨_, h.own_rd 1 11 rfl rfl rfl, ?_⟩
    | refine ⟨_, _, _, h.own_rd 1 11 rfl rfl rfl, ?_⟩
    | exact h.own_rd 1 11 rfl rfl rfl
    | refine ⟨_, h.own_rd 1 12 rfl rfl rfl, ?_⟩
    | refine ⟨_, _, _, h.own_rd 1 12 rfl rfl rfl, ?_⟩
    | exact h.own_rd 1 12 rfl rfl rfl
    | refine ⟨_, h.own_rd 1 13 rfl rfl rfl, ?_⟩
    | refine ⟨_, _, _, h.own_rd 1 13 rfl rfl rfl, ?_⟩
    | exact h.own_rd 1 13 rfl rfl rfl
    | refine ⟨_, h.own_rd 1 14 rfl rfl rfl, ?_⟩
    | refine ⟨_, _, _, h.own_rd 1 14 rfl rfl rfl, ?_⟩
    | exact h.own_rd 1 14 rfl rfl rfl
    | refine ⟨_, h.own_rd 1 15 rfl rfl rfl, ?_⟩
    | refine ⟨_, _, _, h.own_rd 1 15 rfl rfl rfl, ?_⟩
    | exact h.own_rd 1 15 rfl rfl rfl
    | refine ⟨_, h.own_rd 1 16 rfl rfl rfl, ?_⟩
    | refine ⟨_, _, _, h.own_rd 1 16 rfl rfl rfl, ?_⟩
    | exact h.own_rd 1 16 rfl rfl rfl
    | refine ⟨_, h.own_rd 1 17 rfl rfl rfl, ?_⟩
    | refine ⟨_, _, _, h.own_rd 1 17 rfl rfl rfl, ?_⟩
    | exact h.own_rd 1 17 rfl rfl rfl
    | refine ⟨⟨by decide, by decide⟩, ?_⟩
    | (refine CallR.of (Value_2 _ _ _ _ _ _ _ h) ?_; rintro _ w ⟨bb, oo, cc, rfl, h⟩)
    | refine ⟨_, h.lda 0 _ rfl rfl, ?_⟩
    | refine ⟨_, _, _, h.lda 0 _ rfl rfl, ?_⟩
    | refine ⟨h.lda 0 _ rfl rfl, ?_⟩
    | refine ⟨_, h.lda 1 _ rfl rfl, ?_⟩
    | refine ⟨_, _, _, h.lda 1 _ rfl rfl, ?_⟩
    | refine ⟨h.lda 1 _ rfl rfl, ?_⟩
    | refine ⟨_, h.lda 2 _ rfl rfl, ?_⟩
    | refine ⟨_, _, _, h.lda 2 _ rfl rfl, ?_⟩
    | refine ⟨h.lda 2 _ rfl rfl, ?_⟩
    | exact h.lda 0 _ rfl rfl
    | exact h.lda 1 _ rfl rfl
    | exact h.lda 2 _ rfl rfl
    | refine ⟨_, rfl, ?_⟩
    | refine ⟨_, _, rfl, ?_⟩
    | refine ⟨_, _, _, rfl, ?_⟩
    | refine ⟨_, _, _, _, _, _, _, _, _, _, _, _, rfl, ?_⟩
    | refine ⟨_, _, _, _, _, _, _, _, _, _, _, _, _, rfl, ?_⟩
    | refine ctt rfl ?_
    | refine cff rfl ?_
    | refine Meet.dup ?_
    | intro j
    | rw [ws]
    | simp only [ws, add_mk]
    | refine And.intro ?_ ?_)
  exact s7 h.tail.tail.tail

theorem known_s5 {X : Bool × Int → World → Prop} {b bi : Nat} (hX : ∀ s w, kBody bi b (Ret fun v w' => v = .bool true ∧ ∃ A, Holds G w' A) X s w → X s w) (s6 : ∀ {w : World}, Holds G w (all (blk b t_string [.string ⟨#[36, 115, 117, 109]⟩, .string ⟨#[36, 109, 105, 110]⟩, .string ⟨#[36, 109, 97, 120]⟩, .string ⟨#[36, 102, 105, 114, 115, 116]⟩, .string ⟨#[36, 108, 97, 115, 116]⟩, .string ⟨#[36, 112, 117, 115, 104]⟩, .string ⟨#[36, 97, 100, 100, 84, 111, 83, 101, 116]⟩, .string ⟨#[36, 99, 111, 117, 110, 116]⟩] :: blk bi t_api_Value [.int .i64 0, .int .i64 0, .string em, .slice none 0 0, .slice none 0 0, .slice none 0 0, .int .i64 2, .int .i64 0, .string em, .slice none 0 0, .slice none 0 0, .slice none 0 0, .int .i64 4, .int .i64 3, .string em, .slice none 0 0, .slice none 0 0, .slice none 0 0, .int .i64 3, .int .i64 3, .string em, .slice none 0 0, .slice none 0 0, .slice none 0 0, .int .i64 0, .int .i64 0, .string em, .slice none 0 0, .slice none 0 0, .slice none 0 0] :: L)) → X (false, 6) w) : ∀ {w : World}, Holds G w (all (blk b t_string [.string ⟨#[36, 115, 117, 109]⟩, .string ⟨#[36, 109, 105, 110]⟩, .string ⟨#[36, 109, 97, 120]⟩, .string ⟨#[36, 102, 105, 114, 115, 116]⟩, .string ⟨#[36, 108, 97, 115, 116]⟩, .string ⟨#[36, 112, 117, 115, 104]⟩, .string ⟨#[36, 97, 100, 100, 84, 111, 83, 101, 116]⟩, .string ⟨#[36, 99, 111, 117, 110, 116]⟩] :: blk bi t_api_Value [.int .i64 0, .int .i64 0, .string em, .slice none 0 0, .slice none 0 0, .slice none 0 0, .int .i64 2, .int .i64 0, .string em, .slice none 0 0, .slice none 0 0, .slice none 0 0, .int .i64 4, .int .i64 3, .string em, .slice none 0 0, .slice none 0 0, .slice none 0 0, .int .i64 3, .int .i64 3, .string em, .slice none 0 0, .slice none 0 0, .slice none 0 0, .int .i64 0, .int .i64 0, .string em, .slice none 0 0, .slice none 0 0, .slice none 0 0] :: L)) → X (false, 5) w := by
  intro w h
  refine hX _ _ ?_
  unfold kBody
  dsimp only
  repeat' (first
    | (refine New.at h (fun b w hh => ?_); clear h; have h := hh; clear hh)
    | (refine Drew.of h (fun w hh => ?_); clear h; have h := hh; clear hh)
    | (refine St.at h 0 _ rfl rfl rfl (fun w hh => ?_); clear h; have h := hh; clear hh; simp only [List.set_cons_zero, List.set_cons_succ] at h)
    | (refine St.at h 1 _ rfl rfl rfl (fun w hh => ?_); clear h; have h := hh; clear hh; simp only [List.set_cons_zero, List.set_cons_succ] at h)
    | (refine St.at h 2 _ rfl rfl rfl (fun w hh => ?_); clear h; have h := hh; clear hh; simp only [List.set_cons_zero, List.set_cons_succ] at h)
    | refine ⟨⟨by decide, by decide⟩, ?_⟩
    | (refine CallR.of (Kind_of _ 6 (by decide) h) ?_; rintro _ w ⟨rfl, h⟩)
    | (refine CallR.of (New_list 6 f_Paccum_State_push (.inl ⟨rfl, rfl⟩) h) ?_; rintro _ w ⟨s, rfl, h⟩)
    | (refine CallR.of (Value_nil _ _ _ _ h) ?_; rintro _ w ⟨rfl, h⟩)
    | refine ⟨_, h.lda 0 _ rfl rfl, ?_⟩
    | refine ⟨_, _, _, h.lda 0 _ rfl rfl, ?_⟩
    | refine ⟨h.lda 0 _ rfl rfl, ?_⟩
    | refine ⟨_, h.lda 1 _ rfl rfl, ?_⟩
    | refine ⟨_, _, _, h.lda 1 _ rfl rfl, ?_⟩
    | refine ⟨h.lda 1 _ rfl rfl, ?_⟩
    | refine ⟨_, h.lda 2 _ rfl rfl, ?_⟩
    | refine ⟨_, _, _, h.lda 2 _ rfl rfl, ?_⟩
    | refine ⟨h.lda 2 _ rfl rfl, ?_⟩
    | exact h.lda 0 _ rfl rfl
    | exact h.lda 1 _ rfl rfl
    | exact h.lda 2 _ rfl rfl
    | refine ⟨_, rfl, ?_⟩
    | refine ⟨_, _, rfl, ?_⟩
    | refine ⟨_, _, _, rfl, ?_⟩
    | refine ⟨_, _, _, _, _, _, _, _, _, _, _, _, rfl, ?_⟩
    | refine ⟨_, _, _, _, _, _, _, _, _, _, _, _, _, rfl, ?_⟩
    | refine ctt rfl ?_
    | refine cff rfl ?_
    | refine Meet.dup ?_
    | intro j
    | rw [ws]
    | simp only [ws, add_mk]
    | refine And.intro ?_ ?_)
  replace h := h.bring 1 rfl
  simp only [List.eraseIdx_cons_zero, List.eraseIdx_cons_succ] at h
  replace h : Holds G w (all (own t_api_Value 6 none 0 0 [] :: _)) := Holds.own_nil h
  replace h := h.bring 1 rfl
  simp only [List.eraseIdx_cons_zero, List.eraseIdx_cons_succ] at h
  refine Loop.start (fun Y hY => ?_)
  refine hY _ _ ?_
  dsimp only
  repeat' (first
    | (refine New.at h (fun b w hh => ?_); clear h; have h := hh; clear hh)
    | (refine Drew.of h (fun w hh => ?_); clear h; have h := hh; clear hh)
    | (refine St.at h 0 _ rfl rfl rfl (fun w hh => ?_); clear h; have h := hh; clear hh; simp only [List.set_cons_zero, List.set_cons_succ] at h)
    | (refine St.at h 1 _ rfl rfl rfl (fun w hh => ?_); clear h; have h := hh; clear hh; simp only [List.set_cons_zero, List.set_cons_succ] at h)
    | (refine St.at h 2 _ rfl rfl rfl (fun w hh => ?_); clear h; have h := hh; clear hh; simp only [List.set_cons_zero, List.set_cons_succ] at h)
    | (refine St.at h 3 _ rfl rfl rfl (fun w hh => ?_); clear h; have h := hh; clear hh; simp only [List.set_cons_zero, List.set_cons_succ] at h)
    | (refine St.at h 4 _ rfl rfl rfl (fun w hh => ?_); clear h; have h := hh; clear hh; simp only [List.set_cons_zero, List.set_cons_succ] at h)
    | refine ⟨⟨by decide, by decide⟩, ?_⟩
    | (refine CallR.of (Add_skip _ _ _ _ _ _ _ _ _ _ rfl (fun h => push_missing _ h) h) ?_; rintro _ w ⟨rfl, h⟩)
    | refine ⟨_, h.lda 0 _ rfl rfl, ?_⟩
    | refine ⟨_, _, _, h.lda 0 _ rfl rfl, ?_⟩
    | refine ⟨h.lda 0 _ rfl rfl, ?_⟩
    | refine ⟨_, h.lda 1 _ rfl rfl, ?_⟩
    | refine ⟨_, _, _, h.lda 1 _ rfl rfl, ?_⟩
    | refine ⟨h.lda 1 _ rfl rfl, ?_⟩
    | refine ⟨_, h.lda 2 _ rfl rfl, ?_⟩
    | refine ⟨_, _, _, h.lda 2 _ rfl rfl, ?_⟩
    | refine ⟨h.lda 2 _ rfl rfl, ?_⟩
    | refine ⟨_, h.lda 3 _ rfl rfl, ?_⟩
    | refine ⟨_, _, _, h.lda 3 _ rfl rfl, ?_⟩
    | refine ⟨h.lda 3 _ rfl rfl, ?_⟩
    | refine ⟨_, h.lda 4 _ rfl rfl, ?_⟩
    | refine ⟨_, _, _, h.lda 4 _ rfl rfl, ?_⟩
    | refine ⟨h.lda 4 _ rfl rfl, ?_⟩
    | exact h.lda 0 _ rfl rfl
    | exact h.lda 1 _ rfl rfl
    | exact h.lda 2 _ rfl rfl
    | exact h.lda 3 _ rfl rfl
    | exact h.lda 4 _ rfl rfl
    | refine ⟨_, rfl, ?_⟩
    | refine ⟨_, _, rfl, ?_⟩
    | refine ⟨_, _, _, rfl, ?_⟩
    | refine ⟨_, _, _, _, _, _, _, _, _, _, _, _, rfl, ?_⟩
    | refine ⟨_, _, _, _, _, _, _, _, _, _, _, _, _, rfl, ?_⟩
    | refine ctt rfl ?_
    | refine cff rfl ?_
    | refine Meet.dup ?_
    | intro j
    | rw [ws]
    | simp only [ws, add_mk]
    | refine And.intro ?_ ?_)
  refine hY _ _ ?_
  dsimp only
  simp only [w1, w2, w3, w4, w5, w6, w7, w8, w03, w33, k1, k2, c1]
  (try simp only [w1, w2, w3, w4, w5, w6, w7, w8, w03, w33, k1, k2, c1] at h)
  repeat' (first
    | (refine New.at h (fun b w hh => ?_); clear h; have h := hh; clear hh)
    | (refine Drew.of h (fun w hh => ?_); clear h; have h := hh; clear hh)
    | (refine St.at h 0 _ rfl rfl rfl (fun w hh => ?_); clear h; have h := hh; clear hh; simp only [List.set_cons_zero, List.set_cons_succ] at h)
    | (refine St.at h 1 _ rfl rfl rfl (fun w hh => ?_); clear h; have h := hh; clear hh; simp only [List.set_cons_zero, List.set_cons_succ] at h)
    | (refine St.at h 2 _ rfl rfl rfl (fun w hh => ?_); clear h; have h := hh; clear hh; simp only [List.set_cons_zero, List.set_cons_succ] at h)
    | (refine St.at h 3 _ rfl rfl rfl (fun w hh => ?_); clear h; have h := hh; clear hh; simp only [List.set_cons_zero, List.set_cons_succ] at h)
    | (refine St.at h 4 _ rfl rfl rfl (fun w hh => ?_); clear h; have h := hh; clear hh; simp only [List.set_cons_zero, List.set_cons_succ] at h)
    | refine ⟨⟨by decide, by decide⟩, ?_⟩
    | (refine CallR.of (Add_list _ _ _ _ _ _ _ _ _ _ _ _ _ rfl (fun h => push_0 _ _ _ _ _ h) h) ?_; rintro _ w ⟨rfl, bb, oo, cc, h⟩)
    | refine ⟨_, h.lda 0 _ rfl rfl, ?_⟩
    | refine ⟨_, _, _, h.lda 0 _ rfl rfl, ?_⟩
    | refine ⟨h.lda 0 _ rfl rfl, ?_⟩
    | refine ⟨_, h.lda 1 _ rfl rfl, ?_⟩
    | refine ⟨_, _, _, h.lda 1 _ rfl rfl, ?_⟩
    | refine ⟨h.lda 1 _ rfl rfl, ?_⟩
    | refine ⟨_, h.lda 2 _ rfl rfl, ?_⟩
    | refine ⟨_, _, _, h.lda 2 _ rfl rfl, ?_⟩
    | refine ⟨h.lda 2 _ rfl rfl, ?_⟩
    | refine ⟨_, h.lda 3 _ rfl rfl, ?_⟩
    | refine ⟨_, _, _, h.lda 3 _ rfl rfl, ?_⟩
    | refine ⟨h.lda 3 _ rfl rfl, ?_⟩
    | refine ⟨_, h.lda 4 _ rfl rfl, ?_⟩
    | refine ⟨_, _, _, h.lda 4 _ rfl rfl, ?_⟩
    | refine ⟨h.lda 4 _ rfl rfl, ?_⟩
    | exact h.lda 0 _ rfl rfl
    | exact h.lda 1 _ rfl rfl
    | exact h.lda 2 _ rfl rfl
    | exact h.lda 3 _ rfl rfl
    | exact h.lda 4 _ rfl rfl
    | refine ⟨_, rfl, ?_⟩
    | refine ⟨_, _, rfl, ?_⟩
    | refine ⟨_, _, _, rfl, ?_⟩
    | refine ⟨_, _, _, _, _, _, _, _, _, _, _, _, rfl, ?_⟩
    | refine ⟨_, _, _, _, _, _, _, _, _, _, _, _, _, rfl, ?_⟩
    | refine ctt rfl ?_
    | refine cff rfl ?_
    | refine Meet.dup ?_
    | intro j
    | rw [ws]
    | simp only [ws, add_mk]
    | refine And.intro ?_ ?_)
  refine hY _ _ ?_
  dsimp only
  simp only [w1, w2, w3, w4, w5, w6, w7, w8, w03, w33, k1, k2, c1]
  (try simp only [w1, w2, w3, w4, w5, w6, w7, w8, w03, w33, k1, k2, c1] at h)
  repeat' (first
    | (refine New.at h (fun b w hh => ?_); clear h; have h := hh; clear hh)
    | (refine Drew.of h (fun w hh => ?_); clear h; have h := hh; clear hh)
    | (refine St.at h 0 _ rfl rfl rfl (fun w hh => ?_); clear h; have h := hh; clear hh; simp only [List.set_cons_zero, List.set_cons_succ] at h)
    | (refine St.at h 1 _ rfl rfl rfl (fun w hh => ?_); clear h; have h := hh; clear hh; simp only [List.set_cons_zero, List.set_cons_succ] at h)
    | (refine St.at h 2 _ rfl rfl rfl (fun w hh => ?_); clear h; have h := hh; clear hh; simp only [List.set_cons_zero, List.set_cons_succ] at h)
    | (refine St.at h 3 _ rfl rfl rfl (fun w hh => ?_); clear h; have h := hh; clear hh; simp only [List.set_cons_zero, List.set_cons_succ] at h)
    | (refine St.at h 4 _ rfl rfl rfl (fun w hh => ?_); clear h; have h := hh; clear hh; simp only [List.set_cons_zero, List.set_cons_succ] at h)
    | refine ⟨⟨by decide, by decide⟩, ?_⟩
    | (refine CallR.of (Add_list _ _ _ _ _ _ _ _ _ _ _ _ _ rfl (fun h => push_1 _ _ _ _ _ h) h) ?_; rintro _ w ⟨rfl, bb, oo, cc, h⟩)
    | refine ⟨_, h.lda 0 _ rfl rfl, ?_⟩
    | refine ⟨_, _, _, h.lda 0 _ rfl rfl, ?_⟩
    | refine ⟨h.lda 0 _ rfl rfl, ?_⟩
    | refine ⟨_, h.lda 1 _ rfl rfl, ?_⟩
    | refine ⟨_, _, _, h.lda 1 _ rfl rfl, ?_⟩
    | refine ⟨h.lda 1 _ rfl rfl, ?_⟩
    | refine ⟨_, h.lda 2 _ rfl rfl, ?_⟩
    | refine ⟨_, _, _, h.lda 2 _ rfl rfl, ?_⟩
    | refine ⟨h.lda 2 _ rfl rfl, ?_⟩
    | refine ⟨_, h.lda 3 _ rfl rfl, ?_⟩
    | refine ⟨_, _, _, h.lda 3 _ rfl rfl, ?_⟩
    | refine ⟨h.lda 3 _ rfl rfl, ?_⟩
    | refine ⟨_, h.lda 4 _ rfl rfl, ?_⟩
    | refine ⟨_, _, _, h.lda 4 _ rfl rfl, ?_⟩
    | refine ⟨h.lda 4 _ rfl rfl, ?_⟩
    | exact h.lda 0 _ rfl rfl
    | exact h.lda 1 _ rfl rfl
    | exact h.lda 2 _ rfl rfl
    | exact h.lda 3 _ rfl rfl
    | exact h.lda 4 _ rfl rfl
    | refine ⟨_, rfl, ?_⟩
    | refine ⟨_, _, rfl, ?_⟩
    | refine ⟨_, _, _, rfl, ?_⟩
    | refine ⟨_, _, _, _, _, _, _, _, _, _, _, _, rfl, ?_⟩
    | refine ⟨_, _, _, _, _, _, _, _, _, _, _, _, _, rfl, ?_⟩
    | refine ctt rfl ?_
    | refine cff rfl ?_
    | refine Meet.dup ?_
    | intro j
    | rw [ws]
    | simp only [ws, add_mk]
    | refine And.intro ?_ ?_)
  refine hY _ _ ?_
  dsimp only
  simp only [w1, w2, w3, w4, w5, w6, w7, w8, w03, w33, k1, k2, c1]
  (try simp only [w1, w2, w3, w4, w5, w6, w7, w8, w03, w33, k1, k2, c1] at h)
  repeat' (first
    | (refine New.at h (fun b w hh => ?_); clear h; have h := hh; clear hh)
    | (refine Drew.of h (fun w hh => ?_); clear h; have h := hh; clear hh)
    | (refine St.at h 0 _ rfl rfl rfl (fun w hh => ?_); clear h; have h := hh; clear hh; simp only [List.set_cons_zero, List.set_cons_succ] at h)
    | (refine St.at h 1 _ rfl rfl rfl (fun w hh => ?_); clear h; have h := hh; clear hh; simp only [List.set_cons_zero, List.set_cons_succ] at h)
    | (refine St.at h 2 _ rfl rfl rfl (fun w hh => ?_); clear h; have h := hh; clear hh; simp only [List.set_cons_zero, List.set_cons_succ] at h)
    | (refine St.at h 3 _ rfl rfl rfl (fun w hh => ?_); clear h; have h := hh; clear hh; simp only [List.set_cons_zero, List.set_cons_succ] at h)
    | (refine St.at h 4 _ rfl rfl rfl (fun w hh => ?_); clear h; have h := hh; clear hh; simp only [List.set_cons_zero, List.set_cons_succ] at h)
    | refine ⟨⟨by decide, by decide⟩, ?_⟩
    | (refine CallR.of (Add_list _ _ _ _ _ _ _ _ _ _ _ _ _ rfl (fun h => push_2 _ _ _ _ _ h) h) ?_; rintro _ w ⟨rfl, bb, oo, cc, h⟩)
    | refine ⟨_, h.lda 0 _ rfl rfl, ?_⟩
    | refine ⟨_, _, _, h.lda 0 _ rfl rfl, ?_⟩
    | refine ⟨h.lda 0 _ rfl rfl, ?_⟩
    | refine ⟨_, h.lda 1 _ rfl rfl, ?_⟩
    | refine ⟨_, _, _, h.lda 1 _ rfl rfl, ?_⟩
    | refine ⟨h.lda 1 _ rfl rfl, ?_⟩
    | refine ⟨_, h.lda 2 _ rfl rfl, ?_⟩
    | refine ⟨_, _, _, h.lda 2 _ rfl rfl, ?_⟩
    | refine ⟨h.lda 2 _ rfl rfl, ?_⟩
    | refine ⟨_, h.lda 3 _ rfl rfl, ?_⟩
    | refine ⟨_, _, _, h.lda 3 _ rfl rfl, ?_⟩
    | refine ⟨h.lda 3 _ rfl rfl, ?_⟩
    | refine ⟨_, h.lda 4 _ rfl rfl, ?_⟩
    | refine ⟨_, _, _, h.lda 4 _ rfl rfl, ?_⟩
    | refine ⟨h.lda 4 _ rfl rfl, ?_⟩
    | exact h.lda 0 _ rfl rfl
    | exact h.lda 1 _ rfl rfl
    | exact h.lda 2 _ rfl rfl
    | exact h.lda 3 _ rfl rfl
    | exact h.lda 4 _ rfl rfl
    | refine ⟨_, rfl, ?_⟩
    | refine ⟨_, _, rfl, ?_⟩
    | refine ⟨_, _, _, rfl, ?_⟩
    | refine ⟨_, _, _, _, _, _, _, _, _, _, _, _, rfl, ?_⟩
    | refine ⟨_, _, _, _, _, _, _, _, _, _, _, _, _, rfl, ?_⟩
    | refine ctt rfl ?_
    | refine cff rfl ?_
    | refine Meet.dup ?_
    | intro j
    | rw [ws]
    | simp only [ws, add_mk]
    | refine And.intro ?_ ?_)
  refine hY _ _ ?_
  dsimp only
  simp only [w1, w2, w3, w4, w5, w6, w7, w8, w03, w33, k1, k2, c1]
  (try simp only [w1, w2, w3, w4, w5, w6, w7, w8, w03, w33, k1, k2, c1] at h)
  repeat' (first
    | (refine New.at h (fun b w hh => ?_); clear h; have h := hh; clear hh)
    | (refine Drew.of h (fun w hh => ?_); clear h; have h := hh; clear hh)
    | (refine St.at h 0 _ rfl rfl rfl (fun w hh => ?_); clear h; have h := hh; clear hh; simp only [List.set_cons_zero, List.set_cons_succ] at h)
    | (refine St.at h 1 _ rfl rfl rfl (fun w hh => ?_); clear h; have h := hh; clear hh; simp only [List.set_cons_zero, List.set_cons_succ] at h)
    | (refine St.at h 2 _ rfl rfl rfl (fun w hh => ?_); clear h; have h := hh; clear hh; simp only [List.set_cons_zero, List.set_cons_succ] at h)
    | (refine St.at h 3 _ rfl rfl rfl (fun w hh => ?_); clear h; have h := hh; clear hh; simp only [List.set_cons_zero, List.set_cons_succ] at h)
    | (refine St.at h 4 _ rfl rfl rfl (fun w hh => ?_); clear h; have h := hh; clear hh; simp only [List.set_cons_zero, List.set_cons_succ] at h)
    | refine ⟨⟨by decide, by decide⟩, ?_⟩
    | (refine CallR.of (Add_skip _ _ _ _ _ _ _ _ _ _ rfl (fun h => push_missing _ h) h) ?_; rintro _ w ⟨rfl, h⟩)
    | refine ⟨_, h.lda 0 _ rfl rfl, ?_⟩
    | refine ⟨_, _, _, h.lda 0 _ rfl rfl, ?_⟩
    | refine ⟨h.lda 0 _ rfl rfl, ?_⟩
    | refine ⟨_, h.lda 1 _ rfl rfl, ?_⟩
    | refine ⟨_, _, _, h.lda 1 _ rfl rfl, ?_⟩
    | refine ⟨h.lda 1 _ rfl rfl, ?_⟩
    | refine ⟨_, h.lda 2 _ rfl rfl, ?_⟩
    | refine ⟨_, _, _, h.lda 2 _ rfl rfl, ?_⟩
    | refine ⟨h.lda 2 _ rfl rfl, ?_⟩
    | refine ⟨_, h.lda 3 _ rfl rfl, ?_⟩
    | refine ⟨_, _, _, h.lda 3 _ rfl rfl, ?_⟩
    | refine ⟨h.lda 3 _ rfl rfl, ?_⟩
    | refine ⟨_, h.lda 4 _ rfl rfl, ?_⟩
    | refine ⟨_, _, _, h.lda 4 _ rfl rfl, ?_⟩
    | refine ⟨h.lda 4 _ rfl rfl, ?_⟩
    | exact h.lda 0 _ rfl rfl
    | exact h.lda 1 _ rfl rfl
    | exact h.lda 2 _ rfl rfl
    | exact h.lda 3 _ rfl rfl
    | exact h.lda 4 _ rfl rfl
    | refine ⟨_, rfl, ?_⟩
    | refine ⟨_, _, rfl, ?_⟩
    | refine ⟨_, _, _, rfl, ?_⟩
    | refine ⟨_, _, _, _, _, _, _, _, _, _, _, _, rfl, ?_⟩
    | refine ⟨_, _, _, _, _, _, _, _, _, _, _, _, _, rfl, ?_⟩
    | refine ctt rfl ?_
    | refine cff rfl ?_
    | refine Meet.dup ?_
    | intro j
    | rw [ws]
    | simp only [ws, add_mk]
    | refine And.intro ?_ ?_)
  refine hY _ _ ?_
  dsimp only
  simp only [w1, w2, w3, w4, w5, w6, w7, w8, w03, w33, k1, k2, c1]
  (try simp only [w1, w2, w3, w4, w5, w6, w7, w8, w03, w33, k1, k2, c1] at h)
  repeat' (first
    | (refine New.at h (fun b w hh => ?_); clear h; have h := hh; clear hh)
    | (refine Drew.of h (fun w hh => ?_); clear h; have h := hh; clear hh)
    | (refine St.at h 0 _ rfl rfl rfl (fun w hh => ?_); clear h; have h := hh; clear hh; simp only [List.set_cons_zero, List.set_cons_succ] at h)
    | (refine St.at h 1 _ rfl rfl rfl (fun w hh => ?_); clear h; have h := hh; clear hh; simp only [List.set_cons_zero, List.set_cons_succ] at h)
    | (refine St.at h 2 _ rfl rfl rfl (fun w hh => ?_); clear h; have h := hh; clear hh; simp only [List.set_cons_zero, List.set_cons_succ] at h)
    | refine ⟨_, h.own_rd 1 0 rfl rfl rfl, ?_⟩
    | refine ⟨_, _, _, h.own_rd 1 0 rfl rfl rfl, ?_⟩
    | exact h.own_rd 1 0 rfl rfl rfl
    | refine ⟨_, h.own_rd 1 1 rfl rfl rfl, ?_⟩
    | refine ⟨_, _, _, h.own_rd 1 1 rfl rfl rfl, ?_⟩
    | exact h.own_rd 1 1 rfl rfl rfl
    | refine ⟨_, h.own_rd 1 2 rfl rfl rfl, ?_⟩
    | refine ⟨_, _, _, h.own_rd 1 2 rfl rfl rfl, ?_⟩
    | exact h.own_rd 1 2 rfl rfl rfl
    | refine ⟨_, h.own_rd 1 3 rfl rfl rfl, ?_⟩
    | refine ⟨_, _, _, h.own_rd 1 3 rfl rfl rfl, ?_⟩
    | exact h.own_rd 1 3 rfl rfl rfl
    | refine ⟨_, h.own_rd 1 4 rfl rfl rfl, ?_⟩
    | refine ⟨_, _, _, h.own_rd 1 4 rfl rfl rfl, ?_⟩
    | exact h.own_rd 1 4 rfl rfl rfl
    | refine ⟨_, h.own_rd 1 5 rfl rfl rfl, ?_⟩
    | refine ⟨_, _, _, h.own_rd 1 5 rfl rfl rfl, ?_⟩
    | exact h.own_rd 1 5 rfl rfl rfl
    | refine ⟨_, h.own_rd 1 6 rfl rfl rfl, ?_⟩
    | refine ⟨_, _, _, h.own_rd 1 6 rfl rfl rfl, ?_⟩
    | exact h.own_rd 1 6 rfl rfl rfl
    | refine ⟨_, h.own_rd 1 7 rfl rfl rfl, ?_⟩
    | refine ⟨_, _, _, h.own_rd 1 7 rfl rfl rfl, ?_⟩
    | exact h.own_rd 1 7 rfl rfl rfl
    | refine ⟨_, h.own_rd 1 8 rfl rfl rfl, ?_⟩
    | refine ⟨_, _, _, h.own_rd 1 8 rfl rfl rfl, ?_⟩
    | exact h.own_rd 1 8 rfl rfl rfl
    | refine ⟨_, h.own_rd 1 9 rfl rfl rfl, ?_⟩
    | refine ⟨_, _, _, h.own_rd 1 9 rfl rfl rfl, ?_⟩
    | exact h.own_rd 1 9 rfl rfl rfl
    | refine ⟨_, h.own_rd 1 10 rfl rfl rfl, ?_⟩
    | refine ⟨_, _, _, h.own_rd 1 10 rfl rfl rfl, ?_⟩
    | exact h.own_rd 1 10 rfl rfl rfl
    | refine ⟨_, h.own_rd 1 11 rfl rfl rfl, ?_⟩
    | refine ⟨_, _, _, h.own_rd 1 11 rfl rfl rfl, ?_⟩
    | exact h.own_rd 1 11 rfl rfl rfl
    | refine ⟨_, h.own_rd 1 12 rfl rfl rfl, ?_⟩
    | refine ⟨_, _, _, h.own_rd 1 12 rfl rfl rfl, ?_⟩
    | exact h.own_rd 1 12 rfl rfl rfl
    | refine ⟨_, h.own_rd 1 13 rfl rfl rfl, ?_⟩
    | refine ⟨_, _, _, h.own_rd 1 13 rfl rfl rfl, ?_⟩
    | exact h.own_rd 1 13 rfl rfl rfl
    | refine ⟨_, h.own_rd 1 14 rfl rfl rfl, ?_⟩
    | refine ⟨_, _, _, h.own_rd 1 14 rfl rfl rfl, ?_⟩
    | exact h.own_rd 1 14 rfl rfl rfl
    | refine ⟨_, h.own_rd 1 15 rfl rfl rfl, ?_⟩
    | refine ⟨_, _, _, h.own_rd 1 15 rfl rfl rfl, ?_⟩
    | exact h.own_rd 1 15 rfl rfl rfl
    | refine ⟨_, h.own_rd 1 16 rfl rfl rfl, ?_⟩
    | refine ⟨_, _, _, h.own_rd 1 16 rfl rfl rfl, ?_⟩
    | exact h.own_rd 1 16 rfl rfl rfl
    | refine ⟨_, h.own_rd 1 17 rfl rfl rfl, ?_⟩
    | refine ⟨_, _, _, h.own_rd 1 17 rfl rfl rfl, ?_⟩
    | exact h.own_rd 1 17 rfl rfl rfl
    | refine ⟨⟨by decide, by decide⟩, ?_⟩
    | (refine CallR.of (Value_3 _ _ _ _ _ _ _ h) ?_; rintro _ w ⟨bb, oo, cc, rfl, h⟩)
    | refine ⟨_, h.lda 0 _ rfl rfl, ?_⟩
    | refine ⟨_, _, _, h.lda 0 _ rfl rfl, ?_⟩
    | refine ⟨h.lda 0 _ rfl rfl, ?_⟩
    | refine ⟨_, h.lda 1 _ rfl rfl, ?_⟩
    | refine ⟨_, _, _, h.lda 1 _ rfl rfl, ?_⟩
    | refine ⟨h.lda 1 _ rfl rfl, ?_⟩
    | refine ⟨_, h.lda 2 _ rfl rfl, ?_⟩
    | refine ⟨_, _, _, h.lda 2 _ rfl rfl, ?_⟩
    | refine ⟨h.lda 2 _ rfl rfl, ?_⟩
    | exact h.lda 0 _ rfl rfl
    | exact h.lda 1 _ rfl rfl
    | exact h.lda 2 _ rfl rfl
    | refine ⟨_, rfl, ?_⟩
    | refine ⟨_, _, rfl, ?_⟩
    | refine ⟨_, _, _, rfl, ?_⟩
    | refine ⟨_, _, _, _, _, _, _, _, _, _, _, _, rfl, ?_⟩
    | refine ⟨_, _, _, _, _, _, _, _, _, _, _, _, _, rfl, ?_⟩
    | refine ctt rfl ?_
    | refine cff rfl ?_
    | refine Meet.dup ?_
    | intro j
    | rw [ws]
    | simp only [ws, add_mk]
    | refine And.intro ?_ ?_)
  exact s6 h.tail.tail.tail

theorem known_s4 {X : Bool × Int → World → Prop} {b bi : Nat} (hX : ∀ s w, kBody bi b (Ret fun v w' => v = .bool true ∧ ∃ A, Holds G w' A) X s w → X s w) (s5 : ∀ {w : World}, Holds G w (all (blk b t_string [.string ⟨#[36, 115, 117, 109]⟩, .string ⟨#[36, 109, 105, 110]⟩, .string ⟨#[36, 109, 97, 120]⟩, .string ⟨#[36, 102, 105, 114, 115, 116]⟩, .string ⟨#[36, 108, 97, 115, 116]⟩, .string ⟨#[36, 112, 117, 115, 104]⟩, .string ⟨#[36, 97, 100, 100, 84, 111, 83, 101, 116]⟩, .string ⟨#[36, 99, 111, 117, 110, 116]⟩] :: blk bi t_api_Value [.int .i64 0, .int .i64 0, .string em, .slice none 0 0, .slice none 0 0, .slice none 0 0, .int .i64 2, .int .i64 0, .string em, .slice none 0 0, .slice none 0 0, .slice none 0 0, .int .i64 4, .int .i64 3, .string em, .slice none 0 0, .slice none 0 0, .slice none 0 0, .int .i64 3, .int .i64 3, .string em, .slice none 0 0, .slice none 0 0, .slice none 0 0, .int .i64 0, .int .i64 0, .string em, .slice none 0 0, .slice none 0 0, .slice none 0 0] :: L)) → X (false, 5) w) : ∀ {w : World}, Holds G w (all (blk b t_string [.string ⟨#[36, 115, 117, 109]⟩, .string ⟨#[36, 109, 105, 110]⟩, .string ⟨#[36, 109, 97, 120]⟩, .string ⟨#[36, 102, 105, 114, 115, 116]⟩, .string ⟨#[36, 108, 97, 115, 116]⟩, .string ⟨#[36, 112, 117, 115, 104]⟩, .string ⟨#[36, 97, 100, 100, 84, 111, 83, 101, 116]⟩, .string ⟨#[36, 99, 111, 117, 110, 116]⟩] :: blk bi t_api_Value [.int .i64 0, .int .i64 0, .string em, .slice none 0 0, .slice none 0 0, .slice none 0 0, .int .i64 2, .int .i64 0, .string em, .slice none 0 0, .slice none 0 0, .slice none 0 0, .int .i64 4, .int .i64 3, .string em, .slice none 0 0, .slice none 0 0, .slice none 0 0, .int .i64 3, .int .i64 3, .string em, .slice none 0 0, .slice none 0 0, .slice none 0 0, .int .i64 0, .int .i64 0, .string em, .slice none 0 0, .slice none 0 0, .slice none 0 0] :: L)) → X (false, 4) w := by
  intro w h
  refine hX _ _ ?_
  unfold kBody
  dsimp only
  repeat' (first
    | (refine New.at h (fun b w hh => ?_); clear h; have h := hh; clear hh)
    | (refine Drew.of h (fun w hh => ?_); clear h; have h := hh; clear hh)
    | (refine St.at h 0 _ rfl rfl rfl (fun w hh => ?_); clear h; have h := hh; clear hh; simp only [List.set_cons_zero, List.set_cons_succ] at h)
    | (refine St.at h 1 _ rfl rfl rfl (fun w hh => ?_); clear h; have h := hh; clear hh; simp only [List.set_cons_zero, List.set_cons_succ] at h)
    | (refine St.at h 2 _ rfl rfl rfl (fun w hh => ?_); clear h; have h := hh; clear hh; simp only [List.set_cons_zero, List.set_cons_succ] at h)
    | refine ⟨⟨by decide, by decide⟩, ?_⟩
    | (refine CallR.of (Kind_of _ 5 (by decide) h) ?_; rintro _ w ⟨rfl, h⟩)
    | (refine CallR.of (New_plain 5 f_Paccum_State_last (.inr (.inr (.inr ⟨rfl, rfl⟩))) h) ?_; rintro _ w ⟨s, rfl, h⟩)
    | (refine CallR.of (Value_none _ _ _ _ _ h) ?_; rintro _ w ⟨rfl, h⟩)
    | refine ⟨_, h.lda 0 _ rfl rfl, ?_⟩
    | refine ⟨_, _, _, h.lda 0 _ rfl rfl, ?_⟩
    | refine ⟨h.lda 0 _ rfl rfl, ?_⟩
    | refine ⟨_, h.lda 1 _ rfl rfl, ?_⟩
    | refine ⟨_, _, _, h.lda 1 _ rfl rfl, ?_⟩
    | refine ⟨h.lda 1 _ rfl rfl, ?_⟩
    | refine ⟨_, h.lda 2 _ rfl rfl, ?_⟩
    | refine ⟨_, _, _, h.lda 2 _ rfl rfl, ?_⟩
    | refine ⟨h.lda 2 _ rfl rfl, ?_⟩
    | exact h.lda 0 _ rfl rfl
    | exact h.lda 1 _ rfl rfl
    | exact h.lda 2 _ rfl rfl
    | refine ⟨_, rfl, ?_⟩
    | refine ⟨_, _, rfl, ?_⟩
    | refine ⟨_, _, _, rfl, ?_⟩
    | refine ⟨_, _, _, _, _, _, _, _, _, _, _, _, rfl, ?_⟩
    | refine ⟨_, _, _, _, _, _, _, _, _, _, _, _, _, rfl, ?_⟩
    | refine ctt rfl ?_
    | refine cff rfl ?_
    | refine Meet.dup ?_
    | intro j
    | rw [ws]
    | simp only [ws, add_mk]
    | refine And.intro ?_ ?_)
  replace h := h.bring 1 rfl
  simp only [List.eraseIdx_cons_zero, List.eraseIdx_cons_succ] at h
  refine Loop.start (fun Y hY => ?_)
  refine hY _ _ ?_
  dsimp only
  repeat' (first
    | (refine New.at h (fun b w hh => ?_); clear h; have h := hh; clear hh)
    | (refine Drew.of h (fun w hh => ?_); clear h; have h := hh; clear hh)
    | (refine St.at h 0 _ rfl rfl rfl (fun w hh => ?_); clear h; have h := hh; clear hh; simp only [List.set_cons_zero, List.set_cons_succ] at h)
    | (refine St.at h 1 _ rfl rfl rfl (fun w hh => ?_); clear h; have h := hh; clear hh; simp only [List.set_cons_zero, List.set_cons_succ] at h)
    | (refine St.at h 2 _ rfl rfl rfl (fun w hh => ?_); clear h; have h := hh; clear hh; simp only [List.set_cons_zero, List.set_cons_succ] at h)
    | (refine St.at h 3 _ rfl rfl rfl (fun w hh => ?_); clear h; have h := hh; clear hh; simp only [List.set_cons_zero, List.set_cons_succ] at h)
    | (refine St.at h 4 _ rfl rfl rfl (fun w hh => ?_); clear h; have h := hh; clear hh; simp only [List.set_cons_zero, List.set_cons_succ] at h)
    | refine ⟨⟨by decide, by decide⟩, ?_⟩
    | (refine CallR.of (Add_last _ _ _ _ _ _ _ _ h) ?_; rintro _ w ⟨rfl, h⟩)
    | refine ⟨_, h.lda 0 _ rfl rfl, ?_⟩
    | refine ⟨_, _, _, h.lda 0 _ rfl rfl, ?_⟩
    | refine ⟨h.lda 0 _ rfl rfl, ?_⟩
    | refine ⟨_, h.lda 1 _ rfl rfl, ?_⟩
    | refine ⟨_, _, _, h.lda 1 _ rfl rfl, ?_⟩
    | refine ⟨h.lda 1 _ rfl rfl, ?_⟩
    | refine ⟨_, h.lda 2 _ rfl rfl, ?_⟩
    | refine ⟨_, _, _, h.lda 2 _ rfl rfl, ?_⟩
    | refine ⟨h.lda 2 _ rfl rfl, ?_⟩
    | refine ⟨_, h.lda 3 _ rfl rfl, ?_⟩
    | refine ⟨_, _, _, h.lda 3 _ rfl rfl, ?_⟩
    | refine ⟨h.lda 3 _ rfl rfl, ?_⟩
    | refine ⟨_, h.lda 4 _ rfl rfl, ?_⟩
    | refine ⟨_, _, _, h.lda 4 _ rfl rfl, ?_⟩
    | refine ⟨h.lda 4 _ rfl rfl, ?_⟩
    | exact h.lda 0 _ rfl rfl
    | exact h.lda 1 _ rfl rfl
    | exact h.lda 2 _ rfl rfl
    | exact h.lda 3 _ rfl rfl
    | exact h.lda 4 _ rfl rfl
    | refine ⟨_, rfl, ?_⟩
    | refine ⟨_, _, rfl, ?_⟩
    | refine ⟨_, _, _, rfl, ?_⟩
    | refine ⟨_, _, _, _, _, _, _, _, _, _, _, _, rfl, ?_⟩
    | refine ⟨_, _, _, _, _, _, _, _, _, _, _, _, _, rfl, ?_⟩
    | refine ctt rfl ?_
    | refine cff rfl ?_
    | refine Meet.dup ?_
    | intro j
    | rw [ws]
    | simp only [ws, add_mk]
    | refine And.intro ?_ ?_)
  refine hY _ _ ?_
  dsimp only
  simp only [w1, w2, w3, w4, w5, w6, w7, w8, w03, w33, k1, k2, c1]
  (try simp only [w1, w2, w3, w4, w5, w6, w7, w8, w03, w33, k1, k2, c1] at h)
  repeat' (first
    | (refine New.at h (fun b w hh => ?_); clear h; have h := hh; clear hh)
    | (refine Drew.of h (fun w hh => ?_); clear h; have h := hh; clear hh)
    | (refine St.at h 0 _ rfl rfl rfl (fun w hh => ?_); clear h; have h := hh; clear hh; simp only [List.set_cons_zero, List.set_cons_succ] at h)
    | (refine St.at h 1 _ rfl rfl rfl (fun w hh => ?_); clear h; have h := hh; clear hh; simp only [List.set_cons_zero, List.set_cons_succ] at h)
    | (refine St.at h 2 _ rfl rfl rfl (fun w hh => ?_); clear h; have h := hh; clear hh; simp only [List.set_cons_zero, List.set_cons_succ] at h)
    | (refine St.at h 3 _ rfl rfl rfl (fun w hh => ?_); clear h; have h := hh; clear hh; simp only [List.set_cons_zero, List.set_cons_succ] at h)
    | (refine St.at h 4 _ rfl rfl rfl (fun w hh => ?_); clear h; have h := hh; clear hh; simp only [List.set_cons_zero, List.set_cons_succ] at h)
    | refine ⟨⟨by decide, by decide⟩, ?_⟩
    | (refine CallR.of (Add_last _ _ _ _ _ _ _ _ h) ?_; rintro _ w ⟨rfl, h⟩)
    | refine ⟨_, h.lda 0 _ rfl rfl, ?_⟩
    | refine ⟨_, _, _, h.lda 0 _ rfl rfl, ?_⟩
    | refine ⟨h.lda 0 _ rfl rfl, ?_⟩
    | refine ⟨_, h.lda 1 _ rfl rfl, ?_⟩
    | refine ⟨_, _, _, h.lda 1 _ rfl rfl, ?_⟩
    | refine ⟨h.lda 1 _ rfl rfl, ?_⟩
    | refine ⟨_, h.lda 2 _ rfl rfl, ?_⟩
    | refine ⟨_, _, _, h.lda 2 _ rfl rfl, ?_⟩
    | refine ⟨h.lda 2 _ rfl rfl, ?_⟩
    | refine ⟨_, h.lda 3 _ rfl rfl, ?_⟩
    | refine ⟨_, _, _, h.lda 3 _ rfl rfl, ?_⟩
    | refine ⟨h.lda 3 _ rfl rfl, ?_⟩
    | refine ⟨_, h.lda 4 _ rfl rfl, ?_⟩
    | refine ⟨_, _, _, h.lda 4 _ rfl rfl, ?_⟩
    | refine ⟨h.lda 4 _ rfl rfl, ?_⟩
    | exact h.lda 0 _ rfl rfl
    | exact h.lda 1 _ rfl rfl
    | exact h.lda 2 _ rfl rfl
    | exact h.lda 3 _ rfl rfl
    | exact h.lda 4 _ rfl rfl
    | refine ⟨_, rfl, ?_⟩
    | refine ⟨_, _, rfl, ?_⟩
    | refine ⟨_, _, _, rfl, ?_⟩
    | refine ⟨_, _, _, _, _, _, _, _, _, _, _, _, rfl, ?_⟩
    | refine ⟨_, _, _, _, _, _, _, _, _, _, _, _, _, rfl, ?_⟩
    | refine ctt rfl ?_
    | refine cff rfl ?_
    | refine Meet.dup ?_
    | intro j
    | rw [ws]
    | simp only [ws, add_mk]
    | refine And.intro ?_ ?_)
  refine hY _ _ ?_
  dsimp only
  simp only [w1, w2, w3, w4, w5, w6, w7, w8, w03, w33, k1, k2, c1]
  (try simp only [w1, w2, w3, w4, w5, w6, w7, w8, w03, w33, k1, k2, c1] at h)
  repeat' (first
    | (refine New.at h (fun b w hh => ?_); clear h; have h := hh; clear hh)
    | (refine Drew.of h (fun w hh => ?_); clear h; have h := hh; clear hh)
    | (refine St.at h 0 _ rfl rfl rfl (fun w hh => ?_); clear h; have h := hh; clear hh; simp only [List.set_cons_zero, List.set_cons_succ] at h)
    | (refine St.at h 1 _ rfl rfl rfl (fun w hh => ?_); clear h; have h := hh; clear hh; simp only [List.set_cons_zero, List.set_cons_succ] at h)
    | (refine St.at h 2 _ rfl rfl rfl (fun w hh => ?_); clear h; have h := hh; clear hh; simp only [List.set_cons_zero, List.set_cons_succ] at h)
    | (refine St.at h 3 _ rfl rfl rfl (fun w hh => ?_); clear h; have h := hh; clear hh; simp only [List.set_cons_zero, List.set_cons_succ] at h)
    | (refine St.at h 4 _ rfl rfl rfl (fun w hh => ?_); clear h; have h := hh; clear hh; simp only [List.set_cons_zero, List.set_cons_succ] at h)
    | refine ⟨⟨by decide, by decide⟩, ?_⟩
    | (refine CallR.of (Add_last _ _ _ _ _ _ _ _ h) ?_; rintro _ w ⟨rfl, h⟩)
    | refine ⟨_, h.lda 0 _ rfl rfl, ?_⟩
    | refine ⟨_, _, _, h.lda 0 _ rfl rfl, ?_⟩
    | refine ⟨h.lda 0 _ rfl rfl, ?_⟩
    | refine ⟨_, h.lda 1 _ rfl rfl, ?_⟩
    | refine ⟨_, _, _, h.lda 1 _ rfl rfl, ?_⟩
    | refine ⟨h.lda 1 _ rfl rfl, ?_⟩
    | refine ⟨_, h.lda 2 _ rfl rfl, ?_⟩
    | refine ⟨_, _, _, h.lda 2 _ rfl rfl, ?_⟩
    | refine ⟨h.lda 2 _ rfl rfl, ?_⟩
    | refine ⟨_, h.lda 3 _ rfl rfl, ?_⟩
    | refine ⟨_, _, _, h.lda 3 _ rfl rfl, ?_⟩
    | refine ⟨h.lda 3 _ rfl rfl, ?_⟩
    | refine ⟨_, h.lda 4 _ rfl rfl, ?_⟩
    | refine ⟨_, _, _, h.lda 4 _ rfl rfl, ?_⟩
    | refine ⟨h.lda 4 _ rfl rfl, ?_⟩
    | exact h.lda 0 _ rfl rfl
    | exact h.lda 1 _ rfl rfl
    | exact h.lda 2 _ rfl rfl
    | exact h.lda 3 _ rfl rfl
    | exact h.lda 4 _ rfl rfl
    | refine ⟨_, rfl, ?_⟩
    | refine ⟨_, _, rfl, ?_⟩
    | refine ⟨_, _, _, rfl, ?_⟩
    | refine ⟨_, _, _, _, _, _, _, _, _, _, _, _, rfl, ?_⟩
    | refine ⟨_, _, _, _, _, _, _, _, _, _, _, _, _, rfl, ?_⟩
    | refine ctt rfl ?_
    | refine cff rfl ?_
    | refine Meet.dup ?_
    | intro j
    | rw [ws]
    | simp only [ws, add_mk]
    | refine And.intro ?_ ?_)
  refine hY _ _ ?_
  dsimp only
  simp only [w1, w2, w3, w4, w5, w6, w7, w8, w03, w33, k1, k2, c1]
  (try simp only [w1, w2, w3, w4, w5, w6, w7, w8, w03, w33, k1, k2, c1] at h)
  repeat' (first
    | (refine New.at h (fun b w hh => ?_); clear h; have h := hh; clear hh)
    | (refine Drew.of h (fun w hh => ?_); clear h; have h := hh; clear hh)
    | (refine St.at h 0 _ rfl rfl rfl (fun w hh => ?_); clear h; have h := hh; clear hh; simp only [List.set_cons_zero, List.set_cons_succ] at h)
    | (refine St.at h 1 _ rfl rfl rfl (fun w hh => ?_); clear h; have h := hh; clear hh; simp only [List.set_cons_zero, List.set_cons_succ] at h)
    | (refine St.at h 2 _ rfl rfl rfl (fun w hh => ?_); clear h; have h := hh; clear hh; simp only [List.set_cons_zero, List.set_cons_succ] at h)
    | (refine St.at h 3 _ rfl rfl rfl (fun w hh => ?_); clear h; have h := hh; clear hh; simp only [List.set_cons_zero, List.set_cons_succ] at h)
    | (refine St.at h 4 _ rfl rfl rfl (fun w hh => ?_); clear h; have h := hh; clear hh; simp only [List.set_cons_zero, List.set_cons_succ] at h)
    | refine ⟨⟨by decide, by decide⟩, ?_⟩
    | (refine CallR.of (Add_last _ _ _ _ _ _ _ _ h) ?_; rintro _ w ⟨rfl, h⟩)
    | refine ⟨_, h.lda 0 _ rfl rfl, ?_⟩
    | refine ⟨_, _, _, h.lda 0 _ rfl rfl, ?_⟩
    | refine ⟨h.lda 0 _ rfl rfl, ?_⟩
    | refine ⟨_, h.lda 1 _ rfl rfl, ?_⟩
    | refine ⟨_, _, _, h.lda 1 _ rfl rfl, ?_⟩
    | refine ⟨h.lda 1 _ rfl rfl, ?_⟩
    | refine ⟨_, h.lda 2 _ rfl rfl, ?_⟩
    | refine ⟨_, _, _, h.lda 2 _ rfl rfl, ?_⟩
    | refine ⟨h.lda 2 _ rfl rfl, ?_⟩
    | refine ⟨_, h.lda 3 _ rfl rfl, ?_⟩
    | refine ⟨_, _, _, h.lda 3 _ rfl rfl, ?_⟩
    | refine ⟨h.lda 3 _ rfl rfl, ?_⟩
    | refine ⟨_, h.lda 4 _ rfl rfl, ?_⟩
    | refine ⟨_, _, _, h.lda 4 _ rfl rfl, ?_⟩
    | refine ⟨h.lda 4 _ rfl rfl, ?_⟩
    | exact h.lda 0 _ rfl rfl
    | exact h.lda 1 _ rfl rfl
    | exact h.lda 2 _ rfl rfl
    | exact h.lda 3 _ rfl rfl
    | exact h.lda 4 _ rfl rfl
    | refine ⟨_, rfl, ?_⟩
    | refine ⟨_, _, rfl, ?_⟩
    | refine ⟨_, _, _, rfl, ?_⟩
    | refine ⟨_, _, _, _, _, _, _, _, _, _, _, _, rfl, ?_⟩
    | refine ⟨_, _, _, _, _, _, _, _, _, _, _, _, _, rfl, ?_⟩
    | refine ctt rfl ?_
    | refine cff rfl ?_
    | refine Meet.dup ?_
    | intro j
    | rw [ws]
    | simp only [ws, add_mk]
    | refine And.intro ?_ ?_)
  refine hY _ _ ?_
  dsimp only
  simp only [w1, w2, w3, w4, w5, w6, w7, w8, w03, w33, k1, k2, c1]
  (try simp only [w1, w2, w3, w4, w5, w6, w7, w8, w03, w33, k1, k2, c1] at h)
  repeat' (first
    | (refine New.at h (fun b w hh => ?_); clear h; have h := hh; clear hh)
    | (refine Drew.of h (fun w hh => ?_); clear h; have h := hh; clear hh)
    | (refine St.at h 0 _ rfl rfl rfl (fun w hh => ?_); clear h; have h := hh; clear hh; simp only [List.set_cons_zero, List.set_cons_succ] at h)
    | (refine St.at h 1 _ rfl rfl rfl (fun w hh => ?_); clear h; have h := hh; clear hh; simp only [List.set_cons_zero, List.set_cons_succ] at h)
    | (refine St.at h 2 _ rfl rfl rfl (fun w hh => ?_); clear h; have h := hh; clear hh; simp only [List.set_cons_zero, List.set_cons_succ] at h)
    | (refine St.at h 3 _ rfl rfl rfl (fun w hh => ?_); clear h; have h := hh; clear hh; simp only [List.set_cons_zero, List.set_cons_succ] at h)
    | (refine St.at h 4 _ rfl rfl rfl (fun w hh => ?_); clear h; have h := hh; clear hh; simp only [List.set_cons_zero, List.set_cons_succ] at h)
    | refine ⟨⟨by decide, by decide⟩, ?_⟩
    | (refine CallR.of (Add_last _ _ _ _ _ _ _ _ h) ?_; rintro _ w ⟨rfl, h⟩)
    | refine ⟨_, h.lda 0 _ rfl rfl, ?_⟩
    | refine ⟨_, _, _, h.lda 0 _ rfl rfl, ?_⟩
    | refine ⟨h.lda 0 _ rfl rfl, ?_⟩
    | refine ⟨_, h.lda 1 _ rfl rfl, ?_⟩
    | refine ⟨_, _, _, h.lda 1 _ rfl rfl, ?_⟩
    | refine ⟨h.lda 1 _ rfl rfl, ?_⟩
    | refine ⟨_, h.lda 2 _ rfl rfl, ?_⟩
    | refine ⟨_, _, _, h.lda 2 _ rfl rfl, ?_⟩
    | refine ⟨h.lda 2 _ rfl rfl, ?_⟩
    | refine ⟨_, h.lda 3 _ rfl rfl, ?_⟩
    | refine ⟨_, _, _, h.lda 3 _ rfl rfl, ?_⟩
    | refine ⟨h.lda 3 _ rfl rfl, ?_⟩
    | refine ⟨_, h.lda 4 _ rfl rfl, ?_⟩
    | refine ⟨_, _, _, h.lda 4 _ rfl rfl, ?_⟩
    | refine ⟨h.lda 4 _ rfl rfl, ?_⟩
    | exact h.lda 0 _ rfl rfl
    | exact h.lda 1 _ rfl rfl
    | exact h.lda 2 _ rfl rfl
    | exact h.lda 3 _ rfl rfl
    | exact h.lda 4 _ rfl rfl
    | refine ⟨_, rfl, ?_⟩
    | refine ⟨_, _, rfl, ?_⟩
    | refine ⟨_, _, _, rfl, ?_⟩
    | refine ⟨_, _, _, _, _, _, _, _, _, _, _, _, rfl, ?_⟩
    | refine ⟨_, _, _, _, _, _, _, _, _, _, _, _, _, rfl, ?_⟩
    | refine ctt rfl ?_
    | refine cff rfl ?_
    | refine Meet.dup ?_
    | intro j
    | rw [ws]
    | simp only [ws, add_mk]
    | refine And.intro ?_ ?_)
  refine hY _ _ ?_
  dsimp only
  simp only [w1, w2, w3, w4, w5, w6, w7, w8, w03, w33, k1, k2, c1]
  (try simp only [w1, w2, w3, w4, w5, w6, w7, w8, w03, w33, k1, k2, c1] at h)
  repeat' (first
    | (refine New.at h (fun b w hh => ?_); clear h; have h := hh; clear hh)
    | (refine Drew.of h (fun w hh => ?_); clear h; have h := hh; clear hh)
    | (refine St.at h 0 _ rfl rfl rfl (fun w hh => ?_); clear h; have h := hh; clear hh; simp only [List.set_cons_zero, List.set_cons_succ] at h)
    | (refine St.at h 1 _ rfl rfl rfl (fun w hh => ?_); clear h; have h := hh; clear hh; simp only [List.set_cons_zero, List.set_cons_succ] at h)
    | (refine St.at h 2 _ rfl rfl rfl (fun w hh => ?_); clear h; have h := hh; clear hh; simp only [List.set_cons_zero, List.set_cons_succ] at h)
    | refine ⟨⟨by decide, by decide⟩, ?_⟩
    | (refine CallR.of (Value_none _ _ _ _ _ h) ?_; rintro _ w ⟨rfl, h⟩)
    | refine ⟨_, h.lda 0 _ rfl rfl, ?_⟩
    | refine ⟨_, _, _, h.lda 0 _ rfl rfl, ?_⟩
    | refine ⟨h.lda 0 _ rfl rfl, ?_⟩
    | refine ⟨_, h.lda 1 _ rfl rfl, ?_⟩
    | refine ⟨_, _, _, h.lda 1 _ rfl rfl, ?_⟩
    | refine ⟨h.lda 1 _ rfl rfl, ?_⟩
    | refine ⟨_, h.lda 2 _ rfl rfl, ?_⟩
    | refine ⟨_, _, _, h.lda 2 _ rfl rfl, ?_⟩
    | refine ⟨h.lda 2 _ rfl rfl, ?_⟩
    | exact h.lda 0 _ rfl rfl
    | exact h.lda 1 _ rfl rfl
    | exact h.lda 2 _ rfl rfl
    | refine ⟨_, rfl, ?_⟩
    | refine ⟨_, _, rfl, ?_⟩
    | refine ⟨_, _, _, rfl, ?_⟩
    | refine ⟨_, _, _, _, _, _, _, _, _, _, _, _, rfl, ?_⟩
    | refine ⟨_, _, _, _, _, _, _, _, _, _, _, _, _, rfl, ?_⟩
    | refine ctt rfl ?_
    | refine cff rfl ?_
    | refine Meet.dup ?_
    | intro j
    | rw [ws]
    | simp only [ws, add_mk]
    | refine And.intro ?_ ?_)
  exact s5 h.tail.tail.tail

theorem known_s3 {X : Bool × Int → World → Prop} {b bi : Nat} (hX : ∀ s w, kBody bi b (Ret fun v w' => v = .bool true ∧ ∃ A, Holds G w' A) X s w → X s w) (s4 : ∀ {w : World}, Holds G w (all (blk b t_string [.string ⟨#[36, 115, 117, 109]⟩, .string ⟨#[36, 109, 105, 110]⟩, .string ⟨#[36, 109, 97, 120]⟩, .string ⟨#[36, 102, 105, 114, 115, 116]⟩, .string ⟨#[36, 108, 97, 115, 116]⟩, .string ⟨#[36, 112, 117, 115, 104]⟩, .string ⟨#[36, 97, 100, 100, 84, 111, 83, 101, 116]⟩, .string ⟨#[36, 99, 111, 117, 110, 116]⟩] :: blk bi t_api_Value [.int .i64 0, .int .i64 0, .string em, .slice none 0 0, .slice none 0 0, .slice none 0 0, .int .i64 2, .int .i64 0, .string em, .slice none 0 0, .slice none 0 0, .slice none 0 0, .int .i64 4, .int .i64 3, .string em, .slice none 0 0, .slice none 0 0, .slice none 0 0, .int .i64 3, .int .i64 3, .string em, .slice none 0 0, .slice none 0 0, .slice none 0 0, .int .i64 0, .int .i64 0, .string em, .slice none 0 0, .slice none 0 0, .slice none 0 0] :: L)) → X (false, 4) w) : ∀ {w : World}, Holds G w (all (blk b t_string [.string ⟨#[36, 115, 117, 109]⟩, .string ⟨#[36, 109, 105, 110]⟩, .string ⟨#[36, 109, 97, 120]⟩, .string ⟨#[36, 102, 105, 114, 115, 116]⟩, .string ⟨#[36, 108, 97, 115, 116]⟩, .string ⟨#[36, 112, 117, 115, 104]⟩, .string ⟨#[36, 97, 100, 100, 84, 111, 83, 101, 116]⟩, .string ⟨#[36, 99, 111, 117, 110, 116]⟩] :: blk bi t_api_Value [.int .i64 0, .int .i64 0, .string em, .slice none 0 0, .slice none 0 0, .slice none 0 0, .int .i64 2, .int .i64 0, .string em, .slice none 0 0, .slice none 0 0, .slice none 0 0, .int .i64 4, .int .i64 3, .string em, .slice none 0 0, .slice none 0 0, .slice none 0 0, .int .i64 3, .int .i64 3, .string em, .slice none 0 0, .slice none 0 0, .slice none 0 0, .int .i64 0, .int .i64 0, .string em, .slice none 0 0, .slice none 0 0, .slice none 0 0] :: L)) → X (false, 3) w := by
  intro w h
  refine hX _ _ ?_
  unfold kBody
  dsimp only
  repeat' (first
    | (refine New.at h (fun b w hh => ?_); clear h; have h := hh; clear hh)
    | (refine Drew.of h (fun w hh => ?_); clear h; have h := hh; clear hh)
    | (refine St.at h 0 _ rfl rfl rfl (fun w hh => ?_); clear h; have h := hh; clear hh; simp only [List.set_cons_zero, List.set_cons_succ] at h)
    | (refine St.at h 1 _ rfl rfl rfl (fun w hh => ?_); clear h; have h := hh; clear hh; simp only [List.set_cons_zero, List.set_cons_succ] at h)
    | (refine St.at h 2 _ rfl rfl rfl (fun w hh => ?_); clear h; have h := hh; clear hh; simp only [List.set_cons_zero, List.set_cons_succ] at h)
    | refine ⟨⟨by decide, by decide⟩, ?_⟩
    | (refine CallR.of (Kind_of _ 4 (by decide) h) ?_; rintro _ w ⟨rfl, h⟩)
    | (refine CallR.of (New_plain 4 f_Paccum_State_first (.inr (.inr (.inl ⟨rfl, rfl⟩))) h) ?_; rintro _ w ⟨s, rfl, h⟩)
    | (refine CallR.of (Value_none _ _ _ _ _ h) ?_; rintro _ w ⟨rfl, h⟩)
    | refine ⟨_, h.lda 0 _ rfl rfl, ?_⟩
    | refine ⟨_, _, _, h.lda 0 _ rfl rfl, ?_⟩
    | refine ⟨h.lda 0 _ rfl rfl, ?_⟩
    | refine ⟨_, h.lda 1 _ rfl rfl, ?_⟩
    | refine ⟨_, _, _, h.lda 1 _ rfl rfl, ?_⟩
    | refine ⟨h.lda 1 _ rfl rfl, ?_⟩
    | refine ⟨_, h.lda 2 _ rfl rfl, ?_⟩
    | refine ⟨_, _, _, h.lda 2 _ rfl rfl, ?_⟩
    | refine ⟨h.lda 2 _ rfl rfl, ?_⟩
    | exact h.lda 0 _ rfl rfl
    | exact h.lda 1 _ rfl rfl
    | exact h.lda 2 _ rfl rfl
    | refine ⟨_, rfl, ?_⟩
    | refine ⟨_, _, rfl, ?_⟩
    | refine ⟨_, _, _, rfl, ?_⟩
    | refine ⟨_, _, _, _, _, _, _, _, _, _, _, _, rfl, ?_⟩
    | refine ⟨_, _, _, _, _, _, _, _, _, _, _, _, _, rfl, ?_⟩
    | refine ctt rfl ?_
    | refine cff rfl ?_
    | refine Meet.dup ?_
    | intro j
    | rw [ws]
    | simp only [ws, add_mk]
    | refine And.intro ?_ ?_)
  replace h := h.bring 1 rfl
  simp only [List.eraseIdx_cons_zero, List.eraseIdx_cons_succ] at h
  refine Loop.start (fun Y hY => ?_)
  refine hY _ _ ?_
  dsimp only
  repeat' (first
    | (refine New.at h (fun b w hh => ?_); clear h; have h := hh; clear hh)
    | (refine Drew.of h (fun w hh => ?_); clear h; have h := hh; clear hh)
    | (refine St.at h 0 _ rfl rfl rfl (fun w hh => ?_); clear h; have h := hh; clear hh; simp only [List.set_cons_zero, List.set_cons_succ] at h)
    | (refine St.at h 1 _ rfl rfl rfl (fun w hh => ?_); clear h; have h := hh; clear hh; simp only [List.set_cons_zero, List.set_cons_succ] at h)
    | (refine St.at h 2 _ rfl rfl rfl (fun w hh => ?_); clear h; have h := hh; clear hh; simp only [List.set_cons_zero, List.set_cons_succ] at h)
    | (refine St.at h 3 _ rfl rfl rfl (fun w hh => ?_); clear h; have h := hh; clear hh; simp only [List.set_cons_zero, List.set_cons_succ] at h)
    | (refine St.at h 4 _ rfl rfl rfl (fun w hh => ?_); clear h; have h := hh; clear hh; simp only [List.set_cons_zero, List.set_cons_succ] at h)
    | refine ⟨⟨by decide, by decide⟩, ?_⟩
    | (refine CallR.of (Add_first0 _ _ _ _ _ _ _ h) ?_; rintro _ w ⟨rfl, h⟩)
    | refine ⟨_, h.lda 0 _ rfl rfl, ?_⟩
    | refine ⟨_, _, _, h.lda 0 _ rfl rfl, ?_⟩
    | refine ⟨h.lda 0 _ rfl rfl, ?_⟩
    | refine ⟨_, h.lda 1 _ rfl rfl, ?_⟩
    | refine ⟨_, _, _, h.lda 1 _ rfl rfl, ?_⟩
    | refine ⟨h.lda 1 _ rfl rfl, ?_⟩
    | refine ⟨_, h.lda 2 _ rfl rfl, ?_⟩
    | refine ⟨_, _, _, h.lda 2 _ rfl rfl, ?_⟩
    | refine ⟨h.lda 2 _ rfl rfl, ?_⟩
    | refine ⟨_, h.lda 3 _ rfl rfl, ?_⟩
    | refine ⟨_, _, _, h.lda 3 _ rfl rfl, ?_⟩
    | refine ⟨h.lda 3 _ rfl rfl, ?_⟩
    | refine ⟨_, h.lda 4 _ rfl rfl, ?_⟩
    | refine ⟨_, _, _, h.lda 4 _ rfl rfl, ?_⟩
    | refine ⟨h.lda 4 _ rfl rfl, ?_⟩
    | exact h.lda 0 _ rfl rfl
    | exact h.lda 1 _ rfl rfl
    | exact h.lda 2 _ rfl rfl
    | exact h.lda 3 _ rfl rfl
    | exact h.lda 4 _ rfl rfl
    | refine ⟨_, rfl, ?_⟩
    | refine ⟨_, _, rfl, ?_⟩
    | refine ⟨_, _, _, rfl, ?_⟩
    | refine ⟨_, _, _, _, _, _, _, _, _, _, _, _, rfl, ?_⟩
    | refine ⟨_, _, _, _, _, _, _, _, _, _, _, _, _, rfl, ?_⟩
    | refine ctt rfl ?_
    | refine cff rfl ?_
    | refine Meet.dup ?_
    | intro j
    | rw [ws]
    | simp only [ws, add_mk]
    | refine And.intro ?_ ?_)
  refine hY _ _ ?_
  dsimp only
  simp only [w1, w2, w3, w4, w5, w6, w7, w8, w03, w33, k1, k2, c1]
  (try simp only [w1, w2, w3, w4, w5, w6, w7, w8, w03, w33, k1, k2, c1] at h)
  repeat' (first
    | (refine New.at h (fun b w hh => ?_); clear h; have h := hh; clear hh)
    | (refine Drew.of h (fun w hh => ?_); clear h; have h := hh; clear hh)
    | (refine St.at h 0 _ rfl rfl rfl (fun w hh => ?_); clear h; have h := hh; clear hh; simp only [List.set_cons_zero, List.set_cons_succ] at h)
    | (refine St.at h 1 _ rfl rfl rfl (fun w hh => ?_); clear h; have h := hh; clear hh; simp only [List.set_cons_zero, List.set_cons_succ] at h)
    | (refine St.at h 2 _ rfl rfl rfl (fun w hh => ?_); clear h; have h := hh; clear hh; simp only [List.set_cons_zero, List.set_cons_succ] at h)
    | (refine St.at h 3 _ rfl rfl rfl (fun w hh => ?_); clear h; have h := hh; clear hh; simp only [List.set_cons_zero, List.set_cons_succ] at h)
    | (refine St.at h 4 _ rfl rfl rfl (fun w hh => ?_); clear h; have h := hh; clear hh; simp only [List.set_cons_zero, List.set_cons_succ] at h)
    | refine ⟨⟨by decide, by decide⟩, ?_⟩
    | (refine CallR.of (Add_first1 _ _ _ _ _ _ _ _ (by decide) h) ?_; rintro _ w ⟨rfl, h⟩)
    | refine ⟨_, h.lda 0 _ rfl rfl, ?_⟩
    | refine ⟨_, _, _, h.lda 0 _ rfl rfl, ?_⟩
    | refine ⟨h.lda 0 _ rfl rfl, ?_⟩
    | refine ⟨_, h.lda 1 _ rfl rfl, ?_⟩
    | refine ⟨_, _, _, h.lda 1 _ rfl rfl, ?_⟩
    | refine ⟨h.lda 1 _ rfl rfl, ?_⟩
    | refine ⟨_, h.lda 2 _ rfl rfl, ?_⟩
    | refine ⟨_, _, _, h.lda 2 _ rfl rfl, ?_⟩
    | refine ⟨h.lda 2 _ rfl rfl, ?_⟩
    | refine ⟨_, h.lda 3 _ rfl rfl, ?_⟩
    | refine ⟨_, _, _, h.lda 3 _ rfl rfl, ?_⟩
    | refine ⟨h.lda 3 _ rfl rfl, ?_⟩
    | refine ⟨_, h.lda 4 _ rfl rfl, ?_⟩
    | refine ⟨_, _, _, h.lda 4 _ rfl rfl, ?_⟩
    | refine ⟨h.lda 4 _ rfl rfl, ?_⟩
    | exact h.lda 0 _ rfl rfl
    | exact h.lda 1 _ rfl rfl
    | exact h.lda 2 _ rfl rfl
    | exact h.lda 3 _ rfl rfl
    | exact h.lda 4 _ rfl rfl
    | refine ⟨_, rfl, ?_⟩
    | refine ⟨_, _, rfl, ?_⟩
    | refine ⟨_, _, _, rfl, ?_⟩
    | refine ⟨_, _, _, _, _, _, _, _, _, _, _, _, rfl, ?_⟩
    | refine ⟨_, _, _, _, _, _, _, _, _, _, _, _, _, rfl, ?_⟩
    | refine ctt rfl ?_
    | refine cff rfl ?_
    | refine Meet.dup ?_
    | intro j
    | rw [ws]
    | simp only [ws, add_mk]
    | refine And.intro ?_ ?_)
  refine hY _ _ ?_
  dsimp only
  simp only [w1, w2, w3, w4, w5, w6, w7, w8, w03, w33, k1, k2, c1]
  (try simp only [w1, w2, w3, w4, w5, w6, w7, w8, w03, w33, k1, k2, c1] at h)
  repeat' (first
    | (refine New.at h (fun b w hh => ?_); clear h; have h := hh; clear hh)
    | (refine Drew.of h (fun w hh => ?_); clear h; have h := hh; clear hh)
    | (refine St.at h 0 _ rfl rfl rfl (fun w hh => ?_); clear h; have h := hh; clear hh; simp only [List.set_cons_zero, List.set_cons_succ] at h)
    | (refine St.at h 1 _ rfl rfl rfl (fun w hh => ?_); clear h; have h := hh; clear hh; simp only [List.set_cons_zero, List.set_cons_succ] at h)
    | (refine St.at h 2 _ rfl rfl rfl (fun w hh => ?_); clear h; have h := hh; clear hh; simp only [List.set_cons_zero, List.set_cons_succ] at h)
    | (refine St.at h 3 _ rfl rfl rfl (fun w hh => ?_); clear h; have h := hh; clear hh; simp only [List.set_cons_zero, List.set_cons_succ] at h)
    | (refine St.at h 4 _ rfl rfl rfl (fun w hh => ?_); clear h; have h := hh; clear hh; simp only [List.set_cons_zero, List.set_cons_succ] at h)
    | refine ⟨⟨by decide, by decide⟩, ?_⟩
    | (refine CallR.of (Add_first1 _ _ _ _ _ _ _ _ (by decide) h) ?_; rintro _ w ⟨rfl, h⟩)
    | refine ⟨_, h.lda 0 _ rfl rfl, ?_⟩
    | refine ⟨_, _, _, h.lda 0 _ rfl rfl, ?_⟩
    | refine ⟨h.lda 0 _ rfl rfl, ?_⟩
    | refine ⟨_, h.lda 1 _ rfl rfl, ?_⟩
    | refine ⟨_, _, _, h.lda 1 _ rfl rfl, ?_⟩
    | refine ⟨h.lda 1 _ rfl rfl, ?_⟩
    | refine ⟨_, h.lda 2 _ rfl rfl, ?_⟩
    | refine ⟨_, _, _, h.lda 2 _ rfl rfl, ?_⟩
    | refine ⟨h.lda 2 _ rfl rfl, ?_⟩
    | refine ⟨_, h.lda 3 _ rfl rfl, ?_⟩
    | refine ⟨_, _, _, h.lda 3 _ rfl rfl, ?_⟩
    | refine ⟨h.lda 3 _ rfl rfl, ?_⟩
    | refine ⟨_, h.lda 4 _ rfl rfl, ?_⟩
    | refine ⟨_, _, _, h.lda 4 _ rfl rfl, ?_⟩
    | refine ⟨h.lda 4 _ rfl rfl, ?_⟩
    | exact h.lda 0 _ rfl rfl
    | exact h.lda 1 _ rfl rfl
    | exact h.lda 2 _ rfl rfl
    | exact h.lda 3 _ rfl rfl
    | exact h.lda 4 _ rfl rfl
    | refine ⟨_, rfl, ?_⟩
    | refine ⟨_, _, rfl, ?_⟩
    | refine ⟨_, _, _, rfl, ?_⟩
    | refine ⟨_, _, _, _, _, _, _, _, _, _, _, _, rfl, ?_⟩
    | refine ⟨_, _, _, _, _, _, _, _, _, _, _, _, _, rfl, ?_⟩
    | refine ctt rfl ?_
    | refine cff rfl ?_
    | refine Meet.dup ?_
    | intro j
    | rw [ws]
    | simp only [ws, add_mk]
    | refine And.intro ?_ ?_)
  refine hY _ _ ?_
  dsimp only
  simp only [w1, w2, w3, w4, w5, w6, w7, w8, w03, w33, k1, k2, c1]
  (try simp only [w1, w2, w3, w4, w5, w6, w7, w8, w03, w33, k1, k2, c1] at h)
  repeat' (first
    | (refine New.at h (fun b w hh => ?_); clear h; have h := hh; clear hh)
    | (refine Drew.of h (fun w hh => ?_); clear h; have h := hh; clear hh)
    | (refine St.at h 0 _ rfl rfl rfl (fun w hh => ?_); clear h; have h := hh; clear hh; simp only [List.set_cons_zero, List.set_cons_succ] at h)
    | (refine St.at h 1 _ rfl rfl rfl (fun w hh => ?_); clear h; have h := hh; clear hh; simp only [List.set_cons_zero, List.set_cons_succ] at h)
    | (refine St.at h 2 _ rfl rfl rfl (fun w hh => ?_); clear h; have h := hh; clear hh; simp only [List.set_cons_zero, List.set_cons_succ] at h)
    | (refine St.at h 3 _ rfl rfl rfl (fun w hh => ?_); clear h; have h := hh; clear hh; simp only [List.set_cons_zero, List.set_cons_succ] at h)
    | (refine St.at h 4 _ rfl rfl rfl (fun w hh => ?_); clear h; have h := hh; clear hh; simp only [List.set_cons_zero, List.set_cons_succ] at h)
    | refine ⟨⟨by decide, by decide⟩, ?_⟩
    | (refine CallR.of (Add_first1 _ _ _ _ _ _ _ _ (by decide) h) ?_; rintro _ w ⟨rfl, h⟩)
    | refine ⟨_, h.lda 0 _ rfl rfl, ?_⟩
    | refine ⟨_, _, _, h.lda 0 _ rfl rfl, ?_⟩
    | refine ⟨h.lda 0 _ rfl rfl, ?_⟩
    | refine ⟨_, h.lda 1 _ rfl rfl, ?_⟩
    | refine ⟨_, _, _, h.lda 1 _ rfl rfl, ?_⟩
    | refine ⟨h.lda 1 _ rfl rfl, ?_⟩
    | refine ⟨_, h.lda 2 _ rfl rfl, ?_⟩
    | refine ⟨_, _, _, h.lda 2 _ rfl rfl, ?_⟩
    | refine ⟨h.lda 2 _ rfl rfl, ?_⟩
    | refine ⟨_, h.lda 3 _ rfl rfl, ?_⟩
    | refine ⟨_, _, _, h.lda 3 _ rfl rfl, ?_⟩
    | refine ⟨h.lda 3 _ rfl rfl, ?_⟩
    | refine ⟨_, h.lda 4 _ rfl rfl, ?_⟩
    | refine ⟨_, _, _, h.lda 4 _ rfl rfl, ?_⟩
    | refine ⟨h.lda 4 _ rfl rfl, ?_⟩
    | exact h.lda 0 _ rfl rfl
    | exact h.lda 1 _ rfl rfl
    | exact h.lda 2 _ rfl rfl
    | exact h.lda 3 _ rfl rfl
    | exact h.lda 4 _ rfl rfl
    | refine ⟨_, rfl, ?_⟩
    | refine ⟨_, _, rfl, ?_⟩
    | refine ⟨_, _, _, rfl, ?_⟩
    | refine ⟨_, _, _, _, _, _, _, _, _, _, _, _, rfl, ?_⟩
    | refine ⟨_, _, _, _, _, _, _, _, _, _, _, _, _, rfl, ?_⟩
    | refine ctt rfl ?_
    | refine cff rfl ?_
    | refine Meet.dup ?_
    | intro j
    | rw [ws]
    | simp only [ws, add_mk]
    | refine And.intro ?_ ?_)
  refine hY _ _ ?_
  dsimp only
  simp only [w1, w2, w3, w4, w5, w6, w7, w8, w03, w33, k1, k2, c1]
  (try simp only [w1, w2, w3, w4, w5, w6, w7, w8, w03, w33, k1, k2, c1] at h)
  repeat' (first
    | (refine New.at h (fun b w hh => ?_); clear h; have h := hh; clear hh)
    | (refine Drew.of h (fun w hh => ?_); clear h; have h := hh; clear hh)
    | (refine St.at h 0 _ rfl rfl rfl (fun w hh => ?_); clear h; have h := hh; clear hh; simp only [List.set_cons_zero, List.set_cons_succ] at h)
    | (refine St.at h 1 _ rfl rfl rfl (fun w hh => ?_); clear h; have h := hh; clear hh; simp only [List.set_cons_zero, List.set_cons_succ] at h)
    | (refine St.at h 2 _ rfl rfl rfl (fun w hh => ?_); clear h; have h := hh; clear hh; simp only [List.set_cons_zero, List.set_cons_succ] at h)
    | (refine St.at h 3 _ rfl rfl rfl (fun w hh => ?_); clear h; have h := hh; clear hh; simp only [List.set_cons_zero, List.set_cons_succ] at h)
    | (refine St.at h 4 _ rfl rfl rfl (fun w hh => ?_); clear h; have h := hh; clear hh; simp only [List.set_cons_zero, List.set_cons_succ] at h)
    | refine ⟨⟨by decide, by decide⟩, ?_⟩
    | (refine CallR.of (Add_first1 _ _ _ _ _ _ _ _ (by decide) h) ?_; rintro _ w ⟨rfl, h⟩)
    | refine ⟨_, h.lda 0 _ rfl rfl, ?_⟩
    | refine ⟨_, _, _, h.lda 0 _ rfl rfl, ?_⟩
    | refine ⟨h.lda 0 _ rfl rfl, ?_⟩
    | refine ⟨_, h.lda 1 _ rfl rfl, ?_⟩
    | refine ⟨_, _, _, h.lda 1 _ rfl rfl, ?_⟩
    | refine ⟨h.lda 1 _ rfl rfl, ?_⟩
    | refine ⟨_, h.lda 2 _ rfl rfl, ?_⟩
    | refine ⟨_, _, _, h.lda 2 _ rfl rfl, ?_⟩
    | refine ⟨h.lda 2 _ rfl rfl, ?_⟩
    | refine ⟨_, h.lda 3 _ rfl rfl, ?_⟩
    | refine ⟨_, _, _, h.lda 3 _ rfl rfl, ?_⟩
    | refine ⟨h.lda 3 _ rfl rfl, ?_⟩
    | refine ⟨_, h.lda 4 _ rfl rfl, ?_⟩
    | refine ⟨_, _, _, h.lda 4 _ rfl rfl, ?_⟩
    | refine ⟨h.lda 4 _ rfl rfl, ?_⟩
    | exact h.lda 0 _ rfl rfl
    | exact h.lda 1 _ rfl rfl
    | exact h.lda 2 _ rfl rfl
    | exact h.lda 3 _ rfl rfl
    | exact h.lda 4 _ rfl rfl
    | refine ⟨_, rfl, ?_⟩
    | refine ⟨_, _, rfl, ?_⟩
    | refine ⟨_, _, _, rfl, ?_⟩
    | refine ⟨_, _, _, _, _, _, _, _, _, _, _, _, rfl, ?_⟩
    | refine ⟨_, _, _, _, _, _, _, _, _, _, _, _, _, rfl, ?_⟩
    | refine ctt rfl ?_
    | refine cff rfl ?_
    | refine Meet.dup ?_
    | intro j
    | rw [ws]
    | simp only [ws, add_mk]
    | refine And.intro ?_ ?_)
  refine hY _ _ ?_
  dsimp only
  simp only [w1, w2, w3, w4, w5, w6, w7, w8, w03, w33, k1, k2, c1]
  (try simp only [w1, w2, w3, w4, w5, w6, w7, w8, w03, w33, k1, k2, c1] at h)
  repeat' (first
    | (refine New.at h (fun b w hh => ?_); clear h; have h := hh; clear hh)
    | (refine Drew.of h (fun w hh => ?_); clear h; have h := hh; clear hh)
    | (refine St.at h 0 _ rfl rfl rfl (fun w hh => ?_); clear h; have h := hh; clear hh; simp only [List.set_cons_zero, List.set_cons_succ] at h)
    | (refine St.at h 1 _ rfl rfl rfl (fun w hh => ?_); clear h; have h := hh; clear hh; simp only [List.set_cons_zero, List.set_cons_succ] at h)
    | (refine St.at h 2 _ rfl rfl rfl (fun w hh => ?_); clear h; have h := hh; clear hh; simp only [List.set_cons_zero, List.set_cons_succ] at h)
    | refine ⟨⟨by decide, by decide⟩, ?_⟩
    | (refine CallR.of (Value_none _ _ _ _ _ h) ?_; rintro _ w ⟨rfl, h⟩)
    | refine ⟨_, h.lda 0 _ rfl rfl, ?_⟩
    | refine ⟨_, _, _, h.lda 0 _ rfl rfl, ?_⟩
    | refine ⟨h.lda 0 _ rfl rfl, ?_⟩
    | refine ⟨_, h.lda 1 _ rfl rfl, ?_⟩
    | refine ⟨_, _, _, h.lda 1 _ rfl rfl, ?_⟩
    | refine ⟨h.lda 1 _ rfl rfl, ?_⟩
    | refine ⟨_, h.lda 2 _ rfl rfl, ?_⟩
    | refine ⟨_, _, _, h.lda 2 _ rfl rfl, ?_⟩
    | refine ⟨h.lda 2 _ rfl rfl, ?_⟩
    | exact h.lda 0 _ rfl rfl
    | exact h.lda 1 _ rfl rfl
    | exact h.lda 2 _ rfl rfl
    | refine ⟨_, rfl, ?_⟩
    | refine ⟨_, _, rfl, ?_⟩
    | refine ⟨_, _, _, rfl, ?_⟩
    | refine ⟨_, _, _, _, _, _, _, _, _, _, _, _, rfl, ?_⟩
    | refine ⟨_, _, _, _, _, _, _, _, _, _, _, _, _, rfl, ?_⟩
    | refine ctt rfl ?_
    | refine cff rfl ?_
    | refine Meet.dup ?_
    | intro j
    | rw [ws]
    | simp only [ws, add_mk]
    | refine And.intro ?_ ?_)
  exact s4 h.tail.tail.tail

theorem known_s2 {X : Bool × Int → World → Prop} {b bi : Nat} (hX : ∀ s w, kBody bi b (Ret fun v w' => v = .bool true ∧ ∃ A, Holds G w' A) X s w → X s w) (s3 : ∀ {w : World}, Holds G w (all (blk b t_string [.string ⟨#[36, 115, 117, 109]⟩, .string ⟨#[36, 109, 105, 110]⟩, .string ⟨#[36, 109, 97, 120]⟩, .string ⟨#[36, 102, 105, 114, 115, 116]⟩, .string ⟨#[36, 108, 97, 115, 116]⟩, .string ⟨#[36, 112, 117, 115, 104]⟩, .string ⟨#[36, 97, 100, 100, 84, 111, 83, 101, 116]⟩, .string ⟨#[36, 99, 111, 117, 110, 116]⟩] :: blk bi t_api_Value [.int .i64 0, .int .i64 0, .string em, .slice none 0 0, .slice none 0 0, .slice none 0 0, .int .i64 2, .int .i64 0, .string em, .slice none 0 0, .slice none 0 0, .slice none 0 0, .int .i64 4, .int .i64 3, .string em, .slice none 0 0, .slice none 0 0, .slice none 0 0, .int .i64 3, .int .i64 3, .string em, .slice none 0 0, .slice none 0 0, .slice none 0 0, .int .i64 0, .int .i64 0, .string em, .slice none 0 0, .slice none 0 0, .slice none 0 0] :: L)) → X (false, 3) w) : ∀ {w : World}, Holds G w (all (blk b t_string [.string ⟨#[36, 115, 117, 109]⟩, .string ⟨#[36, 109, 105, 110]⟩, .string ⟨#[36, 109, 97, 120]⟩, .string ⟨#[36, 102, 105, 114, 115, 116]⟩, .string ⟨#[36, 108, 97, 115, 116]⟩, .string ⟨#[36, 112, 117, 115, 104]⟩, .string ⟨#[36, 97, 100, 100, 84, 111, 83, 101, 116]⟩, .string ⟨#[36, 99, 111, 117, 110, 116]⟩] :: blk bi t_api_Value [.int .i64 0, .int .i64 0, .string em, .slice none 0 0, .slice none 0 0, .slice none 0 0, .int .i64 2, .int .i64 0, .string em, .slice none 0 0, .slice none 0 0, .slice none 0 0, .int .i64 4, .int .i64 3, .string em, .slice none 0 0, .slice none 0 0, .slice none 0 0, .int .i64 3, .int .i64 3, .string em, .slice none 0 0, .slice none 0 0, .slice none 0 0, .int .i64 0, .int .i64 0, .string em, .slice none 0 0, .slice none 0 0, .slice none 0 0] :: L)) → X (false, 2) w := by
  intro w h
  refine hX _ _ ?_
  unfold kBody
  dsimp only
  repeat' (first
    | (refine New.at h (fun b w hh => ?_); clear h; have h := hh; clear hh)
    | (refine Drew.of h (fun w hh => ?_); clear h; have h := hh; clear hh)
    | (refine St.at h 0 _ rfl rfl rfl (fun w hh => ?_); clear h; have h := hh; clear hh; simp only [List.set_cons_zero, List.set_cons_succ] at h)
    | (refine St.at h 1 _ rfl rfl rfl (fun w hh => ?_); clear h; have h := hh; clear hh; simp only [List.set_cons_zero, List.set_cons_succ] at h)
    | (refine St.at h 2 _ rfl rfl rfl (fun w hh => ?_); clear h; have h := hh; clear hh; simp only [List.set_cons_zero, List.set_cons_succ] at h)
    | refine ⟨⟨by decide, by decide⟩, ?_⟩
    | (refine CallR.of (Kind_of _ 3 (by decide) h) ?_; rintro _ w ⟨rfl, h⟩)
    | (refine CallR.of (New_plain 3 f_Paccum_State_greatest (.inr (.inl ⟨rfl, rfl⟩)) h) ?_; rintro _ w ⟨s, rfl, h⟩)
    | (refine CallR.of (Value_none _ _ _ _ _ h) ?_; rintro _ w ⟨rfl, h⟩)
    | refine ⟨_, h.lda 0 _ rfl rfl, ?_⟩
    | refine ⟨_, _, _, h.lda 0 _ rfl rfl, ?_⟩
    | refine ⟨h.lda 0 _ rfl rfl, ?_⟩
    | refine ⟨_, h.lda 1 _ rfl rfl, ?_⟩
    | refine ⟨_, _, _, h.lda 1 _ rfl rfl, ?_⟩
    | refine ⟨h.lda 1 _ rfl rfl, ?_⟩
    | refine ⟨_, h.lda 2 _ rfl rfl, ?_⟩
    | refine ⟨_, _, _, h.lda 2 _ rfl rfl, ?_⟩
    | refine ⟨h.lda 2 _ rfl rfl, ?_⟩
    | exact h.lda 0 _ rfl rfl
    | exact h.lda 1 _ rfl rfl
    | exact h.lda 2 _ rfl rfl
    | refine ⟨_, rfl, ?_⟩
    | refine ⟨_, _, rfl, ?_⟩
    | refine ⟨_, _, _, rfl, ?_⟩
    | refine ⟨_, _, _, _, _, _, _, _, _, _, _, _, rfl, ?_⟩
    | refine ⟨_, _, _, _, _, _, _, _, _, _, _, _, _, rfl, ?_⟩
    | refine ctt rfl ?_
    | refine cff rfl ?_
    | refine Meet.dup ?_
    | intro j
    | rw [ws]
    | simp only [ws, add_mk]
    | refine And.intro ?_ ?_)
  replace h := h.bring 1 rfl
  simp only [List.eraseIdx_cons_zero, List.eraseIdx_cons_succ] at h
  refine Loop.start (fun Y hY => ?_)
  refine hY _ _ ?_
  dsimp only
  repeat' (first
    | (refine New.at h (fun b w hh => ?_); clear h; have h := hh; clear hh)
    | (refine Drew.of h (fun w hh => ?_); clear h; have h := hh; clear hh)
    | (refine St.at h 0 _ rfl rfl rfl (fun w hh => ?_); clear h; have h := hh; clear hh; simp only [List.set_cons_zero, List.set_cons_succ] at h)
    | (refine St.at h 1 _ rfl rfl rfl (fun w hh => ?_); clear h; have h := hh; clear hh; simp only [List.set_cons_zero, List.set_cons_succ] at h)
    | (refine St.at h 2 _ rfl rfl rfl (fun w hh => ?_); clear h; have h := hh; clear hh; simp only [List.set_cons_zero, List.set_cons_succ] at h)
    | (refine St.at h 3 _ rfl rfl rfl (fun w hh => ?_); clear h; have h := hh; clear hh; simp only [List.set_cons_zero, List.set_cons_succ] at h)
    | (refine St.at h 4 _ rfl rfl rfl (fun w hh => ?_); clear h; have h := hh; clear hh; simp only [List.set_cons_zero, List.set_cons_succ] at h)
    | refine ⟨⟨by decide, by decide⟩, ?_⟩
    | (refine CallR.of (Add_greatest_skip _ _ _ _ _ _ _ (by decide) h) ?_; rintro _ w ⟨rfl, h⟩)
    | refine ⟨_, h.lda 0 _ rfl rfl, ?_⟩
    | refine ⟨_, _, _, h.lda 0 _ rfl rfl, ?_⟩
    | refine ⟨h.lda 0 _ rfl rfl, ?_⟩
    | refine ⟨_, h.lda 1 _ rfl rfl, ?_⟩
    | refine ⟨_, _, _, h.lda 1 _ rfl rfl, ?_⟩
    | refine ⟨h.lda 1 _ rfl rfl, ?_⟩
    | refine ⟨_, h.lda 2 _ rfl rfl, ?_⟩
    | refine ⟨_, _, _, h.lda 2 _ rfl rfl, ?_⟩
    | refine ⟨h.lda 2 _ rfl rfl, ?_⟩
    | refine ⟨_, h.lda 3 _ rfl rfl, ?_⟩
    | refine ⟨_, _, _, h.lda 3 _ rfl rfl, ?_⟩
    | refine ⟨h.lda 3 _ rfl rfl, ?_⟩
    | refine ⟨_, h.lda 4 _ rfl rfl, ?_⟩
    | refine ⟨_, _, _, h.lda 4 _ rfl rfl, ?_⟩
    | refine ⟨h.lda 4 _ rfl rfl, ?_⟩
    | exact h.lda 0 _ rfl rfl
    | exact h.lda 1 _ rfl rfl
    | exact h.lda 2 _ rfl rfl
    | exact h.lda 3 _ rfl rfl
    | exact h.lda 4 _ rfl rfl
    | refine ⟨_, rfl, ?_⟩
    | refine ⟨_, _, rfl, ?_⟩
    | refine ⟨_, _, _, rfl, ?_⟩
    | refine ⟨_, _, _, _, _, _, _, _, _, _, _, _, rfl, ?_⟩
    | refine ⟨_, _, _, _, _, _, _, _, _, _, _, _, _, rfl, ?_⟩
    | refine ctt rfl ?_
    | refine cff rfl ?_
    | refine Meet.dup ?_
    | intro j
    | rw [ws]
    | simp only [ws, add_mk]
    | refine And.intro ?_ ?_)
  refine hY _ _ ?_
  dsimp only
  simp only [w1, w2, w3, w4, w5, w6, w7, w8, w03, w33, k1, k2, c1]
  (try simp only [w1, w2, w3, w4, w5, w6, w7, w8, w03, w33, k1, k2, c1] at h)
  repeat' (first
    | (refine New.at h (fun b w hh => ?_); clear h; have h := hh; clear hh)
    | (refine Drew.of h (fun w hh => ?_); clear h; have h := hh; clear hh)
    | (refine St.at h 0 _ rfl rfl rfl (fun w hh => ?_); clear h; have h := hh; clear hh; simp only [List.set_cons_zero, List.set_cons_succ] at h)
    | (refine St.at h 1 _ rfl rfl rfl (fun w hh => ?_); clear h; have h := hh; clear hh; simp only [List.set_cons_zero, List.set_cons_succ] at h)
    | (refine St.at h 2 _ rfl rfl rfl (fun w hh => ?_); clear h; have h := hh; clear hh; simp only [List.set_cons_zero, List.set_cons_succ] at h)
    | (refine St.at h 3 _ rfl rfl rfl (fun w hh => ?_); clear h; have h := hh; clear hh; simp only [List.set_cons_zero, List.set_cons_succ] at h)
    | (refine St.at h 4 _ rfl rfl rfl (fun w hh => ?_); clear h; have h := hh; clear hh; simp only [List.set_cons_zero, List.set_cons_succ] at h)
    | refine ⟨⟨by decide, by decide⟩, ?_⟩
    | (refine CallR.of (Add_greatest_skip _ _ _ _ _ _ _ (by decide) h) ?_; rintro _ w ⟨rfl, h⟩)
    | refine ⟨_, h.lda 0 _ rfl rfl, ?_⟩
    | refine ⟨_, _, _, h.lda 0 _ rfl rfl, ?_⟩
    | refine ⟨h.lda 0 _ rfl rfl, ?_⟩
    | refine ⟨_, h.lda 1 _ rfl rfl, ?_⟩
    | refine ⟨_, _, _, h.lda 1 _ rfl rfl, ?_⟩
    | refine ⟨h.lda 1 _ rfl rfl, ?_⟩
    | refine ⟨_, h.lda 2 _ rfl rfl, ?_⟩
    | refine ⟨_, _, _, h.lda 2 _ rfl rfl, ?_⟩
    | refine ⟨h.lda 2 _ rfl rfl, ?_⟩
    | refine ⟨_, h.lda 3 _ rfl rfl, ?_⟩
    | refine ⟨_, _, _, h.lda 3 _ rfl rfl, ?_⟩
    | refine ⟨h.lda 3 _ rfl rfl, ?_⟩
    | refine ⟨_, h.lda 4 _ rfl rfl, ?_⟩
    | refine ⟨_, _, _, h.lda 4 _ rfl rfl, ?_⟩
    | refine ⟨h.lda 4 _ rfl rfl, ?_⟩
    | exact h.lda 0 _ rfl rfl
    | exact h.lda 1 _ rfl rfl
    | exact h.lda 2 _ rfl rfl
    | exact h.lda 3 _ rfl rfl
    | exact h.lda 4 _ rfl rfl
    | refine ⟨_, rfl, ?_⟩
    | refine ⟨_, _, rfl, ?_⟩
    | refine ⟨_, _, _, rfl, ?_⟩
    | refine ⟨_, _, _, _, _, _, _, _, _, _, _, _, rfl, ?_⟩
    | refine ⟨_, _, _, _, _, _, _, _, _, _, _, _, _, rfl, ?_⟩
    | refine ctt rfl ?_
    | refine cff rfl ?_
    | refine Meet.dup ?_
    | intro j
    | rw [ws]
    | simp only [ws, add_mk]
    | refine And.intro ?_ ?_)
  refine hY _ _ ?_
  dsimp only
  simp only [w1, w2, w3, w4, w5, w6, w7, w8, w03, w33, k1, k2, c1]
  (try simp only [w1, w2, w3, w4, w5, w6, w7, w8, w03, w33, k1, k2, c1] at h)
  repeat' (first
    | (refine New.at h (fun b w hh => ?_); clear h; have h := hh; clear hh)
    | (refine Drew.of h (fun w hh => ?_); clear h; have h := hh; clear hh)
    | (refine St.at h 0 _ rfl rfl rfl (fun w hh => ?_); clear h; have h := hh; clear hh; simp only [List.set_cons_zero, List.set_cons_succ] at h)
    | (refine St.at h 1 _ rfl rfl rfl (fun w hh => ?_); clear h; have h := hh; clear hh; simp only [List.set_cons_zero, List.set_cons_succ] at h)
    | (refine St.at h 2 _ rfl rfl rfl (fun w hh => ?_); clear h; have h := hh; clear hh; simp only [List.set_cons_zero, List.set_cons_succ] at h)
    | (refine St.at h 3 _ rfl rfl rfl (fun w hh => ?_); clear h; have h := hh; clear hh; simp only [List.set_cons_zero, List.set_cons_succ] at h)
    | (refine St.at h 4 _ rfl rfl rfl (fun w hh => ?_); clear h; have h := hh; clear hh; simp only [List.set_cons_zero, List.set_cons_succ] at h)
    | refine ⟨⟨by decide, by decide⟩, ?_⟩
    | (refine CallR.of (Add_greatest_first _ _ _ _ _ _ _ (by decide) h) ?_; rintro _ w ⟨rfl, h⟩)
    | refine ⟨_, h.lda 0 _ rfl rfl, ?_⟩
    | refine ⟨_, _, _, h.lda 0 _ rfl rfl, ?_⟩
    | refine ⟨h.lda 0 _ rfl rfl, ?_⟩
    | refine ⟨_, h.lda 1 _ rfl rfl, ?_⟩
    | refine ⟨_, _, _, h.lda 1 _ rfl rfl, ?_⟩
    | refine ⟨h.lda 1 _ rfl rfl, ?_⟩
    | refine ⟨_, h.lda 2 _ rfl rfl, ?_⟩
    | refine ⟨_, _, _, h.lda 2 _ rfl rfl, ?_⟩
    | refine ⟨h.lda 2 _ rfl rfl, ?_⟩
    | refine ⟨_, h.lda 3 _ rfl rfl, ?_⟩
    | refine ⟨_, _, _, h.lda 3 _ rfl rfl, ?_⟩
    | refine ⟨h.lda 3 _ rfl rfl, ?_⟩
    | refine ⟨_, h.lda 4 _ rfl rfl, ?_⟩
    | refine ⟨_, _, _, h.lda 4 _ rfl rfl, ?_⟩
    | refine ⟨h.lda 4 _ rfl rfl, ?_⟩
    | exact h.lda 0 _ rfl rfl
    | exact h.lda 1 _ rfl rfl
    | exact h.lda 2 _ rfl rfl
    | exact h.lda 3 _ rfl rfl
    | exact h.lda 4 _ rfl rfl
    | refine ⟨_, rfl, ?_⟩
    | refine ⟨_, _, rfl, ?_⟩
    | refine ⟨_, _, _, rfl, ?_⟩
    | refine ⟨_, _, _, _, _, _, _, _, _, _, _, _, rfl, ?_⟩
    | refine ⟨_, _, _, _, _, _, _, _, _, _, _, _, _, rfl, ?_⟩
    | refine ctt rfl ?_
    | refine cff rfl ?_
    | refine Meet.dup ?_
    | intro j
    | rw [ws]
    | simp only [ws, add_mk]
    | refine And.intro ?_ ?_)
  refine hY _ _ ?_
  dsimp only
  simp only [w1, w2, w3, w4, w5, w6, w7, w8, w03, w33, k1, k2, c1]
  (try simp only [w1, w2, w3, w4, w5, w6, w7, w8, w03, w33, k1, k2, c1] at h)
  repeat' (first
    | (refine New.at h (fun b w hh => ?_); clear h; have h := hh; clear hh)
    | (refine Drew.of h (fun w hh => ?_); clear h; have h := hh; clear hh)
    | (refine St.at h 0 _ rfl rfl rfl (fun w hh => ?_); clear h; have h := hh; clear hh; simp only [List.set_cons_zero, List.set_cons_succ] at h)
    | (refine St.at h 1 _ rfl rfl rfl (fun w hh => ?_); clear h; have h := hh; clear hh; simp only [List.set_cons_zero, List.set_cons_succ] at h)
    | (refine St.at h 2 _ rfl rfl rfl (fun w hh => ?_); clear h; have h := hh; clear hh; simp only [List.set_cons_zero, List.set_cons_succ] at h)
    | (refine St.at h 3 _ rfl rfl rfl (fun w hh => ?_); clear h; have h := hh; clear hh; simp only [List.set_cons_zero, List.set_cons_succ] at h)
    | (refine St.at h 4 _ rfl rfl rfl (fun w hh => ?_); clear h; have h := hh; clear hh; simp only [List.set_cons_zero, List.set_cons_succ] at h)
    | refine ⟨⟨by decide, by decide⟩, ?_⟩
    | (refine CallR.of (Add_greatest_num _ _ _ _ _ _ _ _ (by decide) (by decide) h) ?_; rintro _ w ⟨rfl, h⟩)
    | refine ⟨_, h.lda 0 _ rfl rfl, ?_⟩
    | refine ⟨_, _, _, h.lda 0 _ rfl rfl, ?_⟩
    | refine ⟨h.lda 0 _ rfl rfl, ?_⟩
    | refine ⟨_, h.lda 1 _ rfl rfl, ?_⟩
    | refine ⟨_, _, _, h.lda 1 _ rfl rfl, ?_⟩
    | refine ⟨h.lda 1 _ rfl rfl, ?_⟩
    | refine ⟨_, h.lda 2 _ rfl rfl, ?_⟩
    | refine ⟨_, _, _, h.lda 2 _ rfl rfl, ?_⟩
    | refine ⟨h.lda 2 _ rfl rfl, ?_⟩
    | refine ⟨_, h.lda 3 _ rfl rfl, ?_⟩
    | refine ⟨_, _, _, h.lda 3 _ rfl rfl, ?_⟩
    | refine ⟨h.lda 3 _ rfl rfl, ?_⟩
    | refine ⟨_, h.lda 4 _ rfl rfl, ?_⟩
    | refine ⟨_, _, _, h.lda 4 _ rfl rfl, ?_⟩
    | refine ⟨h.lda 4 _ rfl rfl, ?_⟩
    | exact h.lda 0 _ rfl rfl
    | exact h.lda 1 _ rfl rfl
    | exact h.lda 2 _ rfl rfl
    | exact h.lda 3 _ rfl rfl
    | exact h.lda 4 _ rfl rfl
    | refine ⟨_, rfl, ?_⟩
    | refine ⟨_, _, rfl, ?_⟩
    | refine ⟨_, _, _, rfl, ?_⟩
    | refine ⟨_, _, _, _, _, _, _, _, _, _, _, _, rfl, ?_⟩
    | refine ⟨_, _, _, _, _, _, _, _, _, _, _, _, _, rfl, ?_⟩
    | refine ctt rfl ?_
    | refine cff rfl ?_
    | refine Meet.dup ?_
    | intro j
    | rw [ws]
    | simp only [ws, add_mk]
    | refine And.intro ?_ ?_)
  refine hY _ _ ?_
  dsimp only
  simp only [w1, w2, w3, w4, w5, w6, w7, w8, w03, w33, k1, k2, c1]
  (try simp only [w1, w2, w3, w4, w5, w6, w7, w8, w03, w33, k1, k2, c1] at h)
  repeat' (first
    | (refine New.at h (fun b w hh => ?_); clear h; have h := hh; clear hh)
    | (refine Drew.of h (fun w hh => ?_); clear h; have h := hh; clear hh)
    | (refine St.at h 0 _ rfl rfl rfl (fun w hh => ?_); clear h; have h := hh; clear hh; simp only [List.set_cons_zero, List.set_cons_succ] at h)
    | (refine St.at h 1 _ rfl rfl rfl (fun w hh => ?_); clear h; have h := hh; clear hh; simp only [List.set_cons_zero, List.set_cons_succ] at h)
    | (refine St.at h 2 _ rfl rfl rfl (fun w hh => ?_); clear h; have h := hh; clear hh; simp only [List.set_cons_zero, List.set_cons_succ] at h)
    | (refine St.at h 3 _ rfl rfl rfl (fun w hh => ?_); clear h; have h := hh; clear hh; simp only [List.set_cons_zero, List.set_cons_succ] at h)
    | (refine St.at h 4 _ rfl rfl rfl (fun w hh => ?_); clear h; have h := hh; clear hh; simp only [List.set_cons_zero, List.set_cons_succ] at h)
    | refine ⟨⟨by decide, by decide⟩, ?_⟩
    | (refine CallR.of (Add_greatest_skip _ _ _ _ _ _ _ (by decide) h) ?_; rintro _ w ⟨rfl, h⟩)
    | refine ⟨_, h.lda 0 _ rfl rfl, ?_⟩
    | refine ⟨_, _, _, h.lda 0 _ rfl rfl, ?_⟩
    | refine ⟨h.lda 0 _ rfl rfl, ?_⟩
    | refine ⟨_, h.lda 1 _ rfl rfl, ?_⟩
    | refine ⟨_, _, _, h.lda 1 _ rfl rfl, ?_⟩
    | refine ⟨h.lda 1 _ rfl rfl, ?_⟩
    | refine ⟨_, h.lda 2 _ rfl rfl, ?_⟩
    | refine ⟨_, _, _, h.lda 2 _ rfl rfl, ?_⟩
    | refine ⟨h.lda 2 _ rfl rfl, ?_⟩
    | refine ⟨_, h.lda 3 _ rfl rfl, ?_⟩
    | refine ⟨_, _, _, h.lda 3 _ rfl rfl, ?_⟩
    | refine ⟨h.lda 3 _ rfl rfl, ?_⟩
    | refine ⟨_, h.lda 4 _ rfl rfl, ?_⟩
    | refine ⟨_, _, _, h.lda 4 _ rfl rfl, ?_⟩
    | refine ⟨h.lda 4 _ rfl rfl, ?_⟩
    | exact h.lda 0 _ rfl rfl
    | exact h.lda 1 _ rfl rfl
    | exact h.lda 2 _ rfl rfl
    | exact h.lda 3 _ rfl rfl
    | exact h.lda 4 _ rfl rfl
    | refine ⟨_, rfl, ?_⟩
    | refine ⟨_, _, rfl, ?_⟩
    | refine ⟨_, _, _, rfl, ?_⟩
    | refine ⟨_, _, _, _, _, _, _, _, _, _, _, _, rfl, ?_⟩
    | refine ⟨_, _, _, _, _, _, _, _, _, _, _, _, _, rfl, ?_⟩
    | refine ctt rfl ?_
    | refine cff rfl ?_
    | refine Meet.dup ?_
    | intro j
    | rw [ws]
    | simp only [ws, add_mk]
    | refine And.intro ?_ ?_)
  refine hY _ _ ?_
  dsimp only
  simp only [w1, w2, w3, w4, w5, w6, w7, w8, w03, w33, k1, k2, c1]
  (try simp only [w1, w2, w3, w4, w5, w6, w7, w8, w03, w33, k1, k2, c1] at h)
  repeat' (first
    | (refine New.at h (fun b w hh => ?_); clear h; have h := hh; clear hh)
    | (refine Drew.of h (fun w hh => ?_); clear h; have h := hh; clear hh)
    | (refine St.at h 0 _ rfl rfl rfl (fun w hh => ?_); clear h; have h := hh; clear hh; simp only [List.set_cons_zero, List.set_cons_succ] at h)
    | (refine St.at h 1 _ rfl rfl rfl (fun w hh => ?_); clear h; have h := hh; clear hh; simp only [List.set_cons_zero, List.set_cons_succ] at h)
    | (refine St.at h 2 _ rfl rfl rfl (fun w hh => ?_); clear h; have h := hh; clear hh; simp only [List.set_cons_zero, List.set_cons_succ] at h)
    | refine ⟨⟨by decide, by decide⟩, ?_⟩
    | (refine CallR.of (Value_num _ _ _ _ _ _ (by decide) h) ?_; rintro _ w ⟨rfl, h⟩)
    | refine ⟨_, h.lda 0 _ rfl rfl, ?_⟩
    | refine ⟨_, _, _, h.lda 0 _ rfl rfl, ?_⟩
    | refine ⟨h.lda 0 _ rfl rfl, ?_⟩
    | refine ⟨_, h.lda 1 _ rfl rfl, ?_⟩
    | refine ⟨_, _, _, h.lda 1 _ rfl rfl, ?_⟩
    | refine ⟨h.lda 1 _ rfl rfl, ?_⟩
    | refine ⟨_, h.lda 2 _ rfl rfl, ?_⟩
    | refine ⟨_, _, _, h.lda 2 _ rfl rfl, ?_⟩
    | refine ⟨h.lda 2 _ rfl rfl, ?_⟩
    | exact h.lda 0 _ rfl rfl
    | exact h.lda 1 _ rfl rfl
    | exact h.lda 2 _ rfl rfl
    | refine ⟨_, rfl, ?_⟩
    | refine ⟨_, _, rfl, ?_⟩
    | refine ⟨_, _, _, rfl, ?_⟩
    | refine ⟨_, _, _, _, _, _, _, _, _, _, _, _, rfl, ?_⟩
    | refine ⟨_, _, _, _, _, _, _, _, _, _, _, _, _, rfl, ?_⟩
    | refine ctt rfl ?_
    | refine cff rfl ?_
    | refine Meet.dup ?_
    | intro j
    | rw [ws]
    | simp only [ws, add_mk]
    | refine And.intro ?_ ?_)
  exact s3 h.tail.tail.tail

theorem known_s1 {X : Bool × Int → World → Prop} {b bi : Nat} (hX : ∀ s w, kBody bi b (Ret fun v w' => v = .bool true ∧ ∃ A, Holds G w' A) X s w → X s w) (s2 : ∀ {w : World}, Holds G w (all (blk b t_string [.string ⟨#[36, 115, 117, 109]⟩, .string ⟨#[36, 109, 105, 110]⟩, .string ⟨#[36, 109, 97, 120]⟩, .string ⟨#[36, 102, 105, 114, 115, 116]⟩, .string ⟨#[36, 108, 97, 115, 116]⟩, .string ⟨#[36, 112, 117, 115, 104]⟩, .string ⟨#[36, 97, 100, 100, 84, 111, 83, 101, 116]⟩, .string ⟨#[36, 99, 111, 117, 110, 116]⟩] :: blk bi t_api_Value [.int .i64 0, .int .i64 0, .string em, .slice none 0 0, .slice none 0 0, .slice none 0 0, .int .i64 2, .int .i64 0, .string em, .slice none 0 0, .slice none 0 0, .slice none 0 0, .int .i64 4, .int .i64 3, .string em, .slice none 0 0, .slice none 0 0, .slice none 0 0, .int .i64 3, .int .i64 3, .string em, .slice none 0 0, .slice none 0 0, .slice none 0 0, .int .i64 0, .int .i64 0, .string em, .slice none 0 0, .slice none 0 0, .slice none 0 0] :: L)) → X (false, 2) w) : ∀ {w : World}, Holds G w (all (blk b t_string [.string ⟨#[36, 115, 117, 109]⟩, .string ⟨#[36, 109, 105, 110]⟩, .string ⟨#[36, 109, 97, 120]⟩, .string ⟨#[36, 102, 105, 114, 115, 116]⟩, .string ⟨#[36, 108, 97, 115, 116]⟩, .string ⟨#[36, 112, 117, 115, 104]⟩, .string ⟨#[36, 97, 100, 100, 84, 111, 83, 101, 116]⟩, .string ⟨#[36, 99, 111, 117, 110, 116]⟩] :: blk bi t_api_Value [.int .i64 0, .int .i64 0, .string em, .slice none 0 0, .slice none 0 0, .slice none 0 0, .int .i64 2, .int .i64 0, .string em, .slice none 0 0, .slice none 0 0, .slice none 0 0, .int .i64 4, .int .i64 3, .string em, .slice none 0 0, .slice none 0 0, .slice none 0 0, .int .i64 3, .int .i64 3, .string em, .slice none 0 0, .slice none 0 0, .slice none 0 0, .int .i64 0, .int .i64 0, .string em, .slice none 0 0, .slice none 0 0, .slice none 0 0] :: L)) → X (false, 1) w := by
  intro w h
  refine hX _ _ ?_
  unfold kBody
  dsimp only
  repeat' (first
    | (refine New.at h (fun b w hh => ?_); clear h; have h := hh; clear hh)
    | (refine Drew.of h (fun w hh => ?_); clear h; have h := hh; clear hh)
    | (refine St.at h 0 _ rfl rfl rfl (fun w hh => ?_); clear h; have h := hh; clear hh; simp only [List.set_cons_zero, List.set_cons_succ] at h)
    | (refine St.at h 1 _ rfl rfl rfl (fun w hh => ?_); clear h; have h := hh; clear hh; simp only [List.set_cons_zero, List.set_cons_succ] at h)
    | (refine St.at h 2 _ rfl rfl rfl (fun w hh => ?_); clear h; have h := hh; clear hh; simp only [List.set_cons_zero, List.set_cons_succ] at h)
    | refine ⟨⟨by decide, by decide⟩, ?_⟩
    | (refine CallR.of (Kind_of _ 2 (by decide) h) ?_; rintro _ w ⟨rfl, h⟩)
    | (refine CallR.of (New_plain 2 f_Paccum_State_least (.inl ⟨rfl, rfl⟩) h) ?_; rintro _ w ⟨s, rfl, h⟩)
    | (refine CallR.of (Value_none _ _ _ _ _ h) ?_; rintro _ w ⟨rfl, h⟩)
    | refine ⟨_, h.lda 0 _ rfl rfl, ?_⟩
    | refine ⟨_, _, _, h.lda 0 _ rfl rfl, ?_⟩
    | refine ⟨h.lda 0 _ rfl rfl, ?_⟩
    | refine ⟨_, h.lda 1 _ rfl rfl, ?_⟩
    | refine ⟨_, _, _, h.lda 1 _ rfl rfl, ?_⟩
    | refine ⟨h.lda 1 _ rfl rfl, ?_⟩
    | refine ⟨_, h.lda 2 _ rfl rfl, ?_⟩
    | refine ⟨_, _, _, h.lda 2 _ rfl rfl, ?_⟩
    | refine ⟨h.lda 2 _ rfl rfl, ?_⟩
    | exact h.lda 0 _ rfl rfl
    | exact h.lda 1 _ rfl rfl
    | exact h.lda 2 _ rfl rfl
    | refine ⟨_, rfl, ?_⟩
    | refine ⟨_, _, rfl, ?_⟩
    | refine ⟨_, _, _, rfl, ?_⟩
    | refine ⟨_, _, _, _, _, _, _, _, _, _, _, _, rfl, ?_⟩
    | refine ⟨_, _, _, _, _, _, _, _, _, _, _, _, _, rfl, ?_⟩
    | refine ctt rfl ?_
    | refine cff rfl ?_
    | refine Meet.dup ?_
    | intro j
    | rw [ws]
    | simp only [ws, add_mk]
    | refine And.intro ?_ ?_)
  replace h := h.bring 1 rfl
  simp only [List.eraseIdx_cons_zero, List.eraseIdx_cons_succ] at h
  refine Loop.start (fun Y hY => ?_)
  refine hY _ _ ?_
  dsimp only
  repeat' (first
    | (refine New.at h (fun b w hh => ?_); clear h; have h := hh; clear hh)
    | (refine Drew.of h (fun w hh => ?_); clear h; have h := hh; clear hh)
    | (refine St.at h 0 _ rfl rfl rfl (fun w hh => ?_); clear h; have h := hh; clear hh; simp only [List.set_cons_zero, List.set_cons_succ] at h)
    | (refine St.at h 1 _ rfl rfl rfl (fun w hh => ?_); clear h; have h := hh; clear hh; simp only [List.set_cons_zero, List.set_cons_succ] at h)
    | (refine St.at h 2 _ rfl rfl rfl (fun w hh => ?_); clear h; have h := hh; clear hh; simp only [List.set_cons_zero, List.set_cons_succ] at h)
    | (refine St.at h 3 _ rfl rfl rfl (fun w hh => ?_); clear h; have h := hh; clear hh; simp only [List.set_cons_zero, List.set_cons_succ] at h)
    | (refine St.at h 4 _ rfl rfl rfl (fun w hh => ?_); clear h; have h := hh; clear hh; simp only [List.set_cons_zero, List.set_cons_succ] at h)
    | refine ⟨⟨by decide, by decide⟩, ?_⟩
    | (refine CallR.of (Add_least_skip _ _ _ _ _ _ _ (by decide) h) ?_; rintro _ w ⟨rfl, h⟩)
    | refine ⟨_, h.lda 0 _ rfl rfl, ?_⟩
    | refine ⟨_, _, _, h.lda 0 _ rfl rfl, ?_⟩
    | refine ⟨h.lda 0 _ rfl rfl, ?_⟩
    | refine ⟨_, h.lda 1 _ rfl rfl, ?_⟩
    | refine ⟨_, _, _, h.lda 1 _ rfl rfl, ?_⟩
    | refine ⟨h.lda 1 _ rfl rfl, ?_⟩
    | refine ⟨_, h.lda 2 _ rfl rfl, ?_⟩
    | refine ⟨_, _, _, h.lda 2 _ rfl rfl, ?_⟩
    | refine ⟨h.lda 2 _ rfl rfl, ?_⟩
    | refine ⟨_, h.lda 3 _ rfl rfl, ?_⟩
    | refine ⟨_, _, _, h.lda 3 _ rfl rfl, ?_⟩
    | refine ⟨h.lda 3 _ rfl rfl, ?_⟩
    | refine ⟨_, h.lda 4 _ rfl rfl, ?_⟩
    | refine ⟨_, _, _, h.lda 4 _ rfl rfl, ?_⟩
    | refine ⟨h.lda 4 _ rfl rfl, ?_⟩
    | exact h.lda 0 _ rfl rfl
    | exact h.lda 1 _ rfl rfl
    | exact h.lda 2 _ rfl rfl
    | exact h.lda 3 _ rfl rfl
    | exact h.lda 4 _ rfl rfl
    | refine ⟨_, rfl, ?_⟩
    | refine ⟨_, _, rfl, ?_⟩
    | refine ⟨_, _, _, rfl, ?_⟩
    | refine ⟨_, _, _, _, _, _, _, _, _, _, _, _, rfl, ?_⟩
    | refine ⟨_, _, _, _, _, _, _, _, _, _, _, _, _, rfl, ?_⟩
    | refine ctt rfl ?_
    | refine cff rfl ?_
    | refine Meet.dup ?_
    | intro j
    | rw [ws]
    | simp only [ws, add_mk]
    | refine And.intro ?_ ?_)
  refine hY _ _ ?_
  dsimp only
  simp only [w1, w2, w3, w4, w5, w6, w7, w8, w03, w33, k1, k2, c1]
  (try simp only [w1, w2, w3, w4, w5, w6, w7, w8, w03, w33, k1, k2, c1] at h)
  repeat' (first
    | (refine New.at h (fun b w hh => ?_); clear h; have h := hh; clear hh)
    | (refine Drew.of h (fun w hh => ?_); clear h; have h := hh; clear hh)
    | (refine St.at h 0 _ rfl rfl rfl (fun w hh => ?_); clear h; have h := hh; clear hh; simp only [List.set_cons_zero, List.set_cons_succ] at h)
    | (refine St.at h 1 _ rfl rfl rfl (fun w hh => ?_); clear h; have h := hh; clear hh; simp only [List.set_cons_zero, List.set_cons_succ] at h)
    | (refine St.at h 2 _ rfl rfl rfl (fun w hh => ?_); clear h; have h := hh; clear hh; simp only [List.set_cons_zero, List.set_cons_succ] at h)
    | (refine St.at h 3 _ rfl rfl rfl (fun w hh => ?_); clear h; have h := hh; clear hh; simp only [List.set_cons_zero, List.set_cons_succ] at h)
    | (refine St.at h 4 _ rfl rfl rfl (fun w hh => ?_); clear h; have h := hh; clear hh; simp only [List.set_cons_zero, List.set_cons_succ] at h)
    | refine ⟨⟨by decide, by decide⟩, ?_⟩
    | (refine CallR.of (Add_least_skip _ _ _ _ _ _ _ (by decide) h) ?_; rintro _ w ⟨rfl, h⟩)
    | refine ⟨_, h.lda 0 _ rfl rfl, ?_⟩
    | refine ⟨_, _, _, h.lda 0 _ rfl rfl, ?_⟩
    | refine ⟨h.lda 0 _ rfl rfl, ?_⟩
    | refine ⟨_, h.lda 1 _ rfl rfl, ?_⟩
    | refine ⟨_, _, _, h.lda 1 _ rfl rfl, ?_⟩
    | refine ⟨h.lda 1 _ rfl rfl, ?_⟩
    | refine ⟨_, h.lda 2 _ rfl rfl, ?_⟩
    | refine ⟨_, _, _, h.lda 2 _ rfl rfl, ?_⟩
    | refine ⟨h.lda 2 _ rfl rfl, ?_⟩
    | refine ⟨_, h.lda 3 _ rfl rfl, ?_⟩
    | refine ⟨_, _, _, h.lda 3 _ rfl rfl, ?_⟩
    | refine ⟨h.lda 3 _ rfl rfl, ?_⟩
    | refine ⟨_, h.lda 4 _ rfl rfl, ?_⟩
    | refine ⟨_, _, _, h.lda 4 _ rfl rfl, ?_⟩
    | refine ⟨h.lda 4 _ rfl rfl, ?_⟩
    | exact h.lda 0 _ rfl rfl
    | exact h.lda 1 _ rfl rfl
    | exact h.lda 2 _ rfl rfl
    | exact h.lda 3 _ rfl rfl
    | exact h.lda 4 _ rfl rfl
    | refine ⟨_, rfl, ?_⟩
    | refine ⟨_, _, rfl, ?_⟩
    | refine ⟨_, _, _, rfl, ?_⟩
    | refine ⟨_, _, _, _, _, _, _, _, _, _, _, _, rfl, ?_⟩
    | refine ⟨_, _, _, _, _, _, _, _, _, _, _, _, _, rfl, ?_⟩
    | refine ctt rfl ?_
    | refine cff rfl ?_
    | refine Meet.dup ?_
    | intro j
    | rw [ws]
    | simp only [ws, add_mk]
    | refine And.intro ?_ ?_)
  refine hY _ _ ?_
  dsimp only
  simp only [w1, w2, w3, w4, w5, w6, w7, w8, w03, w33, k1, k2, c1]
  (try simp only [w1, w2, w3, w4, w5, w6, w7, w8, w03, w33, k1, k2, c1] at h)
  repeat' (first
    | (refine New.at h (fun b w hh => ?_); clear h; have h := hh; clear hh)
    | (refine Drew.of h (fun w hh => ?_); clear h; have h := hh; clear hh)
    | (refine St.at h 0 _ rfl rfl rfl (fun w hh => ?_); clear h; have h := hh; clear hh; simp only [List.set_cons_zero, List.set_cons_succ] at h)
    | (refine St.at h 1 _ rfl rfl rfl (fun w hh => ?_); clear h; have h := hh; clear hh; simp only [List.set_cons_zero, List.set_cons_succ] at h)
    | (refine St.at h 2 _ rfl rfl rfl (fun w hh => ?_); clear h; have h := hh; clear hh; simp only [List.set_cons_zero, List.set_cons_succ] at h)
    | (refine St.at h 3 _ rfl rfl rfl (fun w hh => ?_); clear h; have h := hh; clear hh; simp only [List.set_cons_zero, List.set_cons_succ] at h)
    | (refine St.at h 4 _ rfl rfl rfl (fun w hh => ?_); clear h; have h := hh; clear hh; simp only [List.set_cons_zero, List.set_cons_succ] at h)
    | refine ⟨⟨by decide, by decide⟩, ?_⟩
    | (refine CallR.of (Add_least_first _ _ _ _ _ _ _ (by decide) h) ?_; rintro _ w ⟨rfl, h⟩)
    | refine ⟨_, h.lda 0 _ rfl rfl, ?_⟩
    | refine ⟨_, _, _, h.lda 0 _ rfl rfl, ?_⟩
    | refine ⟨h.lda 0 _ rfl rfl, ?_⟩
    | refine ⟨_, h.lda 1 _ rfl rfl, ?_⟩
    | refine ⟨_, _, _, h.lda 1 _ rfl rfl, ?_⟩
    | refine ⟨h.lda 1 _ rfl rfl, ?_⟩
    | refine ⟨_, h.lda 2 _ rfl rfl, ?_⟩
    | refine ⟨_, _, _, h.lda 2 _ rfl rfl, ?_⟩
    | refine ⟨h.lda 2 _ rfl rfl, ?_⟩
    | refine ⟨_, h.lda 3 _ rfl rfl, ?_⟩
    | refine ⟨_, _, _, h.lda 3 _ rfl rfl, ?_⟩
    | refine ⟨h.lda 3 _ rfl rfl, ?_⟩
    | refine ⟨_, h.lda 4 _ rfl rfl, ?_⟩
    | refine ⟨_, _, _, h.lda 4 _ rfl rfl, ?_⟩
    | refine ⟨h.lda 4 _ rfl rfl, ?_⟩
    | exact h.lda 0 _ rfl rfl
    | exact h.lda 1 _ rfl rfl
    | exact h.lda 2 _ rfl rfl
    | exact h.lda 3 _ rfl rfl
    | exact h.lda 4 _ rfl rfl
    | refine ⟨_, rfl, ?_⟩
    | refine ⟨_, _, rfl, ?_⟩
    | refine ⟨_, _, _, rfl, ?_⟩
    | refine ⟨_, _, _, _, _, _, _, _, _, _, _, _, rfl, ?_⟩
    | refine ⟨_, _, _, _, _, _, _, _, _, _, _, _, _, rfl, ?_⟩
    | refine ctt rfl ?_
    | refine cff rfl ?_
    | refine Meet.dup ?_
    | intro j
    | rw [ws]
    | simp only [ws, add_mk]
    | refine And.intro ?_ ?_)
  refine hY _ _ ?_
  dsimp only
  simp only [w1, w2, w3, w4, w5, w6, w7, w8, w03, w33, k1, k2, c1]
  (try simp only [w1, w2, w3, w4, w5, w6, w7, w8, w03, w33, k1, k2, c1] at h)
  repeat' (first
    | (refine New.at h (fun b w hh => ?_); clear h; have h := hh; clear hh)
    | (refine Drew.of h (fun w hh => ?_); clear h; have h := hh; clear hh)
    | (refine St.at h 0 _ rfl rfl rfl (fun w hh => ?_); clear h; have h := hh; clear hh; simp only [List.set_cons_zero, List.set_cons_succ] at h)
    | (refine St.at h 1 _ rfl rfl rfl (fun w hh => ?_); clear h; have h := hh; clear hh; simp only [List.set_cons_zero, List.set_cons_succ] at h)
    | (refine St.at h 2 _ rfl rfl rfl (fun w hh => ?_); clear h; have h := hh; clear hh; simp only [List.set_cons_zero, List.set_cons_succ] at h)
    | (refine St.at h 3 _ rfl rfl rfl (fun w hh => ?_); clear h; have h := hh; clear hh; simp only [List.set_cons_zero, List.set_cons_succ] at h)
    | (refine St.at h 4 _ rfl rfl rfl (fun w hh => ?_); clear h; have h := hh; clear hh; simp only [List.set_cons_zero, List.set_cons_succ] at h)
    | refine ⟨⟨by decide, by decide⟩, ?_⟩
    | (refine CallR.of (Add_least_num _ _ _ _ _ _ _ _ (by decide) (by decide) h) ?_; rintro _ w ⟨rfl, h⟩)
    | refine ⟨_, h.lda 0 _ rfl rfl, ?_⟩
    | refine ⟨_, _, _, h.lda 0 _ rfl rfl, ?_⟩
    | refine ⟨h.lda 0 _ rfl rfl, ?_⟩
    | refine ⟨_, h.lda 1 _ rfl rfl, ?_⟩
    | refine ⟨_, _, _, h.lda 1 _ rfl rfl, ?_⟩
    | refine ⟨h.lda 1 _ rfl rfl, ?_⟩
    | refine ⟨_, h.lda 2 _ rfl rfl, ?_⟩
    | refine ⟨_, _, _, h.lda 2 _ rfl rfl, ?_⟩
    | refine ⟨h.lda 2 _ rfl rfl, ?_⟩
    | refine ⟨_, h.lda 3 _ rfl rfl, ?_⟩
    | refine ⟨_, _, _, h.lda 3 _ rfl rfl, ?_⟩
    | refine ⟨h.lda 3 _ rfl rfl, ?_⟩
    | refine ⟨_, h.lda 4 _ rfl rfl, ?_⟩
    | refine ⟨_, _, _, h.lda 4 _ rfl rfl, ?_⟩
    | refine ⟨h.lda 4 _ rfl rfl, ?_⟩
    | exact h.lda 0 _ rfl rfl
    | exact h.lda 1 _ rfl rfl
    | exact h.lda 2 _ rfl rfl
    | exact h.lda 3 _ rfl rfl
    | exact h.lda 4 _ rfl rfl
    | refine ⟨_, rfl, ?_⟩
    | refine ⟨_, _, rfl, ?_⟩
    | refine ⟨_, _, _, rfl, ?_⟩
    | refine ⟨_, _, _, _, _, _, _, _, _, _, _, _, rfl, ?_⟩
    | refine ⟨_, _, _, _, _, _, _, _, _, _, _, _, _, rfl, ?_⟩
    | refine ctt rfl ?_
    | refine cff rfl ?_
    | refine Meet.dup ?_
    | intro j
    | rw [ws]
    | simp only [ws, add_mk]
    | refine And.intro ?_ ?_)
  refine hY _ _ ?_
  dsimp only
  simp only [w1, w2, w3, w4, w5, w6, w7, w8, w03, w33, k1, k2, c1]
  (try simp only [w1, w2, w3, w4, w5, w6, w7, w8, w03, w33, k1, k2, c1] at h)
  repeat' (first
    | (refine New.at h (fun b w hh => ?_); clear h; have h := hh; clear hh)
    | (refine Drew.of h (fun w hh => ?_); clear h; have h := hh; clear hh)
    | (refine St.at h 0 _ rfl rfl rfl (fun w hh => ?_); clear h; have h := hh; clear hh; simp only [List.set_cons_zero, List.set_cons_succ] at h)
    | (refine St.at h 1 _ rfl rfl rfl (fun w hh => ?_); clear h; have h := hh; clear hh; simp only [List.set_cons_zero, List.set_cons_succ] at h)
    | (refine St.at h 2 _ rfl rfl rfl (fun w hh => ?_); clear h; have h := hh; clear hh; simp only [List.set_cons_zero, List.set_cons_succ] at h)
    | (refine St.at h 3 _ rfl rfl rfl (fun w hh => ?_); clear h; have h := hh; clear hh; simp only [List.set_cons_zero, List.set_cons_succ] at h)
    | (refine St.at h 4 _ rfl rfl rfl (fun w hh => ?_); clear h; have h := hh; clear hh; simp only [List.set_cons_zero, List.set_cons_succ] at h)
    | refine ⟨⟨by decide, by decide⟩, ?_⟩
    | (refine CallR.of (Add_least_skip _ _ _ _ _ _ _ (by decide) h) ?_; rintro _ w ⟨rfl, h⟩)
    | refine ⟨_, h.lda 0 _ rfl rfl, ?_⟩
    | refine ⟨_, _, _, h.lda 0 _ rfl rfl, ?_⟩
    | refine ⟨h.lda 0 _ rfl rfl, ?_⟩
    | refine ⟨_, h.lda 1 _ rfl rfl, ?_⟩
    | refine ⟨_, _, _, h.lda 1 _ rfl rfl, ?_⟩
    | refine ⟨h.lda 1 _ rfl rfl, ?_⟩
    | refine ⟨_, h.lda 2 _ rfl rfl, ?_⟩
    | refine ⟨_, _, _, h.lda 2 _ rfl rfl, ?_⟩
    | refine ⟨h.lda 2 _ rfl rfl, ?_⟩
    | refine ⟨_, h.lda 3 _ rfl rfl, ?_⟩
    | refine ⟨_, _, _, h.lda 3 _ rfl rfl, ?_⟩
    | refine ⟨h.lda 3 _ rfl rfl, ?_⟩
    | refine ⟨_, h.lda 4 _ rfl rfl, ?_⟩
    | refine ⟨_, _, _, h.lda 4 _ rfl rfl, ?_⟩
    | refine ⟨h.lda 4 _ rfl rfl, ?_⟩
    | exact h.lda 0 _ rfl rfl
    | exact h.lda 1 _ rfl rfl
    | exact h.lda 2 _ rfl rfl
    | exact h.lda 3 _ rfl rfl
    | exact h.lda 4 _ rfl rfl
    | refine ⟨_, rfl, ?_⟩
    | refine ⟨_, _, rfl, ?_⟩
    | refine ⟨_, _, _, rfl, ?_⟩
    | refine ⟨_, _, _, _, _, _, _, _, _, _, _, _, rfl, ?_⟩
    | refine ⟨_, _, _, _, _, _, _, _, _, _, _, _, _, rfl, ?_⟩
    | refine ctt rfl ?_
    | refine cff rfl ?_
    | refine Meet.dup ?_
    | intro j
    | rw [ws]
    | simp only [ws, add_mk]
    | refine And.intro ?_ ?_)
  refine hY _ _ ?_
  dsimp only
  simp only [w1, w2, w3, w4, w5, w6, w7, w8, w03, w33, k1, k2, c1]
  (try simp only [w1, w2, w3, w4, w5, w6, w7, w8, w03, w33, k1, k2, c1] at h)
  repeat' (first
    | (refine New.at h (fun b w hh => ?_); clear h; have h := hh; clear hh)
    | (refine Drew.of h (fun w hh => ?_); clear h; have h := hh; clear hh)
    | (refine St.at h 0 _ rfl rfl rfl (fun w hh => ?_); clear h; have h := hh; clear hh; simp only [List.set_cons_zero, List.set_cons_succ] at h)
    | (refine St.at h 1 _ rfl rfl rfl (fun w hh => ?_); clear h; have h := hh; clear hh; simp only [List.set_cons_zero, List.set_cons_succ] at h)
    | (refine St.at h 2 _ rfl rfl rfl (fun w hh => ?_); clear h; have h := hh; clear hh; simp only [List.set_cons_zero, List.set_cons_succ] at h)
    | refine ⟨⟨by decide, by decide⟩, ?_⟩
    | (refine CallR.of (Value_num _ _ _ _ _ _ (by decide) h) ?_; rintro _ w ⟨rfl, h⟩)
    | refine ⟨_, h.lda 0 _ rfl rfl, ?_⟩
    | refine ⟨_, _, _, h.lda 0 _ rfl rfl, ?_⟩
    | refine ⟨h.lda 0 _ rfl rfl, ?_⟩
    | refine ⟨_, h.lda 1 _ rfl rfl, ?_⟩
    | refine ⟨_, _, _, h.lda 1 _ rfl rfl, ?_⟩
    | refine ⟨h.lda 1 _ rfl rfl, ?_⟩
    | refine ⟨_, h.lda 2 _ rfl rfl, ?_⟩
    | refine ⟨_, _, _, h.lda 2 _ rfl rfl, ?_⟩
    | refine ⟨h.lda 2 _ rfl rfl, ?_⟩
    | exact h.lda 0 _ rfl rfl
    | exact h.lda 1 _ rfl rfl
    | exact h.lda 2 _ rfl rfl
    | refine ⟨_, rfl, ?_⟩
    | refine ⟨_, _, rfl, ?_⟩
    | refine ⟨_, _, _, rfl, ?_⟩
    | refine ⟨_, _, _, _, _, _, _, _, _, _, _, _, rfl, ?_⟩
    | refine ⟨_, _, _, _, _, _, _, _, _, _, _, _, _, rfl, ?_⟩
    | refine ctt rfl ?_
    | refine cff rfl ?_
    | refine Meet.dup ?_
    | intro j
    | rw [ws]
    | simp only [ws, add_mk]
    | refine And.intro ?_ ?_)
  exact s2 h.tail.tail.tail

theorem known_s0 {X : Bool × Int → World → Prop} {b bi : Nat} (hX : ∀ s w, kBody bi b (Ret fun v w' => v = .bool true ∧ ∃ A, Holds G w' A) X s w → X s w) (s1 : ∀ {w : World}, Holds G w (all (blk b t_string [.string ⟨#[36, 115, 117, 109]⟩, .string ⟨#[36, 109, 105, 110]⟩, .string ⟨#[36, 109, 97, 120]⟩, .string ⟨#[36, 102, 105, 114, 115, 116]⟩, .string ⟨#[36, 108, 97, 115, 116]⟩, .string ⟨#[36, 112, 117, 115, 104]⟩, .string ⟨#[36, 97, 100, 100, 84, 111, 83, 101, 116]⟩, .string ⟨#[36, 99, 111, 117, 110, 116]⟩] :: blk bi t_api_Value [.int .i64 0, .int .i64 0, .string em, .slice none 0 0, .slice none 0 0, .slice none 0 0, .int .i64 2, .int .i64 0, .string em, .slice none 0 0, .slice none 0 0, .slice none 0 0, .int .i64 4, .int .i64 3, .string em, .slice none 0 0, .slice none 0 0, .slice none 0 0, .int .i64 3, .int .i64 3, .string em, .slice none 0 0, .slice none 0 0, .slice none 0 0, .int .i64 0, .int .i64 0, .string em, .slice none 0 0, .slice none 0 0, .slice none 0 0] :: L)) → X (false, 1) w) : ∀ {w : World}, Holds G w (all (blk b t_string [.string ⟨#[36, 115, 117, 109]⟩, .string ⟨#[36, 109, 105, 110]⟩, .string ⟨#[36, 109, 97, 120]⟩, .string ⟨#[36, 102, 105, 114, 115, 116]⟩, .string ⟨#[36, 108, 97, 115, 116]⟩, .string ⟨#[36, 112, 117, 115, 104]⟩, .string ⟨#[36, 97, 100, 100, 84, 111, 83, 101, 116]⟩, .string ⟨#[36, 99, 111, 117, 110, 116]⟩] :: blk bi t_api_Value [.int .i64 0, .int .i64 0, .string em, .slice none 0 0, .slice none 0 0, .slice none 0 0, .int .i64 2, .int .i64 0, .string em, .slice none 0 0, .slice none 0 0, .slice none 0 0, .int .i64 4, .int .i64 3, .string em, .slice none 0 0, .slice none 0 0, .slice none 0 0, .int .i64 3, .int .i64 3, .string em, .slice none 0 0, .slice none 0 0, .slice none 0 0, .int .i64 0, .int .i64 0, .string em, .slice none 0 0, .slice none 0 0, .slice none 0 0] :: L)) → X (false, 0) w := by
  intro w h
  refine hX _ _ ?_
  unfold kBody
  dsimp only
  repeat' (first
    | (refine New.at h (fun b w hh => ?_); clear h; have h := hh; clear hh)
    | (refine Drew.of h (fun w hh => ?_); clear h; have h := hh; clear hh)
    | (refine St.at h 0 _ rfl rfl rfl (fun w hh => ?_); clear h; have h := hh; clear hh; simp only [List.set_cons_zero, List.set_cons_succ] at h)
    | (refine St.at h 1 _ rfl rfl rfl (fun w hh => ?_); clear h; have h := hh; clear hh; simp only [List.set_cons_zero, List.set_cons_succ] at h)
    | (refine St.at h 2 _ rfl rfl rfl (fun w hh => ?_); clear h; have h := hh; clear hh; simp only [List.set_cons_zero, List.set_cons_succ] at h)
    | refine ⟨⟨by decide, by decide⟩, ?_⟩
    | (refine CallR.of (Kind_of _ 1 (by decide) h) ?_; rintro _ w ⟨rfl, h⟩)
    | (refine CallR.of (New_sum h) ?_; rintro _ w ⟨s, rfl, h⟩)
    | (refine CallR.of (Value_num _ _ _ _ _ _ (by decide) h) ?_; rintro _ w ⟨rfl, h⟩)
    | refine ⟨_, h.lda 0 _ rfl rfl, ?_⟩
    | refine ⟨_, _, _, h.lda 0 _ rfl rfl, ?_⟩
    | refine ⟨h.lda 0 _ rfl rfl, ?_⟩
    | refine ⟨_, h.lda 1 _ rfl rfl, ?_⟩
    | refine ⟨_, _, _, h.lda 1 _ rfl rfl, ?_⟩
    | refine ⟨h.lda 1 _ rfl rfl, ?_⟩
    | refine ⟨_, h.lda 2 _ rfl rfl, ?_⟩
    | refine ⟨_, _, _, h.lda 2 _ rfl rfl, ?_⟩
    | refine ⟨h.lda 2 _ rfl rfl, ?_⟩
    | exact h.lda 0 _ rfl rfl
    | exact h.lda 1 _ rfl rfl
    | exact h.lda 2 _ rfl rfl
    | refine ⟨_, rfl, ?_⟩
    | refine ⟨_, _, rfl, ?_⟩
    | refine ⟨_, _, _, rfl, ?_⟩
    | refine ⟨_, _, _, _, _, _, _, _, _, _, _, _, rfl, ?_⟩
    | refine ⟨_, _, _, _, _, _, _, _, _, _, _, _, _, rfl, ?_⟩
    | refine ctt rfl ?_
    | refine cff rfl ?_
    | refine Meet.dup ?_
    | intro j
    | rw [ws]
    | simp only [ws, add_mk]
    | refine And.intro ?_ ?_)
  replace h := h.bring 1 rfl
  simp only [List.eraseIdx_cons_zero, List.eraseIdx_cons_succ] at h
  refine Loop.start (fun Y hY => ?_)
  refine hY _ _ ?_
  dsimp only
  repeat' (first
    | (refine New.at h (fun b w hh => ?_); clear h; have h := hh; clear hh)
    | (refine Drew.of h (fun w hh => ?_); clear h; have h := hh; clear hh)
    | (refine St.at h 0 _ rfl rfl rfl (fun w hh => ?_); clear h; have h := hh; clear hh; simp only [List.set_cons_zero, List.set_cons_succ] at h)
    | (refine St.at h 1 _ rfl rfl rfl (fun w hh => ?_); clear h; have h := hh; clear hh; simp only [List.set_cons_zero, List.set_cons_succ] at h)
    | (refine St.at h 2 _ rfl rfl rfl (fun w hh => ?_); clear h; have h := hh; clear hh; simp only [List.set_cons_zero, List.set_cons_succ] at h)
    | (refine St.at h 3 _ rfl rfl rfl (fun w hh => ?_); clear h; have h := hh; clear hh; simp only [List.set_cons_zero, List.set_cons_succ] at h)
    | (refine St.at h 4 _ rfl rfl rfl (fun w hh => ?_); clear h; have h := hh; clear hh; simp only [List.set_cons_zero, List.set_cons_succ] at h)
    | refine ⟨⟨by decide, by decide⟩, ?_⟩
    | (refine CallR.of (Add_sum_other _ _ _ _ _ _ _ _ _ _ _ _ _ _ _ _ _ (by decide) (by decide) h) ?_; rintro _ w ⟨rfl, h⟩)
    | refine ⟨_, h.lda 0 _ rfl rfl, ?_⟩
    | refine ⟨_, _, _, h.lda 0 _ rfl rfl, ?_⟩
    | refine ⟨h.lda 0 _ rfl rfl, ?_⟩
    | refine ⟨_, h.lda 1 _ rfl rfl, ?_⟩
    | refine ⟨_, _, _, h.lda 1 _ rfl rfl, ?_⟩
    | refine ⟨h.lda 1 _ rfl rfl, ?_⟩
    | refine ⟨_, h.lda 2 _ rfl rfl, ?_⟩
    | refine ⟨_, _, _, h.lda 2 _ rfl rfl, ?_⟩
    | refine ⟨h.lda 2 _ rfl rfl, ?_⟩
    | refine ⟨_, h.lda 3 _ rfl rfl, ?_⟩
    | refine ⟨_, _, _, h.lda 3 _ rfl rfl, ?_⟩
    | refine ⟨h.lda 3 _ rfl rfl, ?_⟩
    | refine ⟨_, h.lda 4 _ rfl rfl, ?_⟩
    | refine ⟨_, _, _, h.lda 4 _ rfl rfl, ?_⟩
    | refine ⟨h.lda 4 _ rfl rfl, ?_⟩
    | exact h.lda 0 _ rfl rfl
    | exact h.lda 1 _ rfl rfl
    | exact h.lda 2 _ rfl rfl
    | exact h.lda 3 _ rfl rfl
    | exact h.lda 4 _ rfl rfl
    | refine ⟨_, rfl, ?_⟩
    | refine ⟨_, _, rfl, ?_⟩
    | refine ⟨_, _, _, rfl, ?_⟩
    | refine ⟨_, _, _, _, _, _, _, _, _, _, _, _, rfl, ?_⟩
    | refine ⟨_, _, _, _, _, _, _, _, _, _, _, _, _, rfl, ?_⟩
    | refine ctt rfl ?_
    | refine cff rfl ?_
    | refine Meet.dup ?_
    | intro j
    | rw [ws]
    | simp only [ws, add_mk]
    | refine And.intro ?_ ?_)
  refine hY _ _ ?_
  dsimp only
  simp only [w1, w2, w3, w4, w5, w6, w7, w8, w03, w33, k1, k2, c1]
  (try simp only [w1, w2, w3, w4, w5, w6, w7, w8, w03, w33, k1, k2, c1] at h)
  repeat' (first
    | (refine New.at h (fun b w hh => ?_); clear h; have h := hh; clear hh)
    | (refine Drew.of h (fun w hh => ?_); clear h; have h := hh; clear hh)
    | (refine St.at h 0 _ rfl rfl rfl (fun w hh => ?_); clear h; have h := hh; clear hh; simp only [List.set_cons_zero, List.set_cons_succ] at h)
    | (refine St.at h 1 _ rfl rfl rfl (fun w hh => ?_); clear h; have h := hh; clear hh; simp only [List.set_cons_zero, List.set_cons_succ] at h)
    | (refine St.at h 2 _ rfl rfl rfl (fun w hh => ?_); clear h; have h := hh; clear hh; simp only [List.set_cons_zero, List.set_cons_succ] at h)
    | (refine St.at h 3 _ rfl rfl rfl (fun w hh => ?_); clear h; have h := hh; clear hh; simp only [List.set_cons_zero, List.set_cons_succ] at h)
    | (refine St.at h 4 _ rfl rfl rfl (fun w hh => ?_); clear h; have h := hh; clear hh; simp only [List.set_cons_zero, List.set_cons_succ] at h)
    | refine ⟨⟨by decide, by decide⟩, ?_⟩
    | (refine CallR.of (Add_sum_other _ _ _ _ _ _ _ _ _ _ _ _ _ _ _ _ _ (by decide) (by decide) h) ?_; rintro _ w ⟨rfl, h⟩)
    | refine ⟨_, h.lda 0 _ rfl rfl, ?_⟩
    | refine ⟨_, _, _, h.lda 0 _ rfl rfl, ?_⟩
    | refine ⟨h.lda 0 _ rfl rfl, ?_⟩
    | refine ⟨_, h.lda 1 _ rfl rfl, ?_⟩
    | refine ⟨_, _, _, h.lda 1 _ rfl rfl, ?_⟩
    | refine ⟨h.lda 1 _ rfl rfl, ?_⟩
    | refine ⟨_, h.lda 2 _ rfl rfl, ?_⟩
    | refine ⟨_, _, _, h.lda 2 _ rfl rfl, ?_⟩
    | refine ⟨h.lda 2 _ rfl rfl, ?_⟩
    | refine ⟨_, h.lda 3 _ rfl rfl, ?_⟩
    | refine ⟨_, _, _, h.lda 3 _ rfl rfl, ?_⟩
    | refine ⟨h.lda 3 _ rfl rfl, ?_⟩
    | refine ⟨_, h.lda 4 _ rfl rfl, ?_⟩
    | refine ⟨_, _, _, h.lda 4 _ rfl rfl, ?_⟩
    | refine ⟨h.lda 4 _ rfl rfl, ?_⟩
    | exact h.lda 0 _ rfl rfl
    | exact h.lda 1 _ rfl rfl
    | exact h.lda 2 _ rfl rfl
    | exact h.lda 3 _ rfl rfl
    | exact h.lda 4 _ rfl rfl
    | refine ⟨_, rfl, ?_⟩
    | refine ⟨_, _, rfl, ?_⟩
    | refine ⟨_, _, _, rfl, ?_⟩
    | refine ⟨_, _, _, _, _, _, _, _, _, _, _, _, rfl, ?_⟩
    | refine ⟨_, _, _, _, _, _, _, _, _, _, _, _, _, rfl, ?_⟩
    | refine ctt rfl ?_
    | refine cff rfl ?_
    | refine Meet.dup ?_
    | intro j
    | rw [ws]
    | simp only [ws, add_mk]
    | refine And.intro ?_ ?_)
  refine hY _ _ ?_
  dsimp only
  simp only [w1, w2, w3, w4, w5, w6, w7, w8, w03, w33, k1, k2, c1]
  (try simp only [w1, w2, w3, w4, w5, w6, w7, w8, w03, w33, k1, k2, c1] at h)
  repeat' (first
    | (refine New.at h (fun b w hh => ?_); clear h; have h := hh; clear hh)
    | (refine Drew.of h (fun w hh => ?_); clear h; have h := hh; clear hh)
    | (refine St.at h 0 _ rfl rfl rfl (fun w hh => ?_); clear h; have h := hh; clear hh; simp only [List.set_cons_zero, List.set_cons_succ] at h)
    | (refine St.at h 1 _ rfl rfl rfl (fun w hh => ?_); clear h; have h := hh; clear hh; simp only [List.set_cons_zero, List.set_cons_succ] at h)
    | (refine St.at h 2 _ rfl rfl rfl (fun w hh => ?_); clear h; have h := hh; clear hh; simp only [List.set_cons_zero, List.set_cons_succ] at h)
    | (refine St.at h 3 _ rfl rfl rfl (fun w hh => ?_); clear h; have h := hh; clear hh; simp only [List.set_cons_zero, List.set_cons_succ] at h)
    | (refine St.at h 4 _ rfl rfl rfl (fun w hh => ?_); clear h; have h := hh; clear hh; simp only [List.set_cons_zero, List.set_cons_succ] at h)
    | refine ⟨⟨by decide, by decide⟩, ?_⟩
    | (refine CallR.of (Add_sum _ _ _ _ _ _ _ (by decide) (by decide) (by decide) h) ?_; rintro _ w ⟨rfl, h⟩)
    | refine ⟨_, h.lda 0 _ rfl rfl, ?_⟩
    | refine ⟨_, _, _, h.lda 0 _ rfl rfl, ?_⟩
    | refine ⟨h.lda 0 _ rfl rfl, ?_⟩
    | refine ⟨_, h.lda 1 _ rfl rfl, ?_⟩
    | refine ⟨_, _, _, h.lda 1 _ rfl rfl, ?_⟩
    | refine ⟨h.lda 1 _ rfl rfl, ?_⟩
    | refine ⟨_, h.lda 2 _ rfl rfl, ?_⟩
    | refine ⟨_, _, _, h.lda 2 _ rfl rfl, ?_⟩
    | refine ⟨h.lda 2 _ rfl rfl, ?_⟩
    | refine ⟨_, h.lda 3 _ rfl rfl, ?_⟩
    | refine ⟨_, _, _, h.lda 3 _ rfl rfl, ?_⟩
    | refine ⟨h.lda 3 _ rfl rfl, ?_⟩
    | refine ⟨_, h.lda 4 _ rfl rfl, ?_⟩
    | refine ⟨_, _, _, h.lda 4 _ rfl rfl, ?_⟩
    | refine ⟨h.lda 4 _ rfl rfl, ?_⟩
    | exact h.lda 0 _ rfl rfl
    | exact h.lda 1 _ rfl rfl
    | exact h.lda 2 _ rfl rfl
    | exact h.lda 3 _ rfl rfl
    | exact h.lda 4 _ rfl rfl
    | refine ⟨_, rfl, ?_⟩
    | refine ⟨_, _, rfl, ?_⟩
    | refine ⟨_, _, _, rfl, ?_⟩
    | refine ⟨_, _, _, _, _, _, _, _, _, _, _, _, rfl, ?_⟩
    | refine ⟨_, _, _, _, _, _, _, _, _, _, _, _, _, rfl, ?_⟩
    | refine ctt rfl ?_
    | refine cff rfl ?_
    | refine Meet.dup ?_
    | intro j
    | rw [ws]
    | simp only [ws, add_mk]
    | refine And.intro ?_ ?_)
  refine hY _ _ ?_
  dsimp only
  simp only [w1, w2, w3, w4, w5, w6, w7, w8, w03, w33, k1, k2, c1]
  (try simp only [w1, w2, w3, w4, w5, w6, w7, w8, w03, w33, k1, k2, c1] at h)
  repeat' (first
    | (refine New.at h (fun b w hh => ?_); clear h; have h := hh; clear hh)
    | (refine Drew.of h (fun w hh => ?_); clear h; have h := hh; clear hh)
    | (refine St.at h 0 _ rfl rfl rfl (fun w hh => ?_); clear h; have h := hh; clear hh; simp only [List.set_cons_zero, List.set_cons_succ] at h)
    | (refine St.at h 1 _ rfl rfl rfl (fun w hh => ?_); clear h; have h := hh; clear hh; simp only [List.set_cons_zero, List.set_cons_succ] at h)
    | (refine St.at h 2 _ rfl rfl rfl (fun w hh => ?_); clear h; have h := hh; clear hh; simp only [List.set_cons_zero, List.set_cons_succ] at h)
    | (refine St.at h 3 _ rfl rfl rfl (fun w hh => ?_); clear h; have h := hh; clear hh; simp only [List.set_cons_zero, List.set_cons_succ] at h)
    | (refine St.at h 4 _ rfl rfl rfl (fun w hh => ?_); clear h; have h := hh; clear hh; simp only [List.set_cons_zero, List.set_cons_succ] at h)
    | refine ⟨⟨by decide, by decide⟩, ?_⟩
    | (refine CallR.of (Add_sum _ _ _ _ _ _ _ (by decide) (by decide) (by decide) h) ?_; rintro _ w ⟨rfl, h⟩)
    | refine ⟨_, h.lda 0 _ rfl rfl, ?_⟩
    | refine ⟨_, _, _, h.lda 0 _ rfl rfl, ?_⟩
    | refine ⟨h.lda 0 _ rfl rfl, ?_⟩
    | refine ⟨_, h.lda 1 _ rfl rfl, ?_⟩
    | refine ⟨_, _, _, h.lda 1 _ rfl rfl, ?_⟩
    | refine ⟨h.lda 1 _ rfl rfl, ?_⟩
    | refine ⟨_, h.lda 2 _ rfl rfl, ?_⟩
    | refine ⟨_, _, _, h.lda 2 _ rfl rfl, ?_⟩
    | refine ⟨h.lda 2 _ rfl rfl, ?_⟩
    | refine ⟨_, h.lda 3 _ rfl rfl, ?_⟩
    | refine ⟨_, _, _, h.lda 3 _ rfl rfl, ?_⟩
    | refine ⟨h.lda 3 _ rfl rfl, ?_⟩
    | refine ⟨_, h.lda 4 _ rfl rfl, ?_⟩
    | refine ⟨_, _, _, h.lda 4 _ rfl rfl, ?_⟩
    | refine ⟨h.lda 4 _ rfl rfl, ?_⟩
    | exact h.lda 0 _ rfl rfl
    | exact h.lda 1 _ rfl rfl
    | exact h.lda 2 _ rfl rfl
    | exact h.lda 3 _ rfl rfl
    | exact h.lda 4 _ rfl rfl
    | refine ⟨_, rfl, ?_⟩
    | refine ⟨_, _, rfl, ?_⟩
    | refine ⟨_, _, _, rfl, ?_⟩
    | refine ⟨_, _, _, _, _, _, _, _, _, _, _, _, rfl, ?_⟩
    | refine ⟨_, _, _, _, _, _, _, _, _, _, _, _, _, rfl, ?_⟩
    | refine ctt rfl ?_
    | refine cff rfl ?_
    | refine Meet.dup ?_
    | intro j
    | rw [ws]
    | simp only [ws, add_mk]
    | refine And.intro ?_ ?_)
  refine hY _ _ ?_
  dsimp only
  simp only [w1, w2, w3, w4, w5, w6, w7, w8, w03, w33, k1, k2, c1]
  (try simp only [w1, w2, w3, w4, w5, w6, w7, w8, w03, w33, k1, k2, c1] at h)
  repeat' (first
    | (refine New.at h (fun b w hh => ?_); clear h; have h := hh; clear hh)
    | (refine Drew.of h (fun w hh => ?_); clear h; have h := hh; clear hh)
    | (refine St.at h 0 _ rfl rfl rfl (fun w hh => ?_); clear h; have h := hh; clear hh; simp only [List.set_cons_zero, List.set_cons_succ] at h)
    | (refine St.at h 1 _ rfl rfl rfl (fun w hh => ?_); clear h; have h := hh; clear hh; simp only [List.set_cons_zero, List.set_cons_succ] at h)
    | (refine St.at h 2 _ rfl rfl rfl (fun w hh => ?_); clear h; have h := hh; clear hh; simp only [List.set_cons_zero, List.set_cons_succ] at h)
    | (refine St.at h 3 _ rfl rfl rfl (fun w hh => ?_); clear h; have h := hh; clear hh; simp only [List.set_cons_zero, List.set_cons_succ] at h)
    | (refine St.at h 4 _ rfl rfl rfl (fun w hh => ?_); clear h; have h := hh; clear hh; simp only [List.set_cons_zero, List.set_cons_succ] at h)
    | refine ⟨⟨by decide, by decide⟩, ?_⟩
    | (refine CallR.of (Add_sum_other _ _ _ _ _ _ _ _ _ _ _ _ _ _ _ _ _ (by decide) (by decide) h) ?_; rintro _ w ⟨rfl, h⟩)
    | refine ⟨_, h.lda 0 _ rfl rfl, ?_⟩
    | refine ⟨_, _, _, h.lda 0 _ rfl rfl, ?_⟩
    | refine ⟨h.lda 0 _ rfl rfl, ?_⟩
    | refine ⟨_, h.lda 1 _ rfl rfl, ?_⟩
    | refine ⟨_, _, _, h.lda 1 _ rfl rfl, ?_⟩
    | refine ⟨h.lda 1 _ rfl rfl, ?_⟩
    | refine ⟨_, h.lda 2 _ rfl rfl, ?_⟩
    | refine ⟨_, _, _, h.lda 2 _ rfl rfl, ?_⟩
    | refine ⟨h.lda 2 _ rfl rfl, ?_⟩
    | refine ⟨_, h.lda 3 _ rfl rfl, ?_⟩
    | refine ⟨_, _, _, h.lda 3 _ rfl rfl, ?_⟩
    | refine ⟨h.lda 3 _ rfl rfl, ?_⟩
    | refine ⟨_, h.lda 4 _ rfl rfl, ?_⟩
    | refine ⟨_, _, _, h.lda 4 _ rfl rfl, ?_⟩
    | refine ⟨h.lda 4 _ rfl rfl, ?_⟩
    | exact h.lda 0 _ rfl rfl
    | exact h.lda 1 _ rfl rfl
    | exact h.lda 2 _ rfl rfl
    | exact h.lda 3 _ rfl rfl
    | exact h.lda 4 _ rfl rfl
    | refine ⟨_, rfl, ?_⟩
    | refine ⟨_, _, rfl, ?_⟩
    | refine ⟨_, _, _, rfl, ?_⟩
    | refine ⟨_, _, _, _, _, _, _, _, _, _, _, _, rfl, ?_⟩
    | refine ⟨_, _, _, _, _, _, _, _, _, _, _, _, _, rfl, ?_⟩
    | refine ctt rfl ?_
    | refine cff rfl ?_
    | refine Meet.dup ?_
    | intro j
    | rw [ws]
    | simp only [ws, add_mk]
    | refine And.intro ?_ ?_)
  refine hY _ _ ?_
  dsimp only
  simp only [w1, w2, w3, w4, w5, w6, w7, w8, w03, w33, k1, k2, c1]
  (try simp only [w1, w2, w3, w4, w5, w6, w7, w8, w03, w33, k1, k2, c1] at h)
  repeat' (first
    | (refine New.at h (fun b w hh => ?_); clear h; have h := hh; clear hh)
    | (refine Drew.of h (fun w hh => ?_); clear h; have h := hh; clear hh)
    | (refine St.at h 0 _ rfl rfl rfl (fun w hh => ?_); clear h; have h := hh; clear hh; simp only [List.set_cons_zero, List.set_cons_succ] at h)
    | (refine St.at h 1 _ rfl rfl rfl (fun w hh => ?_); clear h; have h := hh; clear hh; simp only [List.set_cons_zero, List.set_cons_succ] at h)
    | (refine St.at h 2 _ rfl rfl rfl (fun w hh => ?_); clear h; have h := hh; clear hh; simp only [List.set_cons_zero, List.set_cons_succ] at h)
    | refine ⟨⟨by decide, by decide⟩, ?_⟩
    | (refine CallR.of (Value_num _ _ _ _ _ _ (by decide) h) ?_; rintro _ w ⟨rfl, h⟩)
    | refine ⟨_, h.lda 0 _ rfl rfl, ?_⟩
    | refine ⟨_, _, _, h.lda 0 _ rfl rfl, ?_⟩
    | refine ⟨h.lda 0 _ rfl rfl, ?_⟩
    | refine ⟨_, h.lda 1 _ rfl rfl, ?_⟩
    | refine ⟨_, _, _, h.lda 1 _ rfl rfl, ?_⟩
    | refine ⟨h.lda 1 _ rfl rfl, ?_⟩
    | refine ⟨_, h.lda 2 _ rfl rfl, ?_⟩
    | refine ⟨_, _, _, h.lda 2 _ rfl rfl, ?_⟩
    | refine ⟨h.lda 2 _ rfl rfl, ?_⟩
    | exact h.lda 0 _ rfl rfl
    | exact h.lda 1 _ rfl rfl
    | exact h.lda 2 _ rfl rfl
    | refine ⟨_, rfl, ?_⟩
    | refine ⟨_, _, rfl, ?_⟩
    | refine ⟨_, _, _, rfl, ?_⟩
    | refine ⟨_, _, _, _, _, _, _, _, _, _, _, _, rfl, ?_⟩
    | refine ⟨_, _, _, _, _, _, _, _, _, _, _, _, _, rfl, ?_⟩
    | refine ctt rfl ?_
    | refine cff rfl ?_
    | refine Meet.dup ?_
    | intro j
    | rw [ws]
    | simp only [ws, add_mk]
    | refine And.intro ?_ ?_)
  exact s1 h.tail.tail.tail

theorem known (h : Holds G w (all L)) : Calls pg f_aqueductlaw12_AccumKnown #[] w (Ret fun v w' => v = .bool true ∧ ∃ A, Holds G w' A) := by
  apply of_aqueductlaw12_AccumKnown
  unfold c_aqueductlaw12_AccumKnown
  repeat' (first
    | (refine New.at h (fun b w hh => ?_); clear h; have h := hh; clear hh)
    | (refine Drew.of h (fun w hh => ?_); clear h; have h := hh; clear hh)
    | (refine St.at h 0 _ rfl rfl rfl (fun w hh => ?_); clear h; have h := hh; clear hh; simp only [List.set_cons_zero, List.set_cons_succ] at h)
    | (refine St.at h 1 _ rfl rfl rfl (fun w hh => ?_); clear h; have h := hh; clear hh; simp only [List.set_cons_zero, List.set_cons_succ] at h)
    | (refine CallR.of (awake h) ?_; rintro _ w ⟨rfl, h⟩)
    | (refine CallR.of (known_1 _ h) ?_; rintro _ w ⟨rfl, h⟩)
    | refine ⟨_, h.lda 0 _ rfl rfl, ?_⟩
    | refine ⟨_, _, _, h.lda 0 _ rfl rfl, ?_⟩
    | refine ⟨h.lda 0 _ rfl rfl, ?_⟩
    | refine ⟨_, h.lda 1 _ rfl rfl, ?_⟩
    | refine ⟨_, _, _, h.lda 1 _ rfl rfl, ?_⟩
    | refine ⟨h.lda 1 _ rfl rfl, ?_⟩
    | exact h.lda 0 _ rfl rfl
    | exact h.lda 1 _ rfl rfl
    | refine ⟨_, rfl, ?_⟩
    | refine ⟨_, _, rfl, ?_⟩
    | refine ⟨_, _, _, rfl, ?_⟩
    | refine ⟨_, _, _, _, _, _, _, _, _, _, _, _, rfl, ?_⟩
    | refine ⟨_, _, _, _, _, _, _, _, _, _, _, _, _, rfl, ?_⟩
    | refine ctt rfl ?_
    | refine cff rfl ?_
    | refine Meet.dup ?_
    | intro j
    | rw [ws]
    | simp only [ws, add_mk]
    | refine And.intro ?_ ?_)
  refine Loop.start (fun X hX => ?_)
  rename_i bi wi
  have hK : ∀ s w, kBody bi b (Ret fun v w' => v = .bool true ∧ ∃ A, Holds G w' A) X s w → X s w := by
    intro s w hk
    refine hX s w ?_
    unfold kBody at hk
    simp only [ws, add_mk] at hk
    exact hk
  exact known_s0 hK (known_s1 hK (known_s2 hK (known_s3 hK (known_s4 hK (known_s5 hK (known_s6 hK (known_s7 hK (known_s8 hK)))))))) h

end
end Go.Proofs.Sd
