/- By a program of mine (Gen): the conditions of the functions, part 1. -/
import Derived.Test.YtnckkeefipaoeaaDoorSdTab
set_option linter.unusedVariables false
set_option maxRecDepth 100000
namespace Go.Proofs.Sd
open Go Go.Eng
open Go.Proofs
/-- aqueduct/aqueductlaw12.AccumKnown -/
def c_aqueductlaw12_AccumKnown  (w : World) (R : Ending → World → Prop) : Prop :=
 (CallR pg f_aqueductlaw12_awake [] w (fun ch w => R (.panicked ch) w) fun v0 w1 =>
 ∃ y2 : Bool, v0 = (.bool y2) ∧
 (cond (!y2)
 (R (.returned (.bool false)) w1)
 ((CallR pg f_aqueductlaw12_AccumKnown_1 [(.int .i64 (3 : Int))] w1 (fun ch w => R (.panicked ch) w) fun v3 w4 =>
 ∃ y5 : Int, ∃ y6 : Int, ∃ y7 : ByteArray, ∃ (y8 : Option Addr) (l9 c10 : Nat), ∃ (y11 : Option Addr) (l12 c13 : Nat), ∃ (y14 : Option Addr) (l15 c16 : Nat), v3 = (.agg #[(.int .i64 y5), (.int .i64 y6), (.string y7), (.slice y8 l9 c10), (.slice y11 l12 c13), (.slice y14 l15 c16)]) ∧
 (New w4 (.cells #[(.int .i64 (0 : Int)), (.int .i64 (0 : Int)), (.string (⟨#[]⟩ : ByteArray)), (.slice none 0 0), (.slice none 0 0), (.slice none 0 0), (.int .i64 (2 : Int)), (.int .i64 (0 : Int)), (.string (⟨#[]⟩ : ByteArray)), (.slice none 0 0), (.slice none 0 0), (.slice none 0 0), (.int .i64 y5), (.int .i64 y6), (.string y7), (.slice y8 l9 c10), (.slice y11 l12 c13), (.slice y14 l15 c16), (.int .i64 (3 : Int)), (.int .i64 (3 : Int)), (.string (⟨#[]⟩ : ByteArray)), (.slice none 0 0), (.slice none 0 0), (.slice none 0 0), (.int .i64 (0 : Int)), (.int .i64 (0 : Int)), (.string (⟨#[]⟩ : ByteArray)), (.slice none 0 0), (.slice none 0 0), (.slice none 0 0)] t_api_Value (0, 0)) fun b17 w18 =>
 (New w18 (.cells #[(.string (⟨#[36, 115, 117, 109]⟩ : ByteArray)), (.string (⟨#[36, 109, 105, 110]⟩ : ByteArray)), (.string (⟨#[36, 109, 97, 120]⟩ : ByteArray)), (.string (⟨#[36, 102, 105, 114, 115, 116]⟩ : ByteArray)), (.string (⟨#[36, 108, 97, 115, 116]⟩ : ByteArray)), (.string (⟨#[36, 112, 117, 115, 104]⟩ : ByteArray)), (.string (⟨#[36, 97, 100, 100, 84, 111, 83, 101, 116]⟩ : ByteArray)), (.string (⟨#[36, 99, 111, 117, 110, 116]⟩ : ByteArray))] t_string (0, 0)) fun b19 w20 =>
 (Eng.Loop (σ := Bool × Int) (fun X21 s22 w23 =>
 ∀ j24 : Nat → Value, (cond (decide (s22.2 < ((8 : Nat) : Int)))
 ((0 ≤ s22.2 ∧ s22.2 < ((8 : Nat) : Int)) ∧
 ∃ x25 : ByteArray, w23.cell? ((⟨b19, 0, none⟩ : Addr).add ((s22.2).toNat * 1)) = some (.string x25) ∧
 (CallR pg f_accum_Kind [(.string x25)] w23 (fun ch w => R (.panicked ch) w) fun v26 w27 =>
 ∃ y28 : Int, v26 = (.int .i64 y28) ∧
 (CallR pg f_accum_New [(.int .i64 y28)] w27 (fun ch w => R (.panicked ch) w) fun v29 w30 =>
 ∃ y31 : Option Addr, v29 = (.pointer y31) ∧
 (cond y31.isNone
 (R (.returned (.bool false)) w30)
 ((CallR pg f_Paccum_State_Value [(.pointer y31)] w30 (fun ch w => R (.panicked ch) w) fun v32 w33 =>
 ∃ y34 : Int, ∃ y35 : Int, ∃ y36 : ByteArray, ∃ (y37 : Option Addr) (l38 c39 : Nat), ∃ (y40 : Option Addr) (l41 c42 : Nat), ∃ (y43 : Option Addr) (l44 c45 : Nat), v32 = (.agg #[(.int .i64 y34), (.int .i64 y35), (.string y36), (.slice y37 l38 c39), (.slice y40 l41 c42), (.slice y43 l44 c45)]) ∧
 (New w33 (.cells #[(.int .i64 (0 : Int)), (.int .i64 (0 : Int)), (.string (⟨#[]⟩ : ByteArray)), (.slice none 0 0), (.slice none 0 0), (.slice none 0 0)] t_api_Value (0, 0)) fun b46 w47 =>
 (St w47 ⟨b46, 0, none⟩ (.int .i64 y34) fun w48 =>
 (St w48 ⟨b46, 1, none⟩ (.int .i64 y35) fun w49 =>
 (St w49 ⟨b46, 2, none⟩ (.string y36) fun w50 =>
 (St w50 ⟨b46, 3, none⟩ (.slice y37 l38 c39) fun w51 =>
 (St w51 ⟨b46, 4, none⟩ (.slice y40 l41 c42) fun w52 =>
 (St w52 ⟨b46, 5, none⟩ (.slice y43 l44 c45) fun w53 =>
 (Eng.Loop (σ := Bool × Int) (fun X54 s55 w56 =>
 ∀ j57 : Nat → Value, (cond (decide (s55.2 < ((5 : Nat) : Int)))
 ((0 ≤ s55.2 ∧ s55.2 < ((5 : Nat) : Int)) ∧
 ∃ x58 : Int, w56.cell? ((⟨b17, 0, none⟩ : Addr).add ((s55.2).toNat * 6)) = some (.int .i64 x58) ∧
 ∃ x59 : Int, w56.cell? (((⟨b17, 0, none⟩ : Addr).add ((s55.2).toNat * 6)).add 1) = some (.int .i64 x59) ∧
 ∃ x60 : ByteArray, w56.cell? (((⟨b17, 0, none⟩ : Addr).add ((s55.2).toNat * 6)).add 2) = some (.string x60) ∧
 ∃ (x61 : Option Addr) (l62 c63 : Nat), w56.cell? (((⟨b17, 0, none⟩ : Addr).add ((s55.2).toNat * 6)).add 3) = some (.slice x61 l62 c63) ∧
 ∃ (x64 : Option Addr) (l65 c66 : Nat), w56.cell? (((⟨b17, 0, none⟩ : Addr).add ((s55.2).toNat * 6)).add 4) = some (.slice x64 l65 c66) ∧
 ∃ (x67 : Option Addr) (l68 c69 : Nat), w56.cell? (((⟨b17, 0, none⟩ : Addr).add ((s55.2).toNat * 6)).add 5) = some (.slice x67 l68 c69) ∧
 (CallR pg f_Paccum_State_Add [(.pointer y31), (.agg #[(.int .i64 x58), (.int .i64 x59), (.string x60), (.slice x61 l62 c63), (.slice x64 l65 c66), (.slice x67 l68 c69)])] w56 (fun ch w => R (.panicked ch) w) fun v70 w71 =>
 ∃ y72 : Int, v70 = (.int .i64 y72) ∧
 (cond (y72 != (0 : Int))
 (R (.returned (.bool false)) w71)
 (X54 (s55.1, (IntKind.i64.wrap (s55.2 + (1 : Int)))) w71))))
 ((CallR pg f_Paccum_State_Value [(.pointer y31)] w56 (fun ch w => R (.panicked ch) w) fun v73 w74 =>
 ∃ y75 : Int, ∃ y76 : Int, ∃ y77 : ByteArray, ∃ (y78 : Option Addr) (l79 c80 : Nat), ∃ (y81 : Option Addr) (l82 c83 : Nat), ∃ (y84 : Option Addr) (l85 c86 : Nat), v73 = (.agg #[(.int .i64 y75), (.int .i64 y76), (.string y77), (.slice y78 l79 c80), (.slice y81 l82 c83), (.slice y84 l85 c86)]) ∧
 (New w74 (.cells #[(.int .i64 (0 : Int)), (.int .i64 (0 : Int)), (.string (⟨#[]⟩ : ByteArray)), (.slice none 0 0), (.slice none 0 0), (.slice none 0 0)] t_api_Value (0, 0)) fun b87 w88 =>
 (St w88 ⟨b87, 0, none⟩ (.int .i64 y75) fun w89 =>
 (St w89 ⟨b87, 1, none⟩ (.int .i64 y76) fun w90 =>
 (St w90 ⟨b87, 2, none⟩ (.string y77) fun w91 =>
 (St w91 ⟨b87, 3, none⟩ (.slice y78 l79 c80) fun w92 =>
 (St w92 ⟨b87, 4, none⟩ (.slice y81 l82 c83) fun w93 =>
 (St w93 ⟨b87, 5, none⟩ (.slice y84 l85 c86) fun w94 =>
 (Meet (σ := Bool) (fun J95 =>
 (cond (s22.2 == (0 : Int))
 (∃ x98 : Int, w94.cell? ⟨b46, 0, none⟩ = some (.int .i64 x98) ∧
 (cond (x98 == (3 : Int))
 (∃ x99 : Int, w94.cell? ⟨b46, 1, none⟩ = some (.int .i64 x99) ∧
 (cond (x99 == (0 : Int))
 (∃ x100 : Int, w94.cell? ⟨b87, 0, none⟩ = some (.int .i64 x100) ∧
 (cond (x100 == (4 : Int))
 (∃ x101 : Int, w94.cell? ⟨b87, 1, none⟩ = some (.int .i64 x101) ∧
 J95 (x101 == (6 : Int)) w94)
 (J95 false w94)))
 (J95 false w94)))
 (J95 false w94)))
 ((Meet (σ := Bool) (fun J102 =>
 (cond (s22.2 == (1 : Int))
 (J102 true w94)
 (J102 (s22.2 == (2 : Int)) w94)))
 (fun s103 w104 =>
 ∀ j105 : Nat → Value, (cond s103
 (∃ x106 : Int, w104.cell? ⟨b46, 0, none⟩ = some (.int .i64 x106) ∧
 (cond (x106 == (2 : Int))
 (∃ x107 : Int, w104.cell? ⟨b87, 0, none⟩ = some (.int .i64 x107) ∧
 (cond (x107 == (4 : Int))
 (∃ x108 : Int, w104.cell? ⟨b87, 1, none⟩ = some (.int .i64 x108) ∧
 J95 (x108 == (3 : Int)) w104)
 (J95 false w104)))
 (J95 false w104)))
 ((Meet (σ := Bool) (fun J109 =>
 (cond (s22.2 == (3 : Int))
 (J109 true w104)
 (J109 (s22.2 == (4 : Int)) w104)))
 (fun s110 w111 =>
 ∀ j112 : Nat → Value, (cond s110
 (∃ x113 : Int, w111.cell? ⟨b46, 0, none⟩ = some (.int .i64 x113) ∧
 (cond (x113 == (2 : Int))
 (∃ x114 : Int, w111.cell? ⟨b87, 0, none⟩ = some (.int .i64 x114) ∧
 J95 (x114 == (2 : Int)) w111)
 (J95 false w111)))
 ((cond (s22.2 == (5 : Int))
 (∃ x115 : Int, w111.cell? ⟨b46, 0, none⟩ = some (.int .i64 x115) ∧
 (cond (x115 == (7 : Int))
 (∃ (x116 : Option Addr) (l117 c118 : Nat), w111.cell? ⟨b46, 5, none⟩ = some (.slice x116 l117 c118) ∧
 (cond (((l117 : Nat) : Int) == (0 : Int))
 (∃ (x119 : Option Addr) (l120 c121 : Nat), w111.cell? ⟨b87, 5, none⟩ = some (.slice x119 l120 c121) ∧
 (cond (((l120 : Nat) : Int) == (3 : Int))
 (∃ (x122 : Option Addr) (l123 c124 : Nat), w111.cell? ⟨b87, 5, none⟩ = some (.slice x122 l123 c124) ∧
 (withSome x122 fun (a125 : Addr) =>
 (0 ≤ (0 : Int) ∧ (0 : Int) < ((l123 : Nat) : Int)) ∧
 ∃ x126 : Int, w111.cell? (a125.add (((0 : Int)).toNat * 6)) = some (.int .i64 x126) ∧
 J95 (x126 == (2 : Int)) w111))
 (J95 false w111)))
 (J95 false w111)))
 (J95 false w111)))
 ((cond (s22.2 == (6 : Int))
 (∃ x127 : Int, w111.cell? ⟨b46, 0, none⟩ = some (.int .i64 x127) ∧
 (cond (x127 == (7 : Int))
 (∃ (x128 : Option Addr) (l129 c130 : Nat), w111.cell? ⟨b87, 5, none⟩ = some (.slice x128 l129 c130) ∧
 (cond (((l129 : Nat) : Int) == (2 : Int))
 (∃ (x131 : Option Addr) (l132 c133 : Nat), w111.cell? ⟨b87, 5, none⟩ = some (.slice x131 l132 c133) ∧
 (withSome x131 fun (a134 : Addr) =>
 (0 ≤ (1 : Int) ∧ (1 : Int) < ((l132 : Nat) : Int)) ∧
 ∃ x135 : Int, w111.cell? (a134.add (((1 : Int)).toNat * 6)) = some (.int .i64 x135) ∧
 J95 (x135 == (4 : Int)) w111))
 (J95 false w111)))
 (J95 false w111)))
 (∃ x136 : Int, w111.cell? ⟨b46, 1, none⟩ = some (.int .i64 x136) ∧
 (cond (x136 == (0 : Int))
 (∃ x137 : Int, w111.cell? ⟨b87, 0, none⟩ = some (.int .i64 x137) ∧
 (cond (x137 == (3 : Int))
 (∃ x138 : Int, w111.cell? ⟨b87, 1, none⟩ = some (.int .i64 x138) ∧
 J95 (x138 == (5 : Int)) w111)
 (J95 false w111)))
 (J95 false w111)))))))))))))))))
 (fun s96 w97 =>
 ∀ j139 : Nat → Value, (cond (!s96)
 (R (.returned (.bool false)) w97)
 (X21 (s55.1, (IntKind.i64.wrap (s22.2 + (1 : Int)))) w97))))))))))))))) (s22.1, (0 : Int)) w53))))))))))))))
 ((CallR pg f_accum_New [(.int .i64 (1 : Int))] w23 (fun ch w => R (.panicked ch) w) fun v140 w141 =>
 ∃ y142 : Option Addr, v140 = (.pointer y142) ∧
 (CallR pg f_aqueductlaw12_AccumKnown_1 [(.int .i64 (9223372036854775807 : Int))] w141 (fun ch w => R (.panicked ch) w) fun v143 w144 =>
 ∃ y145 : Int, ∃ y146 : Int, ∃ y147 : ByteArray, ∃ (y148 : Option Addr) (l149 c150 : Nat), ∃ (y151 : Option Addr) (l152 c153 : Nat), ∃ (y154 : Option Addr) (l155 c156 : Nat), v143 = (.agg #[(.int .i64 y145), (.int .i64 y146), (.string y147), (.slice y148 l149 c150), (.slice y151 l152 c153), (.slice y154 l155 c156)]) ∧
 (CallR pg f_Paccum_State_Add [(.pointer y142), (.agg #[(.int .i64 y145), (.int .i64 y146), (.string y147), (.slice y148 l149 c150), (.slice y151 l152 c153), (.slice y154 l155 c156)])] w144 (fun ch w => R (.panicked ch) w) fun v157 w158 =>
 ∃ y159 : Int, v157 = (.int .i64 y159) ∧
 (CallR pg f_aqueductlaw12_AccumKnown_1 [(.int .i64 (1 : Int))] w158 (fun ch w => R (.panicked ch) w) fun v160 w161 =>
 ∃ y162 : Int, ∃ y163 : Int, ∃ y164 : ByteArray, ∃ (y165 : Option Addr) (l166 c167 : Nat), ∃ (y168 : Option Addr) (l169 c170 : Nat), ∃ (y171 : Option Addr) (l172 c173 : Nat), v160 = (.agg #[(.int .i64 y162), (.int .i64 y163), (.string y164), (.slice y165 l166 c167), (.slice y168 l169 c170), (.slice y171 l172 c173)]) ∧
 (CallR pg f_Paccum_State_Add [(.pointer y142), (.agg #[(.int .i64 y162), (.int .i64 y163), (.string y164), (.slice y165 l166 c167), (.slice y168 l169 c170), (.slice y171 l172 c173)])] w161 (fun ch w => R (.panicked ch) w) fun v174 w175 =>
 ∃ y176 : Int, v174 = (.int .i64 y176) ∧
 (CallR pg f_aqueductlaw12_AccumKnown_1 [(.int .i64 (-1 : Int))] w175 (fun ch w => R (.panicked ch) w) fun v177 w178 =>
 ∃ y179 : Int, ∃ y180 : Int, ∃ y181 : ByteArray, ∃ (y182 : Option Addr) (l183 c184 : Nat), ∃ (y185 : Option Addr) (l186 c187 : Nat), ∃ (y188 : Option Addr) (l189 c190 : Nat), v177 = (.agg #[(.int .i64 y179), (.int .i64 y180), (.string y181), (.slice y182 l183 c184), (.slice y185 l186 c187), (.slice y188 l189 c190)]) ∧
 (CallR pg f_Paccum_State_Add [(.pointer y142), (.agg #[(.int .i64 y179), (.int .i64 y180), (.string y181), (.slice y182 l183 c184), (.slice y185 l186 c187), (.slice y188 l189 c190)])] w178 (fun ch w => R (.panicked ch) w) fun v191 w192 =>
 ∃ y193 : Int, v191 = (.int .i64 y193) ∧
 (Meet (σ := Bool) (fun J194 =>
 (cond (y159 == (0 : Int))
 ((cond (y176 == (10 : Int))
 ((cond (y193 == (0 : Int))
 ((CallR pg f_Paccum_State_Value [(.pointer y142)] w192 (fun ch w => R (.panicked ch) w) fun v197 w198 =>
 ∃ y199 : Int, ∃ y200 : Int, ∃ y201 : ByteArray, ∃ (y202 : Option Addr) (l203 c204 : Nat), ∃ (y205 : Option Addr) (l206 c207 : Nat), ∃ (y208 : Option Addr) (l209 c210 : Nat), v197 = (.agg #[(.int .i64 y199), (.int .i64 y200), (.string y201), (.slice y202 l203 c204), (.slice y205 l206 c207), (.slice y208 l209 c210)]) ∧
 (cond (y200 == (9223372036854775806 : Int))
 ((CallR pg f_accum_Kind [(.string (⟨#[115, 117, 109]⟩ : ByteArray))] w198 (fun ch w => R (.panicked ch) w) fun v211 w212 =>
 ∃ y213 : Int, v211 = (.int .i64 y213) ∧
 J194 (y213 == (0 : Int)) w212))
 (J194 false w198))))
 (J194 false w192)))
 (J194 false w192)))
 (J194 false w192)))
 (fun s195 w196 =>
 ∀ j214 : Nat → Value, R (.returned (.bool s195)) w196)))))))))))) (false, (0 : Int)) w20)))))))
theorem e_aqueductlaw12_AccumKnown  (w : World) (R : Ending → World → Prop) : funcX pg T bl Tryd.f4 [] w R = c_aqueductlaw12_AccumKnown  w R := by kernel_rfl
theorem of_aqueductlaw12_AccumKnown  {w : World} {R : Ending → World → Prop} (h : c_aqueductlaw12_AccumKnown  w R) : Calls pg f_aqueductlaw12_AccumKnown #[] w R :=
  funcX_of mixed tok blok Tryd.func4 (args := []) (e_aqueductlaw12_AccumKnown  w R) h
/-- aqueduct/aqueductlaw12.awake -/
def c_aqueductlaw12_awake  (w : World) (R : Ending → World → Prop) : Prop :=
 (CallR pg f_accum_New [(.int .i64 (1 : Int))] w (fun ch w => R (.panicked ch) w) fun v0 w1 =>
 ∃ y2 : Option Addr, v0 = (.pointer y2) ∧
 (cond y2.isNone
 (R (.returned (.bool false)) w1)
 ((CallR pg f_Paccum_State_Add [(.pointer y2), (.agg #[(.int .i64 (3 : Int)), (.int .i64 (1 : Int)), (.string (⟨#[]⟩ : ByteArray)), (.slice none 0 0), (.slice none 0 0), (.slice none 0 0)])] w1 (fun ch w => R (.panicked ch) w) fun v3 w4 =>
 ∃ y5 : Int, v3 = (.int .i64 y5) ∧
 (CallR pg f_Paccum_State_Add [(.pointer y2), (.agg #[(.int .i64 (5 : Int)), (.int .i64 (0 : Int)), (.string (⟨#[120]⟩ : ByteArray)), (.slice none 0 0), (.slice none 0 0), (.slice none 0 0)])] w4 (fun ch w => R (.panicked ch) w) fun v6 w7 =>
 ∃ y8 : Int, v6 = (.int .i64 y8) ∧
 (CallR pg f_Paccum_State_Add [(.pointer y2), (.agg #[(.int .i64 (3 : Int)), (.int .i64 (2 : Int)), (.string (⟨#[]⟩ : ByteArray)), (.slice none 0 0), (.slice none 0 0), (.slice none 0 0)])] w7 (fun ch w => R (.panicked ch) w) fun v9 w10 =>
 ∃ y11 : Int, v9 = (.int .i64 y11) ∧
 (CallR pg f_Paccum_State_Value [(.pointer y2)] w10 (fun ch w => R (.panicked ch) w) fun v12 w13 =>
 ∃ y14 : Int, ∃ y15 : Int, ∃ y16 : ByteArray, ∃ (y17 : Option Addr) (l18 c19 : Nat), ∃ (y20 : Option Addr) (l21 c22 : Nat), ∃ (y23 : Option Addr) (l24 c25 : Nat), v12 = (.agg #[(.int .i64 y14), (.int .i64 y15), (.string y16), (.slice y17 l18 c19), (.slice y20 l21 c22), (.slice y23 l24 c25)]) ∧
 (New w13 (.cells #[(.int .i64 (0 : Int)), (.int .i64 (0 : Int)), (.string (⟨#[]⟩ : ByteArray)), (.slice none 0 0), (.slice none 0 0), (.slice none 0 0)] t_api_Value (0, 0)) fun b26 w27 =>
 (St w27 ⟨b26, 0, none⟩ (.int .i64 y14) fun w28 =>
 (St w28 ⟨b26, 1, none⟩ (.int .i64 y15) fun w29 =>
 (St w29 ⟨b26, 2, none⟩ (.string y16) fun w30 =>
 (St w30 ⟨b26, 3, none⟩ (.slice y17 l18 c19) fun w31 =>
 (St w31 ⟨b26, 4, none⟩ (.slice y20 l21 c22) fun w32 =>
 (St w32 ⟨b26, 5, none⟩ (.slice y23 l24 c25) fun w33 =>
 (Meet (σ := Bool) (fun J34 =>
 (cond (y5 == (0 : Int))
 ((cond (y8 == (0 : Int))
 ((cond (y11 == (0 : Int))
 (∃ x37 : Int, w33.cell? ⟨b26, 0, none⟩ = some (.int .i64 x37) ∧
 (cond (x37 == (3 : Int))
 (∃ x38 : Int, w33.cell? ⟨b26, 1, none⟩ = some (.int .i64 x38) ∧
 (cond (x38 == (3 : Int))
 ((CallR pg f_accum_Kind [(.string (⟨#[36, 112, 117, 115, 104]⟩ : ByteArray))] w33 (fun ch w => R (.panicked ch) w) fun v39 w40 =>
 ∃ y41 : Int, v39 = (.int .i64 y41) ∧
 (cond (y41 == (6 : Int))
 ((CallR pg f_Paccum_State_Size [(.pointer y2)] w40 (fun ch w => R (.panicked ch) w) fun v42 w43 =>
 ∃ y44 : Int, v42 = (.int .i64 y44) ∧
 J34 (y44 == (20 : Int)) w43))
 (J34 false w40))))
 (J34 false w33)))
 (J34 false w33)))
 (J34 false w33)))
 (J34 false w33)))
 (J34 false w33)))
 (fun s35 w36 =>
 ∀ j45 : Nat → Value, R (.returned (.bool s35)) w36))))))))))))))))
theorem e_aqueductlaw12_awake  (w : World) (R : Ending → World → Prop) : funcX pg T bl Tryd.f5 [] w R = c_aqueductlaw12_awake  w R := by kernel_rfl
theorem of_aqueductlaw12_awake  {w : World} {R : Ending → World → Prop} (h : c_aqueductlaw12_awake  w R) : Calls pg f_aqueductlaw12_awake #[] w R :=
  funcX_of mixed tok blok Tryd.func5 (args := []) (e_aqueductlaw12_awake  w R) h
/-- (*aqueduct/accum.State).Size -/
def c_Paccum_State_Size (s_0 : Option Addr) (w : World) (R : Ending → World → Prop) : Prop :=
 (Meet (σ := Bool) (fun J0 =>
 (cond s_0.isNone
 (J0 true w)
 ((withSome s_0 fun (a3 : Addr) =>
 ∃ x4 : Value, w.cell? a3 = some x4 ∧
 (isNilFn x4 fun q5 =>
 J0 q5 w)))))
 (fun s1 w2 =>
 ∀ j6 : Nat → Value, (cond s1
 (R (.returned (.int .i64 (0 : Int))) w2)
 ((withSome s_0 fun (a7 : Addr) =>
 ∃ x8 : Int, w2.cell? (a7.add 8) = some (.int .i64 x8) ∧
 (cond (decide (x8 > (0 : Int)))
 ((withSome s_0 fun (a9 : Addr) =>
 ∃ x10 : Int, w2.cell? (a9.add 8) = some (.int .i64 x10) ∧
 R (.returned (.int .i64 (IntKind.i64.wrap ((16 : Int) + x10)))) w2))
 ((withSome s_0 fun (a11 : Addr) =>
 ∃ x12 : Int, w2.cell? (a11.add 2) = some (.int .i64 x12) ∧
 ∃ x13 : Int, w2.cell? ((a11.add 2).add 1) = some (.int .i64 x13) ∧
 ∃ x14 : ByteArray, w2.cell? ((a11.add 2).add 2) = some (.string x14) ∧
 ∃ (x15 : Option Addr) (l16 c17 : Nat), w2.cell? ((a11.add 2).add 3) = some (.slice x15 l16 c17) ∧
 ∃ (x18 : Option Addr) (l19 c20 : Nat), w2.cell? ((a11.add 2).add 4) = some (.slice x18 l19 c20) ∧
 ∃ (x21 : Option Addr) (l22 c23 : Nat), w2.cell? ((a11.add 2).add 5) = some (.slice x21 l22 c23) ∧
 (CallR pg f_accum_own [(.agg #[(.int .i64 x12), (.int .i64 x13), (.string x14), (.slice x15 l16 c17), (.slice x18 l19 c20), (.slice x21 l22 c23)])] w2 (fun ch w => R (.panicked ch) w) fun v24 w25 =>
 ∃ y26 : Int, v24 = (.int .i64 y26) ∧
 R (.returned (.int .i64 (IntKind.i64.wrap ((16 : Int) + (if y26 > (0 : Int) then y26 else (0 : Int)))))) w25)))))))))
theorem e_Paccum_State_Size (s_0 : Option Addr) (w : World) (R : Ending → World → Prop) : funcX pg T bl Tryd.f13 [(.pointer s_0)] w R = c_Paccum_State_Size s_0  w R := by kernel_rfl
theorem of_Paccum_State_Size (s_0 : Option Addr) {w : World} {R : Ending → World → Prop} (h : c_Paccum_State_Size s_0  w R) : Calls pg f_Paccum_State_Size #[(.pointer s_0)] w R :=
  funcX_of mixed tok blok Tryd.func13 (args := [(.pointer s_0)]) (e_Paccum_State_Size s_0  w R) h
/-- (*aqueduct/accum.State).sum -/
def c_Paccum_State_sum (s_0 : Option Addr) (v_1x0 : Int) (v_1x1 : Int) (v_1x2 : ByteArray) (v_1x3 : Option Addr) (v_1x3l v_1x3c : Nat) (v_1x4 : Option Addr) (v_1x4l v_1x4c : Nat) (v_1x5 : Option Addr) (v_1x5l v_1x5c : Nat) (w : World) (R : Ending → World → Prop) : Prop :=
 (New w (.cells #[(.int .i64 v_1x0), (.int .i64 v_1x1), (.string v_1x2), (.slice v_1x3 v_1x3l v_1x3c), (.slice v_1x4 v_1x4l v_1x4c), (.slice v_1x5 v_1x5l v_1x5c)] t_api_Value (0, 0)) fun b0 w1 =>
 (Meet (σ := Bool) (fun J2 =>
 ∃ x5 : Int, w1.cell? ⟨b0, 0, none⟩ = some (.int .i64 x5) ∧
 (cond (x5 != (3 : Int))
 (∃ x6 : Int, w1.cell? ⟨b0, 0, none⟩ = some (.int .i64 x6) ∧
 J2 (x6 != (4 : Int)) w1)
 (J2 false w1)))
 (fun s3 w4 =>
 ∀ j7 : Nat → Value, (cond s3
 (R (.returned (.int .i64 (0 : Int))) w4)
 ((Drew w4 fun w8 =>
 (withSome s_0 fun (a9 : Addr) =>
 ∃ x10 : Int, w8.cell? (a9.add 2) = some (.int .i64 x10) ∧
 ∃ x11 : Int, w8.cell? ((a9.add 2).add 1) = some (.int .i64 x11) ∧
 ∃ x12 : ByteArray, w8.cell? ((a9.add 2).add 2) = some (.string x12) ∧
 ∃ (x13 : Option Addr) (l14 c15 : Nat), w8.cell? ((a9.add 2).add 3) = some (.slice x13 l14 c15) ∧
 ∃ (x16 : Option Addr) (l17 c18 : Nat), w8.cell? ((a9.add 2).add 4) = some (.slice x16 l17 c18) ∧
 ∃ (x19 : Option Addr) (l20 c21 : Nat), w8.cell? ((a9.add 2).add 5) = some (.slice x19 l20 c21) ∧
 ∃ x22 : Int, w8.cell? ⟨b0, 0, none⟩ = some (.int .i64 x22) ∧
 ∃ x23 : Int, w8.cell? ⟨b0, 1, none⟩ = some (.int .i64 x23) ∧
 ∃ x24 : ByteArray, w8.cell? ⟨b0, 2, none⟩ = some (.string x24) ∧
 ∃ (x25 : Option Addr) (l26 c27 : Nat), w8.cell? ⟨b0, 3, none⟩ = some (.slice x25 l26 c27) ∧
 ∃ (x28 : Option Addr) (l29 c30 : Nat), w8.cell? ⟨b0, 4, none⟩ = some (.slice x28 l29 c30) ∧
 ∃ (x31 : Option Addr) (l32 c33 : Nat), w8.cell? ⟨b0, 5, none⟩ = some (.slice x31 l32 c33) ∧
 ((CallR pg f_num_Add [(.agg #[(.int .i64 x10), (.int .i64 x11), (.string x12), (.slice x13 l14 c15), (.slice x16 l17 c18), (.slice x19 l20 c21)]), (.agg #[(.int .i64 x22), (.int .i64 x23), (.string x24), (.slice x25 l26 c27), (.slice x28 l29 c30), (.slice x31 l32 c33)])] w8 (fun ch w => R (.panicked ch) w) fun v34 w35 =>
 ∃ y36 : Int, ∃ y37 : Int, ∃ y38 : ByteArray, ∃ (y39 : Option Addr) (l40 c41 : Nat), ∃ (y42 : Option Addr) (l43 c44 : Nat), ∃ (y45 : Option Addr) (l46 c47 : Nat), ∃ y48 : Int, v34 = (.tuple #[(.agg #[(.int .i64 y36), (.int .i64 y37), (.string y38), (.slice y39 l40 c41), (.slice y42 l43 c44), (.slice y45 l46 c47)]), (.int .i64 y48)]) ∧
 (New w35 (.cells #[(.int .i64 (0 : Int)), (.int .i64 (0 : Int)), (.string (⟨#[]⟩ : ByteArray)), (.slice none 0 0), (.slice none 0 0), (.slice none 0 0)] t_api_Value (0, 0)) fun b49 w50 =>
 (St w50 ⟨b49, 0, none⟩ (.int .i64 y36) fun w51 =>
 (St w51 ⟨b49, 1, none⟩ (.int .i64 y37) fun w52 =>
 (St w52 ⟨b49, 2, none⟩ (.string y38) fun w53 =>
 (St w53 ⟨b49, 3, none⟩ (.slice y39 l40 c41) fun w54 =>
 (St w54 ⟨b49, 4, none⟩ (.slice y42 l43 c44) fun w55 =>
 (St w55 ⟨b49, 5, none⟩ (.slice y45 l46 c47) fun w56 =>
 (Meet (σ := Unit) (fun J57 =>
 (cond (y48 == (0 : Int))
 (∃ x60 : Int, w56.cell? ⟨b49, 0, none⟩ = some (.int .i64 x60) ∧
 ∃ x61 : Int, w56.cell? ⟨b49, 1, none⟩ = some (.int .i64 x61) ∧
 ∃ x62 : ByteArray, w56.cell? ⟨b49, 2, none⟩ = some (.string x62) ∧
 ∃ (x63 : Option Addr) (l64 c65 : Nat), w56.cell? ⟨b49, 3, none⟩ = some (.slice x63 l64 c65) ∧
 ∃ (x66 : Option Addr) (l67 c68 : Nat), w56.cell? ⟨b49, 4, none⟩ = some (.slice x66 l67 c68) ∧
 ∃ (x69 : Option Addr) (l70 c71 : Nat), w56.cell? ⟨b49, 5, none⟩ = some (.slice x69 l70 c71) ∧
 (withSome s_0 fun (a72 : Addr) =>
 (St w56 (a72.add 2) (.int .i64 x60) fun w73 =>
 (St w73 ((a72.add 2).add 1) (.int .i64 x61) fun w74 =>
 (St w74 ((a72.add 2).add 2) (.string x62) fun w75 =>
 (St w75 ((a72.add 2).add 3) (.slice x63 l64 c65) fun w76 =>
 (St w76 ((a72.add 2).add 4) (.slice x66 l67 c68) fun w77 =>
 (St w77 ((a72.add 2).add 5) (.slice x69 l70 c71) fun w78 =>
 J57 () w78))))))))
 (J57 () w56)))
 (fun s58 w59 =>
 ∀ j79 : Nat → Value, R (.returned (.int .i64 y48)) w59))))))))))) ∧
 ((New w8 (.cells #[(.int .i64 (0 : Int)), (.int .i64 (0 : Int)), (.string (⟨#[]⟩ : ByteArray)), (.slice none 0 0), (.slice none 0 0), (.slice none 0 0)] t_api_Value (0, 0)) fun b80 w81 =>
 (w81.cell? ⟨b0, 0, none⟩ = some (.int .i64 x22) ∧ w81.cell? ⟨b0, 1, none⟩ = some (.int .i64 x23) ∧ w81.cell? ⟨b0, 2, none⟩ = some (.string x24) ∧ w81.cell? ⟨b0, 3, none⟩ = some (.slice x25 l26 c27) ∧ w81.cell? ⟨b0, 4, none⟩ = some (.slice x28 l29 c30) ∧ w81.cell? ⟨b0, 5, none⟩ = some (.slice x31 l32 c33)) ∧ (w81.cell? (a9.add 2) = some (.int .i64 x10) ∧ w81.cell? ((a9.add 2).add 1) = some (.int .i64 x11) ∧ w81.cell? ((a9.add 2).add 2) = some (.string x12) ∧ w81.cell? ((a9.add 2).add 3) = some (.slice x13 l14 c15) ∧ w81.cell? ((a9.add 2).add 4) = some (.slice x16 l17 c18) ∧ w81.cell? ((a9.add 2).add 5) = some (.slice x19 l20 c21)) ∧ (CallR pg f_num_Add [(.agg #[(.int .i64 x10), (.int .i64 x11), (.string x12), (.slice x13 l14 c15), (.slice x16 l17 c18), (.slice x19 l20 c21)]), (.agg #[(.int .i64 x22), (.int .i64 x23), (.string x24), (.slice x25 l26 c27), (.slice x28 l29 c30), (.slice x31 l32 c33)])] w81 (fun ch w => R (.panicked ch) w) fun v82 w83 =>
 ∃ y84 : Int, ∃ y85 : Int, ∃ y86 : ByteArray, ∃ (y87 : Option Addr) (l88 c89 : Nat), ∃ (y90 : Option Addr) (l91 c92 : Nat), ∃ (y93 : Option Addr) (l94 c95 : Nat), ∃ y96 : Int, v82 = (.tuple #[(.agg #[(.int .i64 y84), (.int .i64 y85), (.string y86), (.slice y87 l88 c89), (.slice y90 l91 c92), (.slice y93 l94 c95)]), (.int .i64 y96)]) ∧
 (St w83 ⟨b80, 0, none⟩ (.int .i64 y84) fun w97 =>
 (St w97 ⟨b80, 1, none⟩ (.int .i64 y85) fun w98 =>
 (St w98 ⟨b80, 2, none⟩ (.string y86) fun w99 =>
 (St w99 ⟨b80, 3, none⟩ (.slice y87 l88 c89) fun w100 =>
 (St w100 ⟨b80, 4, none⟩ (.slice y90 l91 c92) fun w101 =>
 (St w101 ⟨b80, 5, none⟩ (.slice y93 l94 c95) fun w102 =>
 (Meet (σ := Unit) (fun J103 =>
 (cond (y96 == (0 : Int))
 (∃ x106 : Int, w102.cell? ⟨b80, 0, none⟩ = some (.int .i64 x106) ∧
 ∃ x107 : Int, w102.cell? ⟨b80, 1, none⟩ = some (.int .i64 x107) ∧
 ∃ x108 : ByteArray, w102.cell? ⟨b80, 2, none⟩ = some (.string x108) ∧
 ∃ (x109 : Option Addr) (l110 c111 : Nat), w102.cell? ⟨b80, 3, none⟩ = some (.slice x109 l110 c111) ∧
 ∃ (x112 : Option Addr) (l113 c114 : Nat), w102.cell? ⟨b80, 4, none⟩ = some (.slice x112 l113 c114) ∧
 ∃ (x115 : Option Addr) (l116 c117 : Nat), w102.cell? ⟨b80, 5, none⟩ = some (.slice x115 l116 c117) ∧
 (withSome s_0 fun (a118 : Addr) =>
 (St w102 (a118.add 2) (.int .i64 x106) fun w119 =>
 (St w119 ((a118.add 2).add 1) (.int .i64 x107) fun w120 =>
 (St w120 ((a118.add 2).add 2) (.string x108) fun w121 =>
 (St w121 ((a118.add 2).add 3) (.slice x109 l110 c111) fun w122 =>
 (St w122 ((a118.add 2).add 4) (.slice x112 l113 c114) fun w123 =>
 (St w123 ((a118.add 2).add 5) (.slice x115 l116 c117) fun w124 =>
 J103 () w124))))))))
 (J103 () w102)))
 (fun s104 w105 =>
 ∀ j125 : Nat → Value, R (.returned (.int .i64 y96)) w105))))))))))))))))))
theorem e_Paccum_State_sum (s_0 : Option Addr) (v_1x0 : Int) (v_1x1 : Int) (v_1x2 : ByteArray) (v_1x3 : Option Addr) (v_1x3l v_1x3c : Nat) (v_1x4 : Option Addr) (v_1x4l v_1x4c : Nat) (v_1x5 : Option Addr) (v_1x5l v_1x5c : Nat) (w : World) (R : Ending → World → Prop) : funcX pg T bl Tryd.f18 [(.pointer s_0), (.agg #[(.int .i64 v_1x0), (.int .i64 v_1x1), (.string v_1x2), (.slice v_1x3 v_1x3l v_1x3c), (.slice v_1x4 v_1x4l v_1x4c), (.slice v_1x5 v_1x5l v_1x5c)])] w R = c_Paccum_State_sum s_0  v_1x0  v_1x1  v_1x2  v_1x3 v_1x3l v_1x3c  v_1x4 v_1x4l v_1x4c  v_1x5 v_1x5l v_1x5c  w R := by kernel_rfl
theorem of_Paccum_State_sum (s_0 : Option Addr) (v_1x0 : Int) (v_1x1 : Int) (v_1x2 : ByteArray) (v_1x3 : Option Addr) (v_1x3l v_1x3c : Nat) (v_1x4 : Option Addr) (v_1x4l v_1x4c : Nat) (v_1x5 : Option Addr) (v_1x5l v_1x5c : Nat) {w : World} {R : Ending → World → Prop} (h : c_Paccum_State_sum s_0  v_1x0  v_1x1  v_1x2  v_1x3 v_1x3l v_1x3c  v_1x4 v_1x4l v_1x4c  v_1x5 v_1x5l v_1x5c  w R) : Calls pg f_Paccum_State_sum #[(.pointer s_0), (.agg #[(.int .i64 v_1x0), (.int .i64 v_1x1), (.string v_1x2), (.slice v_1x3 v_1x3l v_1x3c), (.slice v_1x4 v_1x4l v_1x4c), (.slice v_1x5 v_1x5l v_1x5c)])] w R :=
  funcX_of mixed tok blok Tryd.func18 (args := [(.pointer s_0), (.agg #[(.int .i64 v_1x0), (.int .i64 v_1x1), (.string v_1x2), (.slice v_1x3 v_1x3l v_1x3c), (.slice v_1x4 v_1x4l v_1x4c), (.slice v_1x5 v_1x5l v_1x5c)])]) (e_Paccum_State_sum s_0  v_1x0  v_1x1  v_1x2  v_1x3 v_1x3l v_1x3c  v_1x4 v_1x4l v_1x4c  v_1x5 v_1x5l v_1x5c  w R) h
/-- (*aqueduct/accum.State).greatest -/
def c_Paccum_State_greatest (s_0 : Option Addr) (v_1x0 : Int) (v_1x1 : Int) (v_1x2 : ByteArray) (v_1x3 : Option Addr) (v_1x3l v_1x3c : Nat) (v_1x4 : Option Addr) (v_1x4l v_1x4c : Nat) (v_1x5 : Option Addr) (v_1x5l v_1x5c : Nat) (w : World) (R : Ending → World → Prop) : Prop :=
 (New w (.cells #[(.int .i64 v_1x0), (.int .i64 v_1x1), (.string v_1x2), (.slice v_1x3 v_1x3l v_1x3c), (.slice v_1x4 v_1x4l v_1x4c), (.slice v_1x5 v_1x5l v_1x5c)] t_api_Value (0, 0)) fun b0 w1 =>
 ∃ x2 : Int, w1.cell? ⟨b0, 0, none⟩ = some (.int .i64 x2) ∧
 ∃ x3 : Int, w1.cell? ⟨b0, 1, none⟩ = some (.int .i64 x3) ∧
 ∃ x4 : ByteArray, w1.cell? ⟨b0, 2, none⟩ = some (.string x4) ∧
 ∃ (x5 : Option Addr) (l6 c7 : Nat), w1.cell? ⟨b0, 3, none⟩ = some (.slice x5 l6 c7) ∧
 ∃ (x8 : Option Addr) (l9 c10 : Nat), w1.cell? ⟨b0, 4, none⟩ = some (.slice x8 l9 c10) ∧
 ∃ (x11 : Option Addr) (l12 c13 : Nat), w1.cell? ⟨b0, 5, none⟩ = some (.slice x11 l12 c13) ∧
 (CallR pg f_Paccum_State_better [(.pointer s_0), (.agg #[(.int .i64 x2), (.int .i64 x3), (.string x4), (.slice x5 l6 c7), (.slice x8 l9 c10), (.slice x11 l12 c13)]), (.int .i64 (1 : Int))] w1 (fun ch w => R (.panicked ch) w) fun v14 w15 =>
 v14 = (.tuple #[]) ∧
 R (.returned (.int .i64 (0 : Int))) w15))
theorem e_Paccum_State_greatest (s_0 : Option Addr) (v_1x0 : Int) (v_1x1 : Int) (v_1x2 : ByteArray) (v_1x3 : Option Addr) (v_1x3l v_1x3c : Nat) (v_1x4 : Option Addr) (v_1x4l v_1x4c : Nat) (v_1x5 : Option Addr) (v_1x5l v_1x5c : Nat) (w : World) (R : Ending → World → Prop) : funcX pg T bl Tryd.f21 [(.pointer s_0), (.agg #[(.int .i64 v_1x0), (.int .i64 v_1x1), (.string v_1x2), (.slice v_1x3 v_1x3l v_1x3c), (.slice v_1x4 v_1x4l v_1x4c), (.slice v_1x5 v_1x5l v_1x5c)])] w R = c_Paccum_State_greatest s_0  v_1x0  v_1x1  v_1x2  v_1x3 v_1x3l v_1x3c  v_1x4 v_1x4l v_1x4c  v_1x5 v_1x5l v_1x5c  w R := by kernel_rfl
theorem of_Paccum_State_greatest (s_0 : Option Addr) (v_1x0 : Int) (v_1x1 : Int) (v_1x2 : ByteArray) (v_1x3 : Option Addr) (v_1x3l v_1x3c : Nat) (v_1x4 : Option Addr) (v_1x4l v_1x4c : Nat) (v_1x5 : Option Addr) (v_1x5l v_1x5c : Nat) {w : World} {R : Ending → World → Prop} (h : c_Paccum_State_greatest s_0  v_1x0  v_1x1  v_1x2  v_1x3 v_1x3l v_1x3c  v_1x4 v_1x4l v_1x4c  v_1x5 v_1x5l v_1x5c  w R) : Calls pg f_Paccum_State_greatest #[(.pointer s_0), (.agg #[(.int .i64 v_1x0), (.int .i64 v_1x1), (.string v_1x2), (.slice v_1x3 v_1x3l v_1x3c), (.slice v_1x4 v_1x4l v_1x4c), (.slice v_1x5 v_1x5l v_1x5c)])] w R :=
  funcX_of mixed tok blok Tryd.func21 (args := [(.pointer s_0), (.agg #[(.int .i64 v_1x0), (.int .i64 v_1x1), (.string v_1x2), (.slice v_1x3 v_1x3l v_1x3c), (.slice v_1x4 v_1x4l v_1x4c), (.slice v_1x5 v_1x5l v_1x5c)])]) (e_Paccum_State_greatest s_0  v_1x0  v_1x1  v_1x2  v_1x3 v_1x3l v_1x3c  v_1x4 v_1x4l v_1x4c  v_1x5 v_1x5l v_1x5c  w R) h
/-- (*aqueduct/accum.State).first -/
def c_Paccum_State_first (s_0 : Option Addr) (v_1x0 : Int) (v_1x1 : Int) (v_1x2 : ByteArray) (v_1x3 : Option Addr) (v_1x3l v_1x3c : Nat) (v_1x4 : Option Addr) (v_1x4l v_1x4c : Nat) (v_1x5 : Option Addr) (v_1x5l v_1x5c : Nat) (w : World) (R : Ending → World → Prop) : Prop :=
 (New w (.cells #[(.int .i64 v_1x0), (.int .i64 v_1x1), (.string v_1x2), (.slice v_1x3 v_1x3l v_1x3c), (.slice v_1x4 v_1x4l v_1x4c), (.slice v_1x5 v_1x5l v_1x5c)] t_api_Value (0, 0)) fun b0 w1 =>
 (Meet (σ := Unit) (fun J2 =>
 (withSome s_0 fun (a5 : Addr) =>
 ∃ x6 : Int, w1.cell? (a5.add 1) = some (.int .i64 x6) ∧
 (cond (x6 == (0 : Int))
 (∃ x7 : Int, w1.cell? ⟨b0, 0, none⟩ = some (.int .i64 x7) ∧
 ∃ x8 : Int, w1.cell? ⟨b0, 1, none⟩ = some (.int .i64 x8) ∧
 ∃ x9 : ByteArray, w1.cell? ⟨b0, 2, none⟩ = some (.string x9) ∧
 ∃ (x10 : Option Addr) (l11 c12 : Nat), w1.cell? ⟨b0, 3, none⟩ = some (.slice x10 l11 c12) ∧
 ∃ (x13 : Option Addr) (l14 c15 : Nat), w1.cell? ⟨b0, 4, none⟩ = some (.slice x13 l14 c15) ∧
 ∃ (x16 : Option Addr) (l17 c18 : Nat), w1.cell? ⟨b0, 5, none⟩ = some (.slice x16 l17 c18) ∧
 (CallR pg f_bson_Copy [(.agg #[(.int .i64 x7), (.int .i64 x8), (.string x9), (.slice x10 l11 c12), (.slice x13 l14 c15), (.slice x16 l17 c18)])] w1 (fun ch w => R (.panicked ch) w) fun v19 w20 =>
 ∃ y21 : Int, ∃ y22 : Int, ∃ y23 : ByteArray, ∃ (y24 : Option Addr) (l25 c26 : Nat), ∃ (y27 : Option Addr) (l28 c29 : Nat), ∃ (y30 : Option Addr) (l31 c32 : Nat), v19 = (.agg #[(.int .i64 y21), (.int .i64 y22), (.string y23), (.slice y24 l25 c26), (.slice y27 l28 c29), (.slice y30 l31 c32)]) ∧
 (withSome s_0 fun (a33 : Addr) =>
 (St w20 (a33.add 2) (.int .i64 y21) fun w34 =>
 (St w34 ((a33.add 2).add 1) (.int .i64 y22) fun w35 =>
 (St w35 ((a33.add 2).add 2) (.string y23) fun w36 =>
 (St w36 ((a33.add 2).add 3) (.slice y24 l25 c26) fun w37 =>
 (St w37 ((a33.add 2).add 4) (.slice y27 l28 c29) fun w38 =>
 (St w38 ((a33.add 2).add 5) (.slice y30 l31 c32) fun w39 =>
 J2 () w39)))))))))
 (J2 () w1))))
 (fun s3 w4 =>
 ∀ j40 : Nat → Value, R (.returned (.int .i64 (0 : Int))) w4)))
theorem e_Paccum_State_first (s_0 : Option Addr) (v_1x0 : Int) (v_1x1 : Int) (v_1x2 : ByteArray) (v_1x3 : Option Addr) (v_1x3l v_1x3c : Nat) (v_1x4 : Option Addr) (v_1x4l v_1x4c : Nat) (v_1x5 : Option Addr) (v_1x5l v_1x5c : Nat) (w : World) (R : Ending → World → Prop) : funcX pg T bl Tryd.f22 [(.pointer s_0), (.agg #[(.int .i64 v_1x0), (.int .i64 v_1x1), (.string v_1x2), (.slice v_1x3 v_1x3l v_1x3c), (.slice v_1x4 v_1x4l v_1x4c), (.slice v_1x5 v_1x5l v_1x5c)])] w R = c_Paccum_State_first s_0  v_1x0  v_1x1  v_1x2  v_1x3 v_1x3l v_1x3c  v_1x4 v_1x4l v_1x4c  v_1x5 v_1x5l v_1x5c  w R := by kernel_rfl
theorem of_Paccum_State_first (s_0 : Option Addr) (v_1x0 : Int) (v_1x1 : Int) (v_1x2 : ByteArray) (v_1x3 : Option Addr) (v_1x3l v_1x3c : Nat) (v_1x4 : Option Addr) (v_1x4l v_1x4c : Nat) (v_1x5 : Option Addr) (v_1x5l v_1x5c : Nat) {w : World} {R : Ending → World → Prop} (h : c_Paccum_State_first s_0  v_1x0  v_1x1  v_1x2  v_1x3 v_1x3l v_1x3c  v_1x4 v_1x4l v_1x4c  v_1x5 v_1x5l v_1x5c  w R) : Calls pg f_Paccum_State_first #[(.pointer s_0), (.agg #[(.int .i64 v_1x0), (.int .i64 v_1x1), (.string v_1x2), (.slice v_1x3 v_1x3l v_1x3c), (.slice v_1x4 v_1x4l v_1x4c), (.slice v_1x5 v_1x5l v_1x5c)])] w R :=
  funcX_of mixed tok blok Tryd.func22 (args := [(.pointer s_0), (.agg #[(.int .i64 v_1x0), (.int .i64 v_1x1), (.string v_1x2), (.slice v_1x3 v_1x3l v_1x3c), (.slice v_1x4 v_1x4l v_1x4c), (.slice v_1x5 v_1x5l v_1x5c)])]) (e_Paccum_State_first s_0  v_1x0  v_1x1  v_1x2  v_1x3 v_1x3l v_1x3c  v_1x4 v_1x4l v_1x4c  v_1x5 v_1x5l v_1x5c  w R) h
/-- (*aqueduct/accum.State).set -/
def c_Paccum_State_set (s_0 : Option Addr) (v_1x0 : Int) (v_1x1 : Int) (v_1x2 : ByteArray) (v_1x3 : Option Addr) (v_1x3l v_1x3c : Nat) (v_1x4 : Option Addr) (v_1x4l v_1x4c : Nat) (v_1x5 : Option Addr) (v_1x5l v_1x5c : Nat) (w : World) (R : Ending → World → Prop) : Prop :=
 (New w (.cells #[(.int .i64 v_1x0), (.int .i64 v_1x1), (.string v_1x2), (.slice v_1x3 v_1x3l v_1x3c), (.slice v_1x4 v_1x4l v_1x4c), (.slice v_1x5 v_1x5l v_1x5c)] t_api_Value (0, 0)) fun b0 w1 =>
 (withSome s_0 fun (a2 : Addr) =>
 ∃ (x3 : Option Addr) (l4 c5 : Nat), w1.cell? ((a2.add 2).add 5) = some (.slice x3 l4 c5) ∧
 (Eng.Loop (σ := Int × Int) (fun X6 s7 w8 =>
 ∀ j9 : Nat → Value, (cond (decide (s7.2 < ((l4 : Nat) : Int)))
 ((withSome x3 fun (a10 : Addr) =>
 (0 ≤ s7.2 ∧ s7.2 < ((l4 : Nat) : Int)) ∧
 ∃ x11 : Int, w8.cell? (a10.add ((s7.2).toNat * 6)) = some (.int .i64 x11) ∧
 ∃ x12 : Int, w8.cell? ((a10.add ((s7.2).toNat * 6)).add 1) = some (.int .i64 x12) ∧
 ∃ x13 : ByteArray, w8.cell? ((a10.add ((s7.2).toNat * 6)).add 2) = some (.string x13) ∧
 ∃ (x14 : Option Addr) (l15 c16 : Nat), w8.cell? ((a10.add ((s7.2).toNat * 6)).add 3) = some (.slice x14 l15 c16) ∧
 ∃ (x17 : Option Addr) (l18 c19 : Nat), w8.cell? ((a10.add ((s7.2).toNat * 6)).add 4) = some (.slice x17 l18 c19) ∧
 ∃ (x20 : Option Addr) (l21 c22 : Nat), w8.cell? ((a10.add ((s7.2).toNat * 6)).add 5) = some (.slice x20 l21 c22) ∧
 (New w8 (.cells #[(.int .i64 (0 : Int)), (.int .i64 (0 : Int)), (.string (⟨#[]⟩ : ByteArray)), (.slice none 0 0), (.slice none 0 0), (.slice none 0 0)] t_api_Value (0, 0)) fun b23 w24 =>
 (St w24 ⟨b23, 0, none⟩ (.int .i64 x11) fun w25 =>
 (St w25 ⟨b23, 1, none⟩ (.int .i64 x12) fun w26 =>
 (St w26 ⟨b23, 2, none⟩ (.string x13) fun w27 =>
 (St w27 ⟨b23, 3, none⟩ (.slice x14 l15 c16) fun w28 =>
 (St w28 ⟨b23, 4, none⟩ (.slice x17 l18 c19) fun w29 =>
 (St w29 ⟨b23, 5, none⟩ (.slice x20 l21 c22) fun w30 =>
 (Meet (σ := Bool) (fun J31 =>
 ∃ x34 : Int, w30.cell? ⟨b0, 0, none⟩ = some (.int .i64 x34) ∧
 (cond (x34 != (0 : Int))
 (∃ x35 : Int, w30.cell? ⟨b23, 0, none⟩ = some (.int .i64 x35) ∧
 ∃ x36 : Int, w30.cell? ⟨b23, 1, none⟩ = some (.int .i64 x36) ∧
 ∃ x37 : ByteArray, w30.cell? ⟨b23, 2, none⟩ = some (.string x37) ∧
 ∃ (x38 : Option Addr) (l39 c40 : Nat), w30.cell? ⟨b23, 3, none⟩ = some (.slice x38 l39 c40) ∧
 ∃ (x41 : Option Addr) (l42 c43 : Nat), w30.cell? ⟨b23, 4, none⟩ = some (.slice x41 l42 c43) ∧
 ∃ (x44 : Option Addr) (l45 c46 : Nat), w30.cell? ⟨b23, 5, none⟩ = some (.slice x44 l45 c46) ∧
 ∃ x47 : Int, w30.cell? ⟨b0, 0, none⟩ = some (.int .i64 x47) ∧
 ∃ x48 : Int, w30.cell? ⟨b0, 1, none⟩ = some (.int .i64 x48) ∧
 ∃ x49 : ByteArray, w30.cell? ⟨b0, 2, none⟩ = some (.string x49) ∧
 ∃ (x50 : Option Addr) (l51 c52 : Nat), w30.cell? ⟨b0, 3, none⟩ = some (.slice x50 l51 c52) ∧
 ∃ (x53 : Option Addr) (l54 c55 : Nat), w30.cell? ⟨b0, 4, none⟩ = some (.slice x53 l54 c55) ∧
 ∃ (x56 : Option Addr) (l57 c58 : Nat), w30.cell? ⟨b0, 5, none⟩ = some (.slice x56 l57 c58) ∧
 (CallR pg f_order_Compare [(.agg #[(.int .i64 x35), (.int .i64 x36), (.string x37), (.slice x38 l39 c40), (.slice x41 l42 c43), (.slice x44 l45 c46)]), (.agg #[(.int .i64 x47), (.int .i64 x48), (.string x49), (.slice x50 l51 c52), (.slice x53 l54 c55), (.slice x56 l57 c58)])] w30 (fun ch w => R (.panicked ch) w) fun v59 w60 =>
 ∃ y61 : Int, v59 = (.int .i64 y61) ∧
 J31 (y61 == (0 : Int)) w60))
 (J31 false w30)))
 (fun s32 w33 =>
 ∀ j62 : Nat → Value, (cond s32
 (R (.returned (.int .i64 (0 : Int))) w33)
 (X6 (s7.1, (IntKind.i64.wrap (s7.2 + (1 : Int)))) w33)))))))))))))
 (∃ x63 : Int, w8.cell? ⟨b0, 0, none⟩ = some (.int .i64 x63) ∧
 ∃ x64 : Int, w8.cell? ⟨b0, 1, none⟩ = some (.int .i64 x64) ∧
 ∃ x65 : ByteArray, w8.cell? ⟨b0, 2, none⟩ = some (.string x65) ∧
 ∃ (x66 : Option Addr) (l67 c68 : Nat), w8.cell? ⟨b0, 3, none⟩ = some (.slice x66 l67 c68) ∧
 ∃ (x69 : Option Addr) (l70 c71 : Nat), w8.cell? ⟨b0, 4, none⟩ = some (.slice x69 l70 c71) ∧
 ∃ (x72 : Option Addr) (l73 c74 : Nat), w8.cell? ⟨b0, 5, none⟩ = some (.slice x72 l73 c74) ∧
 (CallR pg f_Paccum_State_push [(.pointer s_0), (.agg #[(.int .i64 x63), (.int .i64 x64), (.string x65), (.slice x66 l67 c68), (.slice x69 l70 c71), (.slice x72 l73 c74)])] w8 (fun ch w => R (.panicked ch) w) fun v75 w76 =>
 ∃ y77 : Int, v75 = (.int .i64 y77) ∧
 R (.returned (.int .i64 y77)) w76)))) ((0 : Int), (0 : Int)) w1)))
theorem e_Paccum_State_set (s_0 : Option Addr) (v_1x0 : Int) (v_1x1 : Int) (v_1x2 : ByteArray) (v_1x3 : Option Addr) (v_1x3l v_1x3c : Nat) (v_1x4 : Option Addr) (v_1x4l v_1x4c : Nat) (v_1x5 : Option Addr) (v_1x5l v_1x5c : Nat) (w : World) (R : Ending → World → Prop) : funcX pg T bl Tryd.f26 [(.pointer s_0), (.agg #[(.int .i64 v_1x0), (.int .i64 v_1x1), (.string v_1x2), (.slice v_1x3 v_1x3l v_1x3c), (.slice v_1x4 v_1x4l v_1x4c), (.slice v_1x5 v_1x5l v_1x5c)])] w R = c_Paccum_State_set s_0  v_1x0  v_1x1  v_1x2  v_1x3 v_1x3l v_1x3c  v_1x4 v_1x4l v_1x4c  v_1x5 v_1x5l v_1x5c  w R := by kernel_rfl
theorem of_Paccum_State_set (s_0 : Option Addr) (v_1x0 : Int) (v_1x1 : Int) (v_1x2 : ByteArray) (v_1x3 : Option Addr) (v_1x3l v_1x3c : Nat) (v_1x4 : Option Addr) (v_1x4l v_1x4c : Nat) (v_1x5 : Option Addr) (v_1x5l v_1x5c : Nat) {w : World} {R : Ending → World → Prop} (h : c_Paccum_State_set s_0  v_1x0  v_1x1  v_1x2  v_1x3 v_1x3l v_1x3c  v_1x4 v_1x4l v_1x4c  v_1x5 v_1x5l v_1x5c  w R) : Calls pg f_Paccum_State_set #[(.pointer s_0), (.agg #[(.int .i64 v_1x0), (.int .i64 v_1x1), (.string v_1x2), (.slice v_1x3 v_1x3l v_1x3c), (.slice v_1x4 v_1x4l v_1x4c), (.slice v_1x5 v_1x5l v_1x5c)])] w R :=
  funcX_of mixed tok blok Tryd.func26 (args := [(.pointer s_0), (.agg #[(.int .i64 v_1x0), (.int .i64 v_1x1), (.string v_1x2), (.slice v_1x3 v_1x3l v_1x3c), (.slice v_1x4 v_1x4l v_1x4c), (.slice v_1x5 v_1x5l v_1x5c)])]) (e_Paccum_State_set s_0  v_1x0  v_1x1  v_1x2  v_1x3 v_1x3l v_1x3c  v_1x4 v_1x4l v_1x4c  v_1x5 v_1x5l v_1x5c  w R) h
/-- aqueduct/aqueductref5.own -/
def c_aqueductref5_own (v_0x0 : Int) (v_0x1 : Int) (v_0x2 : ByteArray) (v_0x3 : Option Addr) (v_0x3l v_0x3c : Nat) (v_0x4 : Option Addr) (v_0x4l v_0x4c : Nat) (v_0x5 : Option Addr) (v_0x5l v_0x5c : Nat) (depth_1 : Int) (w : World) (R : Ending → World → Prop) : Prop :=
 (New w (.cells #[(.int .i64 v_0x0), (.int .i64 v_0x1), (.string v_0x2), (.slice v_0x3 v_0x3l v_0x3c), (.slice v_0x4 v_0x4l v_0x4c), (.slice v_0x5 v_0x5l v_0x5c)] t_api_Value (0, 0)) fun b0 w1 =>
 ∃ x2 : Int, w1.cell? ⟨b0, 0, none⟩ = some (.int .i64 x2) ∧
 (Meet (σ := Bool) (fun J3 =>
 (cond (x2 == (1 : Int))
 (J3 true w1)
 ((cond (x2 == (2 : Int))
 (J3 true w1)
 (J3 (x2 == (12 : Int)) w1)))))
 (fun s4 w5 =>
 ∀ j6 : Nat → Value, (cond s4
 (∃ x7 : Int, w5.cell? ⟨b0, 0, none⟩ = some (.int .i64 x7) ∧
 ∃ x8 : Int, w5.cell? ⟨b0, 1, none⟩ = some (.int .i64 x8) ∧
 ∃ x9 : ByteArray, w5.cell? ⟨b0, 2, none⟩ = some (.string x9) ∧
 ∃ (x10 : Option Addr) (l11 c12 : Nat), w5.cell? ⟨b0, 3, none⟩ = some (.slice x10 l11 c12) ∧
 ∃ (x13 : Option Addr) (l14 c15 : Nat), w5.cell? ⟨b0, 4, none⟩ = some (.slice x13 l14 c15) ∧
 ∃ (x16 : Option Addr) (l17 c18 : Nat), w5.cell? ⟨b0, 5, none⟩ = some (.slice x16 l17 c18) ∧
 (CallR pg f_aqueductref5_bare [(.agg #[(.int .i64 x7), (.int .i64 x8), (.string x9), (.slice x10 l11 c12), (.slice x13 l14 c15), (.slice x16 l17 c18)]), (.bool false), (.bool false), (.bool false), (.bool false), (.bool false)] w5 (fun ch w => R (.panicked ch) w) fun v19 w20 =>
 ∃ y21 : Bool, v19 = (.bool y21) ∧
 R (.returned (.tuple #[(.slice none 0 0), (.bool y21)])) w20))
 ((cond (x2 == (3 : Int))
 ((Meet (σ := (Option Addr × Nat × Nat) × Bool) (fun J22 =>
 (Drew w5 fun w25 =>
 ∃ x26 : Int, w25.cell? ⟨b0, 1, none⟩ = some (.int .i64 x26) ∧
 ∃ x27 : Int, w25.cell? ⟨b0, 0, none⟩ = some (.int .i64 x27) ∧
 ∃ x28 : Int, w25.cell? ⟨b0, 1, none⟩ = some (.int .i64 x28) ∧
 ∃ x29 : ByteArray, w25.cell? ⟨b0, 2, none⟩ = some (.string x29) ∧
 ∃ (x30 : Option Addr) (l31 c32 : Nat), w25.cell? ⟨b0, 3, none⟩ = some (.slice x30 l31 c32) ∧
 ∃ (x33 : Option Addr) (l34 c35 : Nat), w25.cell? ⟨b0, 4, none⟩ = some (.slice x33 l34 c35) ∧
 ∃ (x36 : Option Addr) (l37 c38 : Nat), w25.cell? ⟨b0, 5, none⟩ = some (.slice x36 l37 c38) ∧
 (CallR pg f_aqueductref5_num [(.int .i64 x26), (.int .i64 (4 : Int))] w25 (fun ch w => R (.panicked ch) w) fun v39 w40 =>
 ∃ (y41 : Option Addr) (l42 c43 : Nat), v39 = (.slice y41 l42 c43) ∧
 (w40.cell? ⟨b0, 0, none⟩ = some (.int .i64 x27) ∧ w40.cell? ⟨b0, 1, none⟩ = some (.int .i64 x28) ∧ w40.cell? ⟨b0, 2, none⟩ = some (.string x29) ∧ w40.cell? ⟨b0, 3, none⟩ = some (.slice x30 l31 c32) ∧ w40.cell? ⟨b0, 4, none⟩ = some (.slice x33 l34 c35) ∧ w40.cell? ⟨b0, 5, none⟩ = some (.slice x36 l37 c38)) ∧ (CallR pg f_aqueductref5_bare [(.agg #[(.int .i64 x27), (.int .i64 x28), (.string x29), (.slice x30 l31 c32), (.slice x33 l34 c35), (.slice x36 l37 c38)]), (.bool true), (.bool false), (.bool false), (.bool false), (.bool false)] w40 (fun ch w => R (.panicked ch) w) fun v44 w45 =>
 ∃ y46 : Bool, v44 = (.bool y46) ∧
 (cond y46
 (∃ x47 : Int, w45.cell? ⟨b0, 1, none⟩ = some (.int .i64 x47) ∧
 (cond (decide (x47 ≥ (-2147483648 : Int)))
 (∃ x48 : Int, w45.cell? ⟨b0, 1, none⟩ = some (.int .i64 x48) ∧
 J22 ((y41, l42, c43), (decide (x48 < (2147483648 : Int)))) w45)
 (J22 ((y41, l42, c43), false) w45)))
 (J22 ((y41, l42, c43), false) w45))))))
 (fun s23 w24 =>
 ∀ j49 : Nat → Value, R (.returned (.tuple #[(.slice s23.1.1 s23.1.2.1 s23.1.2.2), (.bool s23.2)])) w24)))
 ((Meet (σ := Bool) (fun J50 =>
 (cond (x2 == (4 : Int))
 (J50 true w5)
 (J50 (x2 == (11 : Int)) w5)))
 (fun s51 w52 =>
 ∀ j53 : Nat → Value, (cond s51
 ((Drew w52 fun w54 =>
 ∃ x55 : Int, w54.cell? ⟨b0, 1, none⟩ = some (.int .i64 x55) ∧
 ∃ x56 : Int, w54.cell? ⟨b0, 0, none⟩ = some (.int .i64 x56) ∧
 ∃ x57 : Int, w54.cell? ⟨b0, 1, none⟩ = some (.int .i64 x57) ∧
 ∃ x58 : ByteArray, w54.cell? ⟨b0, 2, none⟩ = some (.string x58) ∧
 ∃ (x59 : Option Addr) (l60 c61 : Nat), w54.cell? ⟨b0, 3, none⟩ = some (.slice x59 l60 c61) ∧
 ∃ (x62 : Option Addr) (l63 c64 : Nat), w54.cell? ⟨b0, 4, none⟩ = some (.slice x62 l63 c64) ∧
 ∃ (x65 : Option Addr) (l66 c67 : Nat), w54.cell? ⟨b0, 5, none⟩ = some (.slice x65 l66 c67) ∧
 (CallR pg f_aqueductref5_num [(.int .i64 x55), (.int .i64 (8 : Int))] w54 (fun ch w => R (.panicked ch) w) fun v68 w69 =>
 ∃ (y70 : Option Addr) (l71 c72 : Nat), v68 = (.slice y70 l71 c72) ∧
 (w69.cell? ⟨b0, 0, none⟩ = some (.int .i64 x56) ∧ w69.cell? ⟨b0, 1, none⟩ = some (.int .i64 x57) ∧ w69.cell? ⟨b0, 2, none⟩ = some (.string x58) ∧ w69.cell? ⟨b0, 3, none⟩ = some (.slice x59 l60 c61) ∧ w69.cell? ⟨b0, 4, none⟩ = some (.slice x62 l63 c64) ∧ w69.cell? ⟨b0, 5, none⟩ = some (.slice x65 l66 c67)) ∧ (CallR pg f_aqueductref5_bare [(.agg #[(.int .i64 x56), (.int .i64 x57), (.string x58), (.slice x59 l60 c61), (.slice x62 l63 c64), (.slice x65 l66 c67)]), (.bool true), (.bool false), (.bool false), (.bool false), (.bool false)] w69 (fun ch w => R (.panicked ch) w) fun v73 w74 =>
 ∃ y75 : Bool, v73 = (.bool y75) ∧
 R (.returned (.tuple #[(.slice y70 l71 c72), (.bool y75)])) w74))))
 ((cond (x2 == (10 : Int))
 ((Meet (σ := (Option Addr × Nat × Nat) × Bool) (fun J76 =>
 (Drew w52 fun w79 =>
 ∃ x80 : Int, w79.cell? ⟨b0, 1, none⟩ = some (.int .i64 x80) ∧
 ∃ x81 : Int, w79.cell? ⟨b0, 0, none⟩ = some (.int .i64 x81) ∧
 ∃ x82 : Int, w79.cell? ⟨b0, 1, none⟩ = some (.int .i64 x82) ∧
 ∃ x83 : ByteArray, w79.cell? ⟨b0, 2, none⟩ = some (.string x83) ∧
 ∃ (x84 : Option Addr) (l85 c86 : Nat), w79.cell? ⟨b0, 3, none⟩ = some (.slice x84 l85 c86) ∧
 ∃ (x87 : Option Addr) (l88 c89 : Nat), w79.cell? ⟨b0, 4, none⟩ = some (.slice x87 l88 c89) ∧
 ∃ (x90 : Option Addr) (l91 c92 : Nat), w79.cell? ⟨b0, 5, none⟩ = some (.slice x90 l91 c92) ∧
 (CallR pg f_aqueductref5_num [(.int .i64 x80), (.int .i64 (1 : Int))] w79 (fun ch w => R (.panicked ch) w) fun v93 w94 =>
 ∃ (y95 : Option Addr) (l96 c97 : Nat), v93 = (.slice y95 l96 c97) ∧
 (w94.cell? ⟨b0, 0, none⟩ = some (.int .i64 x81) ∧ w94.cell? ⟨b0, 1, none⟩ = some (.int .i64 x82) ∧ w94.cell? ⟨b0, 2, none⟩ = some (.string x83) ∧ w94.cell? ⟨b0, 3, none⟩ = some (.slice x84 l85 c86) ∧ w94.cell? ⟨b0, 4, none⟩ = some (.slice x87 l88 c89) ∧ w94.cell? ⟨b0, 5, none⟩ = some (.slice x90 l91 c92)) ∧ (CallR pg f_aqueductref5_bare [(.agg #[(.int .i64 x81), (.int .i64 x82), (.string x83), (.slice x84 l85 c86), (.slice x87 l88 c89), (.slice x90 l91 c92)]), (.bool true), (.bool false), (.bool false), (.bool false), (.bool false)] w94 (fun ch w => R (.panicked ch) w) fun v98 w99 =>
 ∃ y100 : Bool, v98 = (.bool y100) ∧
 (cond y100
 (∃ x101 : Int, w99.cell? ⟨b0, 1, none⟩ = some (.int .i64 x101) ∧
 (cond (x101 == (0 : Int))
 (J76 ((y95, l96, c97), true) w99)
 (∃ x102 : Int, w99.cell? ⟨b0, 1, none⟩ = some (.int .i64 x102) ∧
 J76 ((y95, l96, c97), (x102 == (1 : Int))) w99)))
 (J76 ((y95, l96, c97), false) w99))))))
 (fun s77 w78 =>
 ∀ j103 : Nat → Value, R (.returned (.tuple #[(.slice s77.1.1 s77.1.2.1 s77.1.2.2), (.bool s77.2)])) w78)))
 ((cond (x2 == (5 : Int))
 (∃ x104 : ByteArray, w52.cell? ⟨b0, 2, none⟩ = some (.string x104) ∧
 (cond (decide (((x104.size : Nat) : Int) > (65536 : Int)))
 (R (.returned (.tuple #[(.slice none 0 0), (.bool false)])) w52)
 ((Meet (σ := (Option Addr × Nat × Nat) × Bool) (fun J105 =>
 (Drew w52 fun w108 =>
 ∃ x109 : ByteArray, w108.cell? ⟨b0, 2, none⟩ = some (.string x109) ∧
 ∃ x110 : ByteArray, w108.cell? ⟨b0, 2, none⟩ = some (.string x110) ∧
 ∃ x111 : Int, w108.cell? ⟨b0, 0, none⟩ = some (.int .i64 x111) ∧
 ∃ x112 : Int, w108.cell? ⟨b0, 1, none⟩ = some (.int .i64 x112) ∧
 ∃ x113 : ByteArray, w108.cell? ⟨b0, 2, none⟩ = some (.string x113) ∧
 ∃ (x114 : Option Addr) (l115 c116 : Nat), w108.cell? ⟨b0, 3, none⟩ = some (.slice x114 l115 c116) ∧
 ∃ (x117 : Option Addr) (l118 c119 : Nat), w108.cell? ⟨b0, 4, none⟩ = some (.slice x117 l118 c119) ∧
 ∃ (x120 : Option Addr) (l121 c122 : Nat), w108.cell? ⟨b0, 5, none⟩ = some (.slice x120 l121 c122) ∧
 ((CallR pg f_aqueductref5_num [(.int .i64 (IntKind.i64.wrap (((x109.size : Nat) : Int) + (1 : Int)))), (.int .i64 (4 : Int))] w108 (fun ch w => R (.panicked ch) w) fun v123 w124 =>
 ∃ (y125 : Option Addr) (l126 c127 : Nat), v123 = (.slice y125 l126 c127) ∧
 (w124.cell? ⟨b0, 0, none⟩ = some (.int .i64 x111) ∧ w124.cell? ⟨b0, 1, none⟩ = some (.int .i64 x112) ∧ w124.cell? ⟨b0, 2, none⟩ = some (.string x113) ∧ w124.cell? ⟨b0, 3, none⟩ = some (.slice x114 l115 c116) ∧ w124.cell? ⟨b0, 4, none⟩ = some (.slice x117 l118 c119) ∧ w124.cell? ⟨b0, 5, none⟩ = some (.slice x120 l121 c122)) ∧ (w124.cell? ⟨b0, 2, none⟩ = some (.string x110)) ∧ ((Prim pg (Builtin.append_ #[t_Suint8, t_string] t_Suint8 #[(.slice y125 l126 c127), (.string x110)]) w124 fun v128 w129 =>
 ∃ (y130 : Option Addr) (l131 c132 : Nat), v128 = (.slice y130 l131 c132) ∧
 (w129.cell? ⟨b0, 0, none⟩ = some (.int .i64 x111) ∧ w129.cell? ⟨b0, 1, none⟩ = some (.int .i64 x112) ∧ w129.cell? ⟨b0, 2, none⟩ = some (.string x113) ∧ w129.cell? ⟨b0, 3, none⟩ = some (.slice x114 l115 c116) ∧ w129.cell? ⟨b0, 4, none⟩ = some (.slice x117 l118 c119) ∧ w129.cell? ⟨b0, 5, none⟩ = some (.slice x120 l121 c122)) ∧ (New w129 (.cells #[(.int .u8 (0 : Int))] t_uint8 (0, 0)) fun b133 w134 =>
 (w134.cell? ⟨b0, 0, none⟩ = some (.int .i64 x111) ∧ w134.cell? ⟨b0, 1, none⟩ = some (.int .i64 x112) ∧ w134.cell? ⟨b0, 2, none⟩ = some (.string x113) ∧ w134.cell? ⟨b0, 3, none⟩ = some (.slice x114 l115 c116) ∧ w134.cell? ⟨b0, 4, none⟩ = some (.slice x117 l118 c119) ∧ w134.cell? ⟨b0, 5, none⟩ = some (.slice x120 l121 c122)) ∧ (Prim pg (Builtin.append_ #[t_Suint8, t_Suint8] t_Suint8 #[(.slice y130 l131 c132), (.slice (some (⟨b133, 0, none⟩ : Addr)) 1 1)]) w134 fun v135 w136 =>
 ∃ (y137 : Option Addr) (l138 c139 : Nat), v135 = (.slice y137 l138 c139) ∧
 (w136.cell? ⟨b0, 0, none⟩ = some (.int .i64 x111) ∧ w136.cell? ⟨b0, 1, none⟩ = some (.int .i64 x112) ∧ w136.cell? ⟨b0, 2, none⟩ = some (.string x113) ∧ w136.cell? ⟨b0, 3, none⟩ = some (.slice x114 l115 c116) ∧ w136.cell? ⟨b0, 4, none⟩ = some (.slice x117 l118 c119) ∧ w136.cell? ⟨b0, 5, none⟩ = some (.slice x120 l121 c122)) ∧ (CallR pg f_aqueductref5_bare [(.agg #[(.int .i64 x111), (.int .i64 x112), (.string x113), (.slice x114 l115 c116), (.slice x117 l118 c119), (.slice x120 l121 c122)]), (.bool false), (.bool true), (.bool false), (.bool false), (.bool false)] w136 (fun ch w => R (.panicked ch) w) fun v140 w141 =>
 ∃ y142 : Bool, v140 = (.bool y142) ∧
 (cond y142
 (∃ x143 : ByteArray, w141.cell? ⟨b0, 2, none⟩ = some (.string x143) ∧
 (CallR pg f_aqueductref5_Utf8 [(.string x143)] w141 (fun ch w => R (.panicked ch) w) fun v144 w145 =>
 ∃ y146 : Bool, v144 = (.bool y146) ∧
 J105 ((y137, l138, c139), y146) w145))
 (J105 ((y137, l138, c139), false) w141))))))) ∧
 ((New w124 (.cells #[(.int .u8 (0 : Int))] t_uint8 (0, 0)) fun b147 w148 =>
 (w148.cell? ⟨b0, 0, none⟩ = some (.int .i64 x111) ∧ w148.cell? ⟨b0, 1, none⟩ = some (.int .i64 x112) ∧ w148.cell? ⟨b0, 2, none⟩ = some (.string x113) ∧ w148.cell? ⟨b0, 3, none⟩ = some (.slice x114 l115 c116) ∧ w148.cell? ⟨b0, 4, none⟩ = some (.slice x117 l118 c119) ∧ w148.cell? ⟨b0, 5, none⟩ = some (.slice x120 l121 c122)) ∧ (w148.cell? ⟨b0, 2, none⟩ = some (.string x110)) ∧ (Prim pg (Builtin.append_ #[t_Suint8, t_string] t_Suint8 #[(.slice y125 l126 c127), (.string x110)]) w148 fun v149 w150 =>
 ∃ (y151 : Option Addr) (l152 c153 : Nat), v149 = (.slice y151 l152 c153) ∧
 (w150.cell? ⟨b0, 0, none⟩ = some (.int .i64 x111) ∧ w150.cell? ⟨b0, 1, none⟩ = some (.int .i64 x112) ∧ w150.cell? ⟨b0, 2, none⟩ = some (.string x113) ∧ w150.cell? ⟨b0, 3, none⟩ = some (.slice x114 l115 c116) ∧ w150.cell? ⟨b0, 4, none⟩ = some (.slice x117 l118 c119) ∧ w150.cell? ⟨b0, 5, none⟩ = some (.slice x120 l121 c122)) ∧ (Prim pg (Builtin.append_ #[t_Suint8, t_Suint8] t_Suint8 #[(.slice y151 l152 c153), (.slice (some (⟨b147, 0, none⟩ : Addr)) 1 1)]) w150 fun v154 w155 =>
 ∃ (y156 : Option Addr) (l157 c158 : Nat), v154 = (.slice y156 l157 c158) ∧
 (w155.cell? ⟨b0, 0, none⟩ = some (.int .i64 x111) ∧ w155.cell? ⟨b0, 1, none⟩ = some (.int .i64 x112) ∧ w155.cell? ⟨b0, 2, none⟩ = some (.string x113) ∧ w155.cell? ⟨b0, 3, none⟩ = some (.slice x114 l115 c116) ∧ w155.cell? ⟨b0, 4, none⟩ = some (.slice x117 l118 c119) ∧ w155.cell? ⟨b0, 5, none⟩ = some (.slice x120 l121 c122)) ∧ (CallR pg f_aqueductref5_bare [(.agg #[(.int .i64 x111), (.int .i64 x112), (.string x113), (.slice x114 l115 c116), (.slice x117 l118 c119), (.slice x120 l121 c122)]), (.bool false), (.bool true), (.bool false), (.bool false), (.bool false)] w155 (fun ch w => R (.panicked ch) w) fun v159 w160 =>
 ∃ y161 : Bool, v159 = (.bool y161) ∧
 (cond y161
 (∃ x162 : ByteArray, w160.cell? ⟨b0, 2, none⟩ = some (.string x162) ∧
 (CallR pg f_aqueductref5_Utf8 [(.string x162)] w160 (fun ch w => R (.panicked ch) w) fun v163 w164 =>
 ∃ y165 : Bool, v163 = (.bool y165) ∧
 J105 ((y156, l157, c158), y165) w164))
 (J105 ((y156, l157, c158), false) w160))))))))) ∧
 ((New w108 (.cells #[(.int .u8 (0 : Int))] t_uint8 (0, 0)) fun b166 w167 =>
 (w167.cell? ⟨b0, 0, none⟩ = some (.int .i64 x111) ∧ w167.cell? ⟨b0, 1, none⟩ = some (.int .i64 x112) ∧ w167.cell? ⟨b0, 2, none⟩ = some (.string x113) ∧ w167.cell? ⟨b0, 3, none⟩ = some (.slice x114 l115 c116) ∧ w167.cell? ⟨b0, 4, none⟩ = some (.slice x117 l118 c119) ∧ w167.cell? ⟨b0, 5, none⟩ = some (.slice x120 l121 c122)) ∧ (w167.cell? ⟨b0, 2, none⟩ = some (.string x110)) ∧ (w167.cell? ⟨b0, 2, none⟩ = some (.string x109)) ∧ (CallR pg f_aqueductref5_num [(.int .i64 (IntKind.i64.wrap (((x109.size : Nat) : Int) + (1 : Int)))), (.int .i64 (4 : Int))] w167 (fun ch w => R (.panicked ch) w) fun v168 w169 =>
 ∃ (y170 : Option Addr) (l171 c172 : Nat), v168 = (.slice y170 l171 c172) ∧
 (w169.cell? ⟨b0, 0, none⟩ = some (.int .i64 x111) ∧ w169.cell? ⟨b0, 1, none⟩ = some (.int .i64 x112) ∧ w169.cell? ⟨b0, 2, none⟩ = some (.string x113) ∧ w169.cell? ⟨b0, 3, none⟩ = some (.slice x114 l115 c116) ∧ w169.cell? ⟨b0, 4, none⟩ = some (.slice x117 l118 c119) ∧ w169.cell? ⟨b0, 5, none⟩ = some (.slice x120 l121 c122)) ∧ (w169.cell? ⟨b0, 2, none⟩ = some (.string x110)) ∧ (Prim pg (Builtin.append_ #[t_Suint8, t_string] t_Suint8 #[(.slice y170 l171 c172), (.string x110)]) w169 fun v173 w174 =>
 ∃ (y175 : Option Addr) (l176 c177 : Nat), v173 = (.slice y175 l176 c177) ∧
 (w174.cell? ⟨b0, 0, none⟩ = some (.int .i64 x111) ∧ w174.cell? ⟨b0, 1, none⟩ = some (.int .i64 x112) ∧ w174.cell? ⟨b0, 2, none⟩ = some (.string x113) ∧ w174.cell? ⟨b0, 3, none⟩ = some (.slice x114 l115 c116) ∧ w174.cell? ⟨b0, 4, none⟩ = some (.slice x117 l118 c119) ∧ w174.cell? ⟨b0, 5, none⟩ = some (.slice x120 l121 c122)) ∧ (Prim pg (Builtin.append_ #[t_Suint8, t_Suint8] t_Suint8 #[(.slice y175 l176 c177), (.slice (some (⟨b166, 0, none⟩ : Addr)) 1 1)]) w174 fun v178 w179 =>
 ∃ (y180 : Option Addr) (l181 c182 : Nat), v178 = (.slice y180 l181 c182) ∧
 (w179.cell? ⟨b0, 0, none⟩ = some (.int .i64 x111) ∧ w179.cell? ⟨b0, 1, none⟩ = some (.int .i64 x112) ∧ w179.cell? ⟨b0, 2, none⟩ = some (.string x113) ∧ w179.cell? ⟨b0, 3, none⟩ = some (.slice x114 l115 c116) ∧ w179.cell? ⟨b0, 4, none⟩ = some (.slice x117 l118 c119) ∧ w179.cell? ⟨b0, 5, none⟩ = some (.slice x120 l121 c122)) ∧ (CallR pg f_aqueductref5_bare [(.agg #[(.int .i64 x111), (.int .i64 x112), (.string x113), (.slice x114 l115 c116), (.slice x117 l118 c119), (.slice x120 l121 c122)]), (.bool false), (.bool true), (.bool false), (.bool false), (.bool false)] w179 (fun ch w => R (.panicked ch) w) fun v183 w184 =>
 ∃ y185 : Bool, v183 = (.bool y185) ∧
 (cond y185
 (∃ x186 : ByteArray, w184.cell? ⟨b0, 2, none⟩ = some (.string x186) ∧
 (CallR pg f_aqueductref5_Utf8 [(.string x186)] w184 (fun ch w => R (.panicked ch) w) fun v187 w188 =>
 ∃ y189 : Bool, v187 = (.bool y189) ∧
 J105 ((y180, l181, c182), y189) w188))
 (J105 ((y180, l181, c182), false) w184))))))))))
 (fun s106 w107 =>
 ∀ j190 : Nat → Value, R (.returned (.tuple #[(.slice s106.1.1 s106.1.2.1 s106.1.2.2), (.bool s106.2)])) w107)))))
 ((cond (x2 == (8 : Int))
 (∃ (x191 : Option Addr) (l192 c193 : Nat), w52.cell? ⟨b0, 3, none⟩ = some (.slice x191 l192 c193) ∧
 (cond (decide (((l192 : Nat) : Int) > (65536 : Int)))
 (R (.returned (.tuple #[(.slice none 0 0), (.bool false)])) w52)
 ((Drew w52 fun w194 =>
 ∃ (x195 : Option Addr) (l196 c197 : Nat), w194.cell? ⟨b0, 3, none⟩ = some (.slice x195 l196 c197) ∧
 ∃ (x198 : Option Addr) (l199 c200 : Nat), w194.cell? ⟨b0, 3, none⟩ = some (.slice x198 l199 c200) ∧
 ∃ x201 : Int, w194.cell? ⟨b0, 0, none⟩ = some (.int .i64 x201) ∧
 ∃ x202 : Int, w194.cell? ⟨b0, 1, none⟩ = some (.int .i64 x202) ∧
 ∃ x203 : ByteArray, w194.cell? ⟨b0, 2, none⟩ = some (.string x203) ∧
 ∃ (x204 : Option Addr) (l205 c206 : Nat), w194.cell? ⟨b0, 3, none⟩ = some (.slice x204 l205 c206) ∧
 ∃ (x207 : Option Addr) (l208 c209 : Nat), w194.cell? ⟨b0, 4, none⟩ = some (.slice x207 l208 c209) ∧
 ∃ (x210 : Option Addr) (l211 c212 : Nat), w194.cell? ⟨b0, 5, none⟩ = some (.slice x210 l211 c212) ∧
 ((CallR pg f_aqueductref5_num [(.int .i64 ((l196 : Nat) : Int)), (.int .i64 (4 : Int))] w194 (fun ch w => R (.panicked ch) w) fun v213 w214 =>
 ∃ (y215 : Option Addr) (l216 c217 : Nat), v213 = (.slice y215 l216 c217) ∧
 (w214.cell? ⟨b0, 0, none⟩ = some (.int .i64 x201) ∧ w214.cell? ⟨b0, 1, none⟩ = some (.int .i64 x202) ∧ w214.cell? ⟨b0, 2, none⟩ = some (.string x203) ∧ w214.cell? ⟨b0, 3, none⟩ = some (.slice x204 l205 c206) ∧ w214.cell? ⟨b0, 4, none⟩ = some (.slice x207 l208 c209) ∧ w214.cell? ⟨b0, 5, none⟩ = some (.slice x210 l211 c212)) ∧ (w214.cell? ⟨b0, 3, none⟩ = some (.slice x198 l199 c200)) ∧ (New w214 (.cells #[(.int .u8 (0 : Int))] t_uint8 (0, 0)) fun b218 w219 =>
 (w219.cell? ⟨b0, 0, none⟩ = some (.int .i64 x201) ∧ w219.cell? ⟨b0, 1, none⟩ = some (.int .i64 x202) ∧ w219.cell? ⟨b0, 2, none⟩ = some (.string x203) ∧ w219.cell? ⟨b0, 3, none⟩ = some (.slice x204 l205 c206) ∧ w219.cell? ⟨b0, 4, none⟩ = some (.slice x207 l208 c209) ∧ w219.cell? ⟨b0, 5, none⟩ = some (.slice x210 l211 c212)) ∧ (w219.cell? ⟨b0, 3, none⟩ = some (.slice x198 l199 c200)) ∧ (Prim pg (Builtin.append_ #[t_Suint8, t_Suint8] t_Suint8 #[(.slice y215 l216 c217), (.slice (some (⟨b218, 0, none⟩ : Addr)) 1 1)]) w219 fun v220 w221 =>
 ∃ (y222 : Option Addr) (l223 c224 : Nat), v220 = (.slice y222 l223 c224) ∧
 (w221.cell? ⟨b0, 0, none⟩ = some (.int .i64 x201) ∧ w221.cell? ⟨b0, 1, none⟩ = some (.int .i64 x202) ∧ w221.cell? ⟨b0, 2, none⟩ = some (.string x203) ∧ w221.cell? ⟨b0, 3, none⟩ = some (.slice x204 l205 c206) ∧ w221.cell? ⟨b0, 4, none⟩ = some (.slice x207 l208 c209) ∧ w221.cell? ⟨b0, 5, none⟩ = some (.slice x210 l211 c212)) ∧ (w221.cell? ⟨b0, 3, none⟩ = some (.slice x198 l199 c200)) ∧ (Prim pg (Builtin.append_ #[t_Suint8, t_Suint8] t_Suint8 #[(.slice y222 l223 c224), (.slice x198 l199 c200)]) w221 fun v225 w226 =>
 ∃ (y227 : Option Addr) (l228 c229 : Nat), v225 = (.slice y227 l228 c229) ∧
 (w226.cell? ⟨b0, 0, none⟩ = some (.int .i64 x201) ∧ w226.cell? ⟨b0, 1, none⟩ = some (.int .i64 x202) ∧ w226.cell? ⟨b0, 2, none⟩ = some (.string x203) ∧ w226.cell? ⟨b0, 3, none⟩ = some (.slice x204 l205 c206) ∧ w226.cell? ⟨b0, 4, none⟩ = some (.slice x207 l208 c209) ∧ w226.cell? ⟨b0, 5, none⟩ = some (.slice x210 l211 c212)) ∧ (CallR pg f_aqueductref5_bare [(.agg #[(.int .i64 x201), (.int .i64 x202), (.string x203), (.slice x204 l205 c206), (.slice x207 l208 c209), (.slice x210 l211 c212)]), (.bool false), (.bool false), (.bool true), (.bool false), (.bool false)] w226 (fun ch w => R (.panicked ch) w) fun v230 w231 =>
 ∃ y232 : Bool, v230 = (.bool y232) ∧
 R (.returned (.tuple #[(.slice y227 l228 c229), (.bool y232)])) w231)))))) ∧
 ((New w194 (.cells #[(.int .u8 (0 : Int))] t_uint8 (0, 0)) fun b233 w234 =>
 (w234.cell? ⟨b0, 0, none⟩ = some (.int .i64 x201) ∧ w234.cell? ⟨b0, 1, none⟩ = some (.int .i64 x202) ∧ w234.cell? ⟨b0, 2, none⟩ = some (.string x203) ∧ w234.cell? ⟨b0, 3, none⟩ = some (.slice x204 l205 c206) ∧ w234.cell? ⟨b0, 4, none⟩ = some (.slice x207 l208 c209) ∧ w234.cell? ⟨b0, 5, none⟩ = some (.slice x210 l211 c212)) ∧ (w234.cell? ⟨b0, 3, none⟩ = some (.slice x198 l199 c200)) ∧ (w234.cell? ⟨b0, 3, none⟩ = some (.slice x195 l196 c197)) ∧ (CallR pg f_aqueductref5_num [(.int .i64 ((l196 : Nat) : Int)), (.int .i64 (4 : Int))] w234 (fun ch w => R (.panicked ch) w) fun v235 w236 =>
 ∃ (y237 : Option Addr) (l238 c239 : Nat), v235 = (.slice y237 l238 c239) ∧
 (w236.cell? ⟨b0, 0, none⟩ = some (.int .i64 x201) ∧ w236.cell? ⟨b0, 1, none⟩ = some (.int .i64 x202) ∧ w236.cell? ⟨b0, 2, none⟩ = some (.string x203) ∧ w236.cell? ⟨b0, 3, none⟩ = some (.slice x204 l205 c206) ∧ w236.cell? ⟨b0, 4, none⟩ = some (.slice x207 l208 c209) ∧ w236.cell? ⟨b0, 5, none⟩ = some (.slice x210 l211 c212)) ∧ (w236.cell? ⟨b0, 3, none⟩ = some (.slice x198 l199 c200)) ∧ (Prim pg (Builtin.append_ #[t_Suint8, t_Suint8] t_Suint8 #[(.slice y237 l238 c239), (.slice (some (⟨b233, 0, none⟩ : Addr)) 1 1)]) w236 fun v240 w241 =>
 ∃ (y242 : Option Addr) (l243 c244 : Nat), v240 = (.slice y242 l243 c244) ∧
 (w241.cell? ⟨b0, 0, none⟩ = some (.int .i64 x201) ∧ w241.cell? ⟨b0, 1, none⟩ = some (.int .i64 x202) ∧ w241.cell? ⟨b0, 2, none⟩ = some (.string x203) ∧ w241.cell? ⟨b0, 3, none⟩ = some (.slice x204 l205 c206) ∧ w241.cell? ⟨b0, 4, none⟩ = some (.slice x207 l208 c209) ∧ w241.cell? ⟨b0, 5, none⟩ = some (.slice x210 l211 c212)) ∧ (w241.cell? ⟨b0, 3, none⟩ = some (.slice x198 l199 c200)) ∧ (Prim pg (Builtin.append_ #[t_Suint8, t_Suint8] t_Suint8 #[(.slice y242 l243 c244), (.slice x198 l199 c200)]) w241 fun v245 w246 =>
 ∃ (y247 : Option Addr) (l248 c249 : Nat), v245 = (.slice y247 l248 c249) ∧
 (w246.cell? ⟨b0, 0, none⟩ = some (.int .i64 x201) ∧ w246.cell? ⟨b0, 1, none⟩ = some (.int .i64 x202) ∧ w246.cell? ⟨b0, 2, none⟩ = some (.string x203) ∧ w246.cell? ⟨b0, 3, none⟩ = some (.slice x204 l205 c206) ∧ w246.cell? ⟨b0, 4, none⟩ = some (.slice x207 l208 c209) ∧ w246.cell? ⟨b0, 5, none⟩ = some (.slice x210 l211 c212)) ∧ (CallR pg f_aqueductref5_bare [(.agg #[(.int .i64 x201), (.int .i64 x202), (.string x203), (.slice x204 l205 c206), (.slice x207 l208 c209), (.slice x210 l211 c212)]), (.bool false), (.bool false), (.bool true), (.bool false), (.bool false)] w246 (fun ch w => R (.panicked ch) w) fun v250 w251 =>
 ∃ y252 : Bool, v250 = (.bool y252) ∧
 R (.returned (.tuple #[(.slice y247 l248 c249), (.bool y252)])) w251))))))))))
 ((cond (x2 == (9 : Int))
 ((Meet (σ := (Option Addr × Nat × Nat) × Bool) (fun J253 =>
 (Drew w52 fun w256 =>
 ∃ (x257 : Option Addr) (l258 c259 : Nat), w256.cell? ⟨b0, 3, none⟩ = some (.slice x257 l258 c259) ∧
 ∃ x260 : Int, w256.cell? ⟨b0, 0, none⟩ = some (.int .i64 x260) ∧
 ∃ x261 : Int, w256.cell? ⟨b0, 1, none⟩ = some (.int .i64 x261) ∧
 ∃ x262 : ByteArray, w256.cell? ⟨b0, 2, none⟩ = some (.string x262) ∧
 ∃ (x263 : Option Addr) (l264 c265 : Nat), w256.cell? ⟨b0, 3, none⟩ = some (.slice x263 l264 c265) ∧
 ∃ (x266 : Option Addr) (l267 c268 : Nat), w256.cell? ⟨b0, 4, none⟩ = some (.slice x266 l267 c268) ∧
 ∃ (x269 : Option Addr) (l270 c271 : Nat), w256.cell? ⟨b0, 5, none⟩ = some (.slice x269 l270 c271) ∧
 (CallR pg f_aqueductref5_bare [(.agg #[(.int .i64 x260), (.int .i64 x261), (.string x262), (.slice x263 l264 c265), (.slice x266 l267 c268), (.slice x269 l270 c271)]), (.bool false), (.bool false), (.bool true), (.bool false), (.bool false)] w256 (fun ch w => R (.panicked ch) w) fun v272 w273 =>
 ∃ y274 : Bool, v272 = (.bool y274) ∧
 (w273.cell? ⟨b0, 3, none⟩ = some (.slice x257 l258 c259)) ∧ (cond y274
 (∃ (x275 : Option Addr) (l276 c277 : Nat), w273.cell? ⟨b0, 3, none⟩ = some (.slice x275 l276 c277) ∧
 J253 ((x257, l258, c259), (((l276 : Nat) : Int) == (12 : Int))) w273)
 (J253 ((x257, l258, c259), false) w273)))))
 (fun s254 w255 =>
 ∀ j278 : Nat → Value, R (.returned (.tuple #[(.slice s254.1.1 s254.1.2.1 s254.1.2.2), (.bool s254.2)])) w255)))
 ((cond (x2 == (6 : Int))
 ((Meet (σ := Bool) (fun J279 =>
 ∃ x282 : Int, w52.cell? ⟨b0, 0, none⟩ = some (.int .i64 x282) ∧
 ∃ x283 : Int, w52.cell? ⟨b0, 1, none⟩ = some (.int .i64 x283) ∧
 ∃ x284 : ByteArray, w52.cell? ⟨b0, 2, none⟩ = some (.string x284) ∧
 ∃ (x285 : Option Addr) (l286 c287 : Nat), w52.cell? ⟨b0, 3, none⟩ = some (.slice x285 l286 c287) ∧
 ∃ (x288 : Option Addr) (l289 c290 : Nat), w52.cell? ⟨b0, 4, none⟩ = some (.slice x288 l289 c290) ∧
 ∃ (x291 : Option Addr) (l292 c293 : Nat), w52.cell? ⟨b0, 5, none⟩ = some (.slice x291 l292 c293) ∧
 (CallR pg f_aqueductref5_bare [(.agg #[(.int .i64 x282), (.int .i64 x283), (.string x284), (.slice x285 l286 c287), (.slice x288 l289 c290), (.slice x291 l292 c293)]), (.bool false), (.bool false), (.bool false), (.bool true), (.bool false)] w52 (fun ch w => R (.panicked ch) w) fun v294 w295 =>
 ∃ y296 : Bool, v294 = (.bool y296) ∧
 (cond (!y296)
 (J279 true w295)
 (J279 (decide (depth_1 > (32 : Int))) w295))))
 (fun s280 w281 =>
 ∀ j297 : Nat → Value, (cond s280
 (R (.returned (.tuple #[(.slice none 0 0), (.bool false)])) w281)
 (∃ (x298 : Option Addr) (l299 c300 : Nat), w281.cell? ⟨b0, 4, none⟩ = some (.slice x298 l299 c300) ∧
 (CallR pg f_aqueductref5_fields [(.slice x298 l299 c300), (.int .i64 depth_1)] w281 (fun ch w => R (.panicked ch) w) fun v301 w302 =>
 ∃ (y303 : Option Addr) (l304 c305 : Nat), ∃ y306 : Bool, v301 = (.tuple #[(.slice y303 l304 c305), (.bool y306)]) ∧
 R (.returned (.tuple #[(.slice y303 l304 c305), (.bool y306)])) w302))))))
 ((cond (x2 == (7 : Int))
 ((Meet (σ := Bool) (fun J307 =>
 ∃ x310 : Int, w52.cell? ⟨b0, 0, none⟩ = some (.int .i64 x310) ∧
 ∃ x311 : Int, w52.cell? ⟨b0, 1, none⟩ = some (.int .i64 x311) ∧
 ∃ x312 : ByteArray, w52.cell? ⟨b0, 2, none⟩ = some (.string x312) ∧
 ∃ (x313 : Option Addr) (l314 c315 : Nat), w52.cell? ⟨b0, 3, none⟩ = some (.slice x313 l314 c315) ∧
 ∃ (x316 : Option Addr) (l317 c318 : Nat), w52.cell? ⟨b0, 4, none⟩ = some (.slice x316 l317 c318) ∧
 ∃ (x319 : Option Addr) (l320 c321 : Nat), w52.cell? ⟨b0, 5, none⟩ = some (.slice x319 l320 c321) ∧
 (CallR pg f_aqueductref5_bare [(.agg #[(.int .i64 x310), (.int .i64 x311), (.string x312), (.slice x313 l314 c315), (.slice x316 l317 c318), (.slice x319 l320 c321)]), (.bool false), (.bool false), (.bool false), (.bool false), (.bool true)] w52 (fun ch w => R (.panicked ch) w) fun v322 w323 =>
 ∃ y324 : Bool, v322 = (.bool y324) ∧
 (cond (!y324)
 (J307 true w323)
 ((cond (decide (depth_1 > (32 : Int)))
 (J307 true w323)
 (∃ (x325 : Option Addr) (l326 c327 : Nat), w323.cell? ⟨b0, 5, none⟩ = some (.slice x325 l326 c327) ∧
 J307 (decide (((l326 : Nat) : Int) > (65536 : Int))) w323))))))
 (fun s308 w309 =>
 ∀ j328 : Nat → Value, (cond s308
 (R (.returned (.tuple #[(.slice none 0 0), (.bool false)])) w309)
 ((Eng.Loop (σ := (Option Addr × Nat × Nat) × Int) (fun X329 s330 w331 =>
 ∀ j332 : Nat → Value, ∃ (x333 : Option Addr) (l334 c335 : Nat), w331.cell? ⟨b0, 5, none⟩ = some (.slice x333 l334 c335) ∧
 (cond (decide (s330.2 < ((l334 : Nat) : Int)))
 ((Drew w331 fun w336 =>
 ∃ (x337 : Option Addr) (l338 c339 : Nat), w336.cell? ⟨b0, 5, none⟩ = some (.slice x337 l338 c339) ∧
 (withSome x337 fun (a340 : Addr) =>
 (0 ≤ s330.2 ∧ s330.2 < ((l338 : Nat) : Int)) ∧
 ∃ x341 : Int, w336.cell? (a340.add ((s330.2).toNat * 6)) = some (.int .i64 x341) ∧
 ∃ x342 : Int, w336.cell? ((a340.add ((s330.2).toNat * 6)).add 1) = some (.int .i64 x342) ∧
 ∃ x343 : ByteArray, w336.cell? ((a340.add ((s330.2).toNat * 6)).add 2) = some (.string x343) ∧
 ∃ (x344 : Option Addr) (l345 c346 : Nat), w336.cell? ((a340.add ((s330.2).toNat * 6)).add 3) = some (.slice x344 l345 c346) ∧
 ∃ (x347 : Option Addr) (l348 c349 : Nat), w336.cell? ((a340.add ((s330.2).toNat * 6)).add 4) = some (.slice x347 l348 c349) ∧
 ∃ (x350 : Option Addr) (l351 c352 : Nat), w336.cell? ((a340.add ((s330.2).toNat * 6)).add 5) = some (.slice x350 l351 c352) ∧
 (CallR pg f_aqueductref5_digits [(.int .i64 s330.2)] w336 (fun ch w => R (.panicked ch) w) fun v353 w354 =>
 ∃ y355 : ByteArray, v353 = (.string y355) ∧
 (w354.cell? (a340.add ((s330.2).toNat * 6)) = some (.int .i64 x341) ∧ w354.cell? ((a340.add ((s330.2).toNat * 6)).add 1) = some (.int .i64 x342) ∧ w354.cell? ((a340.add ((s330.2).toNat * 6)).add 2) = some (.string x343) ∧ w354.cell? ((a340.add ((s330.2).toNat * 6)).add 3) = some (.slice x344 l345 c346) ∧ w354.cell? ((a340.add ((s330.2).toNat * 6)).add 4) = some (.slice x347 l348 c349) ∧ w354.cell? ((a340.add ((s330.2).toNat * 6)).add 5) = some (.slice x350 l351 c352)) ∧ (w354.cell? ⟨b0, 5, none⟩ = some (.slice x337 l338 c339)) ∧ (New w354 (.cells #[(.string y355), (.int .i64 x341), (.int .i64 x342), (.string x343), (.slice x344 l345 c346), (.slice x347 l348 c349), (.slice x350 l351 c352)] t_api_Field (0, 0)) fun b356 w357 =>
 (Prim pg (Builtin.append_ #[t_Sapi_Field, t_Sapi_Field] t_Sapi_Field #[(.slice s330.1.1 s330.1.2.1 s330.1.2.2), (.slice (some (⟨b356, 0, none⟩ : Addr)) 1 1)]) w357 fun v358 w359 =>
 ∃ (y360 : Option Addr) (l361 c362 : Nat), v358 = (.slice y360 l361 c362) ∧
 X329 ((y360, l361, c362), (IntKind.i64.wrap (s330.2 + (1 : Int)))) w359))))))
 ((CallR pg f_aqueductref5_fields [(.slice s330.1.1 s330.1.2.1 s330.1.2.2), (.int .i64 depth_1)] w331 (fun ch w => R (.panicked ch) w) fun v363 w364 =>
 ∃ (y365 : Option Addr) (l366 c367 : Nat), ∃ y368 : Bool, v363 = (.tuple #[(.slice y365 l366 c367), (.bool y368)]) ∧
 R (.returned (.tuple #[(.slice y365 l366 c367), (.bool y368)])) w364)))) ((none, 0, 0), (0 : Int)) w309))))))
 (R (.returned (.tuple #[(.slice none 0 0), (.bool false)])) w52)))))))))))))))))))))))
theorem e_aqueductref5_own (v_0x0 : Int) (v_0x1 : Int) (v_0x2 : ByteArray) (v_0x3 : Option Addr) (v_0x3l v_0x3c : Nat) (v_0x4 : Option Addr) (v_0x4l v_0x4c : Nat) (v_0x5 : Option Addr) (v_0x5l v_0x5c : Nat) (depth_1 : Int) (w : World) (R : Ending → World → Prop) : funcX pg T bl Tryd.f29 [(.agg #[(.int .i64 v_0x0), (.int .i64 v_0x1), (.string v_0x2), (.slice v_0x3 v_0x3l v_0x3c), (.slice v_0x4 v_0x4l v_0x4c), (.slice v_0x5 v_0x5l v_0x5c)]), (.int .i64 depth_1)] w R = c_aqueductref5_own v_0x0  v_0x1  v_0x2  v_0x3 v_0x3l v_0x3c  v_0x4 v_0x4l v_0x4c  v_0x5 v_0x5l v_0x5c  depth_1  w R := by kernel_rfl
theorem of_aqueductref5_own (v_0x0 : Int) (v_0x1 : Int) (v_0x2 : ByteArray) (v_0x3 : Option Addr) (v_0x3l v_0x3c : Nat) (v_0x4 : Option Addr) (v_0x4l v_0x4c : Nat) (v_0x5 : Option Addr) (v_0x5l v_0x5c : Nat) (depth_1 : Int) {w : World} {R : Ending → World → Prop} (h : c_aqueductref5_own v_0x0  v_0x1  v_0x2  v_0x3 v_0x3l v_0x3c  v_0x4 v_0x4l v_0x4c  v_0x5 v_0x5l v_0x5c  depth_1  w R) : Calls pg f_aqueductref5_own #[(.agg #[(.int .i64 v_0x0), (.int .i64 v_0x1), (.string v_0x2), (.slice v_0x3 v_0x3l v_0x3c), (.slice v_0x4 v_0x4l v_0x4c), (.slice v_0x5 v_0x5l v_0x5c)]), (.int .i64 depth_1)] w R :=
  funcX_of mixed tok blok Tryd.func29 (args := [(.agg #[(.int .i64 v_0x0), (.int .i64 v_0x1), (.string v_0x2), (.slice v_0x3 v_0x3l v_0x3c), (.slice v_0x4 v_0x4l v_0x4c), (.slice v_0x5 v_0x5l v_0x5c)]), (.int .i64 depth_1)]) (e_aqueductref5_own v_0x0  v_0x1  v_0x2  v_0x3 v_0x3l v_0x3c  v_0x4 v_0x4l v_0x4c  v_0x5 v_0x5l v_0x5c  depth_1  w R) h
/-- aqueduct/bson.Size -/
def c_bson_Size (v_0x0 : Int) (v_0x1 : Int) (v_0x2 : ByteArray) (v_0x3 : Option Addr) (v_0x3l v_0x3c : Nat) (v_0x4 : Option Addr) (v_0x4l v_0x4c : Nat) (v_0x5 : Option Addr) (v_0x5l v_0x5c : Nat) (w : World) (R : Ending → World → Prop) : Prop :=
 (New w (.cells #[(.int .i64 v_0x0), (.int .i64 v_0x1), (.string v_0x2), (.slice v_0x3 v_0x3l v_0x3c), (.slice v_0x4 v_0x4l v_0x4c), (.slice v_0x5 v_0x5l v_0x5c)] t_api_Value (0, 0)) fun b0 w1 =>
 (New w1 (.cells #[(.int .i64 (0 : Int))] t_bson_weigher (0, 0)) fun b2 w3 =>
 (New w3 (.cells #[(.pointer none)] t_Pbson_weigher (0, 0)) fun b4 w5 =>
 (St w5 ⟨b4, 0, none⟩ (.pointer (some (⟨b2, 0, none⟩ : Addr))) fun w6 =>
 (Meet (σ := Bool) (fun J7 =>
 ∃ x10 : Int, w6.cell? ⟨b0, 0, none⟩ = some (.int .i64 x10) ∧
 (cond (x10 != (6 : Int))
 (J7 true w6)
 (∃ x11 : Int, w6.cell? ⟨b0, 0, none⟩ = some (.int .i64 x11) ∧
 ∃ x12 : Int, w6.cell? ⟨b0, 1, none⟩ = some (.int .i64 x12) ∧
 ∃ x13 : ByteArray, w6.cell? ⟨b0, 2, none⟩ = some (.string x13) ∧
 ∃ (x14 : Option Addr) (l15 c16 : Nat), w6.cell? ⟨b0, 3, none⟩ = some (.slice x14 l15 c16) ∧
 ∃ (x17 : Option Addr) (l18 c19 : Nat), w6.cell? ⟨b0, 4, none⟩ = some (.slice x17 l18 c19) ∧
 ∃ (x20 : Option Addr) (l21 c22 : Nat), w6.cell? ⟨b0, 5, none⟩ = some (.slice x20 l21 c22) ∧
 (CallR pg f_bson_plain [(.agg #[(.int .i64 x11), (.int .i64 x12), (.string x13), (.slice x14 l15 c16), (.slice x17 l18 c19), (.slice x20 l21 c22)])] w6 (fun ch w => R (.panicked ch) w) fun v23 w24 =>
 ∃ y25 : Bool, v23 = (.bool y25) ∧
 (cond (!y25)
 (J7 true w24)
 ((CallR pg f_bson_tried [(.func (.func f_bson_Size_1) #[] #[(.pointer (some (⟨b4, 0, none⟩ : Addr))), (.pointer (some (⟨b0, 0, none⟩ : Addr)))])] w24 (fun ch w => R (.panicked ch) w) fun v26 w27 =>
 ∃ y28 : Int, v26 = (.int .i64 y28) ∧
 J7 (y28 != (0 : Int)) w27)))))))
 (fun s8 w9 =>
 ∀ j29 : Nat → Value, (cond s8
 (R (.returned (.int .i64 (0 : Int))) w9)
 (∃ x30 : Option Addr, w9.cell? ⟨b4, 0, none⟩ = some (.pointer x30) ∧
 (withSome x30 fun (a31 : Addr) =>
 ∃ x32 : Int, w9.cell? a31 = some (.int .i64 x32) ∧
 R (.returned (.int .i64 x32)) w9)))))))))
theorem e_bson_Size (v_0x0 : Int) (v_0x1 : Int) (v_0x2 : ByteArray) (v_0x3 : Option Addr) (v_0x3l v_0x3c : Nat) (v_0x4 : Option Addr) (v_0x4l v_0x4c : Nat) (v_0x5 : Option Addr) (v_0x5l v_0x5c : Nat) (w : World) (R : Ending → World → Prop) : funcX pg T bl Tryd.f33 [(.agg #[(.int .i64 v_0x0), (.int .i64 v_0x1), (.string v_0x2), (.slice v_0x3 v_0x3l v_0x3c), (.slice v_0x4 v_0x4l v_0x4c), (.slice v_0x5 v_0x5l v_0x5c)])] w R = c_bson_Size v_0x0  v_0x1  v_0x2  v_0x3 v_0x3l v_0x3c  v_0x4 v_0x4l v_0x4c  v_0x5 v_0x5l v_0x5c  w R := by kernel_rfl
theorem of_bson_Size (v_0x0 : Int) (v_0x1 : Int) (v_0x2 : ByteArray) (v_0x3 : Option Addr) (v_0x3l v_0x3c : Nat) (v_0x4 : Option Addr) (v_0x4l v_0x4c : Nat) (v_0x5 : Option Addr) (v_0x5l v_0x5c : Nat) {w : World} {R : Ending → World → Prop} (h : c_bson_Size v_0x0  v_0x1  v_0x2  v_0x3 v_0x3l v_0x3c  v_0x4 v_0x4l v_0x4c  v_0x5 v_0x5l v_0x5c  w R) : Calls pg f_bson_Size #[(.agg #[(.int .i64 v_0x0), (.int .i64 v_0x1), (.string v_0x2), (.slice v_0x3 v_0x3l v_0x3c), (.slice v_0x4 v_0x4l v_0x4c), (.slice v_0x5 v_0x5l v_0x5c)])] w R :=
  funcX_of mixed tok blok Tryd.func33 (args := [(.agg #[(.int .i64 v_0x0), (.int .i64 v_0x1), (.string v_0x2), (.slice v_0x3 v_0x3l v_0x3c), (.slice v_0x4 v_0x4l v_0x4c), (.slice v_0x5 v_0x5l v_0x5c)])]) (e_bson_Size v_0x0  v_0x1  v_0x2  v_0x3 v_0x3l v_0x3c  v_0x4 v_0x4l v_0x4c  v_0x5 v_0x5l v_0x5c  w R) h
/-- bytes.Clone -/
def c_bytes_Clone (b_0 : Option Addr) (b_0l b_0c : Nat) (w : World) (R : Ending → World → Prop) : Prop :=
 (cond b_0.isNone
 (R (.returned (.slice none 0 0)) w)
 ((New w (.cells #[] t_uint8 (0, 0)) fun b0 w1 =>
 (Prim pg (Builtin.append_ #[t_Suint8, t_Suint8] t_Suint8 #[(.slice (some (⟨b0, 0, none⟩ : Addr)) 0 0), (.slice b_0 b_0l b_0c)]) w1 fun v2 w3 =>
 ∃ (y4 : Option Addr) (l5 c6 : Nat), v2 = (.slice y4 l5 c6) ∧
 R (.returned (.slice y4 l5 c6)) w3))))
theorem e_bytes_Clone (b_0 : Option Addr) (b_0l b_0c : Nat) (w : World) (R : Ending → World → Prop) : funcX pg T bl Tryd.f35 [(.slice b_0 b_0l b_0c)] w R = c_bytes_Clone b_0 b_0l b_0c  w R := by kernel_rfl
theorem of_bytes_Clone (b_0 : Option Addr) (b_0l b_0c : Nat) {w : World} {R : Ending → World → Prop} (h : c_bytes_Clone b_0 b_0l b_0c  w R) : Calls pg f_bytes_Clone #[(.slice b_0 b_0l b_0c)] w R :=
  funcX_of mixed tok blok Tryd.func35 (args := [(.slice b_0 b_0l b_0c)]) (e_bytes_Clone b_0 b_0l b_0c  w R) h
/-- slices.Clone[[]aqueduct/api.Value,aqueduct/api.Value] -/
def c_slices_Clone_Sapi_Value_api_Value (s_0 : Option Addr) (s_0l s_0c : Nat) (w : World) (R : Ending → World → Prop) : Prop :=
 (cond s_0.isNone
 (R (.returned (.slice none 0 0)) w)
 ((New w (.cells #[] t_api_Value (0, 0)) fun b0 w1 =>
 (Prim pg (Builtin.append_ #[t_Sapi_Value, t_Sapi_Value] t_Sapi_Value #[(.slice (some (⟨b0, 0, none⟩ : Addr)) 0 0), (.slice s_0 s_0l s_0c)]) w1 fun v2 w3 =>
 ∃ (y4 : Option Addr) (l5 c6 : Nat), v2 = (.slice y4 l5 c6) ∧
 R (.returned (.slice y4 l5 c6)) w3))))
theorem e_slices_Clone_Sapi_Value_api_Value (s_0 : Option Addr) (s_0l s_0c : Nat) (w : World) (R : Ending → World → Prop) : funcX pg T bl Tryd.f37 [(.slice s_0 s_0l s_0c)] w R = c_slices_Clone_Sapi_Value_api_Value s_0 s_0l s_0c  w R := by kernel_rfl
theorem of_slices_Clone_Sapi_Value_api_Value (s_0 : Option Addr) (s_0l s_0c : Nat) {w : World} {R : Ending → World → Prop} (h : c_slices_Clone_Sapi_Value_api_Value s_0 s_0l s_0c  w R) : Calls pg f_slices_Clone_Sapi_Value_api_Value #[(.slice s_0 s_0l s_0c)] w R :=
  funcX_of mixed tok blok Tryd.func37 (args := [(.slice s_0 s_0l s_0c)]) (e_slices_Clone_Sapi_Value_api_Value s_0 s_0l s_0c  w R) h
/-- internal/strconv.Itoa -/
def c_internal_strconv_Itoa (i_0 : Int) (w : World) (R : Ending → World → Prop) : Prop :=
 (CallR pg f_internal_strconv_FormatInt [(.int .i64 i_0), (.int .i64 (10 : Int))] w (fun ch w => R (.panicked ch) w) fun v0 w1 =>
 ∃ y2 : ByteArray, v0 = (.string y2) ∧
 R (.returned (.string y2)) w1)
theorem e_internal_strconv_Itoa (i_0 : Int) (w : World) (R : Ending → World → Prop) : funcX pg T bl Tryd.f45 [(.int .i64 i_0)] w R = c_internal_strconv_Itoa i_0  w R := by kernel_rfl
theorem of_internal_strconv_Itoa (i_0 : Int) {w : World} {R : Ending → World → Prop} (h : c_internal_strconv_Itoa i_0  w R) : Calls pg f_internal_strconv_Itoa #[(.int .i64 i_0)] w R :=
  funcX_of mixed tok blok Tryd.func45 (args := [(.int .i64 i_0)]) (e_internal_strconv_Itoa i_0  w R) h
/-- (*aqueduct/bson.weigher).fields -/
def c_Pbson_weigher_fields (w_0 : Option Addr) (l_1 : Option Addr) (l_1l l_1c : Nat) (deep_2 : Int) (w : World) (R : Ending → World → Prop) : Prop :=
 (CallR pg f_bson_must [(.bool (decide (deep_2 ≤ (32 : Int)))), (.int .i64 (1 : Int))] w (fun ch w => R (.panicked ch) w) fun v0 w1 =>
 v0 = (.tuple #[]) ∧
 (CallR pg f_Pbson_weigher_add [(.pointer w_0), (.int .i64 (5 : Int))] w1 (fun ch w => R (.panicked ch) w) fun v2 w3 =>
 v2 = (.tuple #[]) ∧
 (New w3 (.map #[] 0) fun b4 w5 =>
 (Eng.Loop (σ := Int) (fun X6 s7 w8 =>
 ∀ j9 : Nat → Value, (cond (decide (s7 < ((l_1l : Nat) : Int)))
 ((withSome l_1 fun (a10 : Addr) =>
 (0 ≤ s7 ∧ s7 < ((l_1l : Nat) : Int)) ∧
 ∃ x11 : ByteArray, w8.cell? (a10.add ((s7).toNat * 7)) = some (.string x11) ∧
 ∃ x12 : Int, w8.cell? ((a10.add ((s7).toNat * 7)).add 1) = some (.int .i64 x12) ∧
 ∃ x13 : Int, w8.cell? ((a10.add ((s7).toNat * 7)).add 2) = some (.int .i64 x13) ∧
 ∃ x14 : ByteArray, w8.cell? ((a10.add ((s7).toNat * 7)).add 3) = some (.string x14) ∧
 ∃ (x15 : Option Addr) (l16 c17 : Nat), w8.cell? ((a10.add ((s7).toNat * 7)).add 4) = some (.slice x15 l16 c17) ∧
 ∃ (x18 : Option Addr) (l19 c20 : Nat), w8.cell? ((a10.add ((s7).toNat * 7)).add 5) = some (.slice x18 l19 c20) ∧
 ∃ (x21 : Option Addr) (l22 c23 : Nat), w8.cell? ((a10.add ((s7).toNat * 7)).add 6) = some (.slice x21 l22 c23) ∧
 (New w8 (.cells #[(.string (⟨#[]⟩ : ByteArray)), (.int .i64 (0 : Int)), (.int .i64 (0 : Int)), (.string (⟨#[]⟩ : ByteArray)), (.slice none 0 0), (.slice none 0 0), (.slice none 0 0)] t_api_Field (0, 0)) fun b24 w25 =>
 (St w25 ⟨b24, 0, none⟩ (.string x11) fun w26 =>
 (St w26 ⟨b24, 1, none⟩ (.int .i64 x12) fun w27 =>
 (St w27 ⟨b24, 2, none⟩ (.int .i64 x13) fun w28 =>
 (St w28 ⟨b24, 3, none⟩ (.string x14) fun w29 =>
 (St w29 ⟨b24, 4, none⟩ (.slice x15 l16 c17) fun w30 =>
 (St w30 ⟨b24, 5, none⟩ (.slice x18 l19 c20) fun w31 =>
 (St w31 ⟨b24, 6, none⟩ (.slice x21 l22 c23) fun w32 =>
 ∃ x33 : ByteArray, w32.cell? ⟨b24, 0, none⟩ = some (.string x33) ∧
 (Prim pg (Instr.lookup t_map_string_struct (.map (some b4)) (.string x33) true) w32 fun v34 w35 =>
 ∃ y36 : Bool, v34 = (.tuple #[(.agg #[]), (.bool y36)]) ∧
 (New w35 (.cells #[] t_struct (0, 0)) fun b37 w38 =>
 (Meet (σ := Bool) (fun J39 =>
 ∃ x42 : ByteArray, w38.cell? ⟨b24, 0, none⟩ = some (.string x42) ∧
 (CallR pg f_unicode_utf8_ValidString [(.string x42)] w38 (fun ch w => R (.panicked ch) w) fun v43 w44 =>
 ∃ y45 : Bool, v43 = (.bool y45) ∧
 (cond y45
 (∃ x46 : ByteArray, w44.cell? ⟨b24, 0, none⟩ = some (.string x46) ∧
 (cond (decide (((x46.size : Nat) : Int) ≤ (120 : Int)))
 (∃ x47 : ByteArray, w44.cell? ⟨b24, 0, none⟩ = some (.string x47) ∧
 (Prim pg (Go.convert t_string t_Suint8 (.string x47)) w44 fun v48 w49 =>
 ∃ (y50 : Option Addr) (l51 c52 : Nat), v48 = (.slice y50 l51 c52) ∧
 (CallR pg f_bytes_IndexByte [(.slice y50 l51 c52), (.int .u8 (0 : Int))] w49 (fun ch w => R (.panicked ch) w) fun v53 w54 =>
 ∃ y55 : Int, v53 = (.int .i64 y55) ∧
 J39 (decide (y55 < (0 : Int))) w54)))
 (J39 false w44)))
 (J39 false w44))))
 (fun s40 w41 =>
 ∀ j56 : Nat → Value, (Meet (σ := Unit) (fun J57 =>
 (cond s40
 ((CallR pg f_bson_must [(.bool (!y36)), (.int .i64 (1 : Int))] w41 (fun ch w => R (.panicked ch) w) fun v60 w61 =>
 v60 = (.tuple #[]) ∧
 J57 () w61))
 ((CallR pg f_bson_must [(.bool false), (.int .i64 (1 : Int))] w41 (fun ch w => R (.panicked ch) w) fun v62 w63 =>
 v62 = (.tuple #[]) ∧
 J57 () w63))))
 (fun s58 w59 =>
 ∀ j64 : Nat → Value, ∃ x65 : ByteArray, w59.cell? ⟨b24, 0, none⟩ = some (.string x65) ∧
 (PrimU pg (Instr.mapUpdate t_map_string_struct (.map (some b4)) (.string x65) (.agg #[])) w59 fun w66 =>
 ∃ x67 : ByteArray, w66.cell? ⟨b24, 0, none⟩ = some (.string x67) ∧
 (CallR pg f_Pbson_weigher_add [(.pointer w_0), (.int .i64 (IntKind.i64.wrap ((2 : Int) + ((x67.size : Nat) : Int))))] w66 (fun ch w => R (.panicked ch) w) fun v68 w69 =>
 v68 = (.tuple #[]) ∧
 ∃ x70 : Int, w69.cell? ⟨b24, 1, none⟩ = some (.int .i64 x70) ∧
 ∃ x71 : Int, w69.cell? ⟨b24, 2, none⟩ = some (.int .i64 x71) ∧
 ∃ x72 : ByteArray, w69.cell? ⟨b24, 3, none⟩ = some (.string x72) ∧
 ∃ (x73 : Option Addr) (l74 c75 : Nat), w69.cell? ⟨b24, 4, none⟩ = some (.slice x73 l74 c75) ∧
 ∃ (x76 : Option Addr) (l77 c78 : Nat), w69.cell? ⟨b24, 5, none⟩ = some (.slice x76 l77 c78) ∧
 ∃ (x79 : Option Addr) (l80 c81 : Nat), w69.cell? ⟨b24, 6, none⟩ = some (.slice x79 l80 c81) ∧
 (CallR pg f_Pbson_weigher_value [(.pointer w_0), (.agg #[(.int .i64 x70), (.int .i64 x71), (.string x72), (.slice x73 l74 c75), (.slice x76 l77 c78), (.slice x79 l80 c81)]), (.int .i64 deep_2)] w69 (fun ch w => R (.panicked ch) w) fun v82 w83 =>
 v82 = (.tuple #[]) ∧
 X6 (IntKind.i64.wrap (s7 + (1 : Int))) w83)))))))))))))))))))
 (R (.returned (.tuple #[])) w8))) (0 : Int) w5))))
theorem e_Pbson_weigher_fields (w_0 : Option Addr) (l_1 : Option Addr) (l_1l l_1c : Nat) (deep_2 : Int) (w : World) (R : Ending → World → Prop) : funcX pg T bl Tryd.f49 [(.pointer w_0), (.slice l_1 l_1l l_1c), (.int .i64 deep_2)] w R = c_Pbson_weigher_fields w_0  l_1 l_1l l_1c  deep_2  w R := by kernel_rfl
theorem of_Pbson_weigher_fields (w_0 : Option Addr) (l_1 : Option Addr) (l_1l l_1c : Nat) (deep_2 : Int) {w : World} {R : Ending → World → Prop} (h : c_Pbson_weigher_fields w_0  l_1 l_1l l_1c  deep_2  w R) : Calls pg f_Pbson_weigher_fields #[(.pointer w_0), (.slice l_1 l_1l l_1c), (.int .i64 deep_2)] w R :=
  funcX_of mixed tok blok Tryd.func49 (args := [(.pointer w_0), (.slice l_1 l_1l l_1c), (.int .i64 deep_2)]) (e_Pbson_weigher_fields w_0  l_1 l_1l l_1c  deep_2  w R) h
/-- cmp.Compare[int] -/
def c_cmp_Compare_int (x_0 : Int) (y_1 : Int) (w : World) (R : Ending → World → Prop) : Prop :=
 (CallR pg f_cmp_isNaN_int [(.int .i64 x_0)] w (fun ch w => R (.panicked ch) w) fun v0 w1 =>
 ∃ y2 : Bool, v0 = (.bool y2) ∧
 (CallR pg f_cmp_isNaN_int [(.int .i64 y_1)] w1 (fun ch w => R (.panicked ch) w) fun v3 w4 =>
 ∃ y5 : Bool, v3 = (.bool y5) ∧
 (cond y2
 ((cond y5
 (R (.returned (.int .i64 (0 : Int))) w4)
 (R (.returned (.int .i64 (-1 : Int))) w4)))
 ((cond y5
 (R (.returned (.int .i64 (1 : Int))) w4)
 ((cond (decide (x_0 < y_1))
 (R (.returned (.int .i64 (-1 : Int))) w4)
 ((cond (decide (x_0 > y_1))
 (R (.returned (.int .i64 (1 : Int))) w4)
 (R (.returned (.int .i64 (0 : Int))) w4))))))))))
theorem e_cmp_Compare_int (x_0 : Int) (y_1 : Int) (w : World) (R : Ending → World → Prop) : funcX pg T bl Tryd.f50 [(.int .i64 x_0), (.int .i64 y_1)] w R = c_cmp_Compare_int x_0  y_1  w R := by kernel_rfl
theorem of_cmp_Compare_int (x_0 : Int) (y_1 : Int) {w : World} {R : Ending → World → Prop} (h : c_cmp_Compare_int x_0  y_1  w R) : Calls pg f_cmp_Compare_int #[(.int .i64 x_0), (.int .i64 y_1)] w R :=
  funcX_of mixed tok blok Tryd.func50 (args := [(.int .i64 x_0), (.int .i64 y_1)]) (e_cmp_Compare_int x_0  y_1  w R) h
/-- aqueduct/order.Class -/
def c_order_Class (kind_0 : Int) (w : World) (R : Ending → World → Prop) : Prop :=
 (Meet (σ := Bool) (fun J0 =>
 (cond (kind_0 == (0 : Int))
 (J0 true w)
 ((cond (kind_0 == (1 : Int))
 (J0 true w)
 (J0 (kind_0 == (2 : Int)) w)))))
 (fun s1 w2 =>
 ∀ j3 : Nat → Value, (cond s1
 (R (.returned (.int .i64 kind_0)) w2)
 ((Meet (σ := Bool) (fun J4 =>
 (cond (kind_0 == (3 : Int))
 (J4 true w2)
 (J4 (kind_0 == (4 : Int)) w2)))
 (fun s5 w6 =>
 ∀ j7 : Nat → Value, (cond s5
 (R (.returned (.int .i64 (3 : Int))) w6)
 ((Meet (σ := Bool) (fun J8 =>
 (cond (kind_0 == (5 : Int))
 (J8 true w6)
 ((cond (kind_0 == (6 : Int))
 (J8 true w6)
 ((cond (kind_0 == (7 : Int))
 (J8 true w6)
 ((cond (kind_0 == (8 : Int))
 (J8 true w6)
 ((cond (kind_0 == (9 : Int))
 (J8 true w6)
 ((cond (kind_0 == (10 : Int))
 (J8 true w6)
 ((cond (kind_0 == (11 : Int))
 (J8 true w6)
 (J8 (kind_0 == (12 : Int)) w6)))))))))))))))
 (fun s9 w10 =>
 ∀ j11 : Nat → Value, (cond s9
 (R (.returned (.int .i64 (IntKind.i64.wrap (kind_0 - (1 : Int))))) w10)
 (R (.returned (.int .i64 (-1 : Int))) w10))))))))))))
theorem e_order_Class (kind_0 : Int) (w : World) (R : Ending → World → Prop) : funcX pg T bl Tryd.f51 [(.int .i64 kind_0)] w R = c_order_Class kind_0  w R := by kernel_rfl
theorem of_order_Class (kind_0 : Int) {w : World} {R : Ending → World → Prop} (h : c_order_Class kind_0  w R) : Calls pg f_order_Class #[(.int .i64 kind_0)] w R :=
  funcX_of mixed tok blok Tryd.func51 (args := [(.int .i64 kind_0)]) (e_order_Class kind_0  w R) h
/-- aqueduct/num.number -/
def c_num_number (v_0x0 : Int) (v_0x1 : Int) (v_0x2 : ByteArray) (v_0x3 : Option Addr) (v_0x3l v_0x3c : Nat) (v_0x4 : Option Addr) (v_0x4l v_0x4c : Nat) (v_0x5 : Option Addr) (v_0x5l v_0x5c : Nat) (w : World) (R : Ending → World → Prop) : Prop :=
 (New w (.cells #[(.int .i64 v_0x0), (.int .i64 v_0x1), (.string v_0x2), (.slice v_0x3 v_0x3l v_0x3c), (.slice v_0x4 v_0x4l v_0x4c), (.slice v_0x5 v_0x5l v_0x5c)] t_api_Value (0, 0)) fun b0 w1 =>
 (Meet (σ := Bool) (fun J2 =>
 ∃ x5 : Int, w1.cell? ⟨b0, 0, none⟩ = some (.int .i64 x5) ∧
 (cond (x5 == (3 : Int))
 (J2 true w1)
 (∃ x6 : Int, w1.cell? ⟨b0, 0, none⟩ = some (.int .i64 x6) ∧
 J2 (x6 == (4 : Int)) w1)))
 (fun s3 w4 =>
 ∀ j7 : Nat → Value, R (.returned (.bool s3)) w4)))
theorem e_num_number (v_0x0 : Int) (v_0x1 : Int) (v_0x2 : ByteArray) (v_0x3 : Option Addr) (v_0x3l v_0x3c : Nat) (v_0x4 : Option Addr) (v_0x4l v_0x4c : Nat) (v_0x5 : Option Addr) (v_0x5l v_0x5c : Nat) (w : World) (R : Ending → World → Prop) : funcX pg T bl Tryd.f56 [(.agg #[(.int .i64 v_0x0), (.int .i64 v_0x1), (.string v_0x2), (.slice v_0x3 v_0x3l v_0x3c), (.slice v_0x4 v_0x4l v_0x4c), (.slice v_0x5 v_0x5l v_0x5c)])] w R = c_num_number v_0x0  v_0x1  v_0x2  v_0x3 v_0x3l v_0x3c  v_0x4 v_0x4l v_0x4c  v_0x5 v_0x5l v_0x5c  w R := by kernel_rfl
theorem of_num_number (v_0x0 : Int) (v_0x1 : Int) (v_0x2 : ByteArray) (v_0x3 : Option Addr) (v_0x3l v_0x3c : Nat) (v_0x4 : Option Addr) (v_0x4l v_0x4c : Nat) (v_0x5 : Option Addr) (v_0x5l v_0x5c : Nat) {w : World} {R : Ending → World → Prop} (h : c_num_number v_0x0  v_0x1  v_0x2  v_0x3 v_0x3l v_0x3c  v_0x4 v_0x4l v_0x4c  v_0x5 v_0x5l v_0x5c  w R) : Calls pg f_num_number #[(.agg #[(.int .i64 v_0x0), (.int .i64 v_0x1), (.string v_0x2), (.slice v_0x3 v_0x3l v_0x3c), (.slice v_0x4 v_0x4l v_0x4c), (.slice v_0x5 v_0x5l v_0x5c)])] w R :=
  funcX_of mixed tok blok Tryd.func56 (args := [(.agg #[(.int .i64 v_0x0), (.int .i64 v_0x1), (.string v_0x2), (.slice v_0x3 v_0x3l v_0x3c), (.slice v_0x4 v_0x4l v_0x4c), (.slice v_0x5 v_0x5l v_0x5c)])]) (e_num_number v_0x0  v_0x1  v_0x2  v_0x3 v_0x3l v_0x3c  v_0x4 v_0x4l v_0x4c  v_0x5 v_0x5l v_0x5c  w R) h
/-- internal/strconv.FormatInt -/
def c_internal_strconv_FormatInt (i_0 : Int) (base_1 : Int) (w : World) (R : Ending → World → Prop) : Prop :=
 (cond (base_1 == (10 : Int))
 ((Meet (σ := Bool) (fun J0 =>
 (cond (decide ((0 : Int) ≤ i_0))
 (J0 (decide (i_0 < (100 : Int))) w)
 (J0 false w)))
 (fun s1 w2 =>
 ∀ j3 : Nat → Value, (cond s1
 ((CallR pg f_internal_strconv_small [(.int .i64 i_0)] w2 (fun ch w => R (.panicked ch) w) fun v4 w5 =>
 ∃ y6 : ByteArray, v4 = (.string y6) ∧
 R (.returned (.string y6)) w5))
 ((New w2 (.cells #[(.int .u8 (0 : Int)), (.int .u8 (0 : Int)), (.int .u8 (0 : Int)), (.int .u8 (0 : Int)), (.int .u8 (0 : Int)), (.int .u8 (0 : Int)), (.int .u8 (0 : Int)), (.int .u8 (0 : Int)), (.int .u8 (0 : Int)), (.int .u8 (0 : Int)), (.int .u8 (0 : Int)), (.int .u8 (0 : Int)), (.int .u8 (0 : Int)), (.int .u8 (0 : Int)), (.int .u8 (0 : Int)), (.int .u8 (0 : Int)), (.int .u8 (0 : Int)), (.int .u8 (0 : Int)), (.int .u8 (0 : Int)), (.int .u8 (0 : Int)), (.int .u8 (0 : Int)), (.int .u8 (0 : Int)), (.int .u8 (0 : Int)), (.int .u8 (0 : Int))] t_24_uint8 (0, 0)) fun b7 w8 =>
 (Meet (σ := Int) (fun J9 =>
 (cond (decide (i_0 < (0 : Int)))
 (J9 (IntKind.u64.wrap (0 - (IntKind.u64.wrap i_0))) w8)
 (J9 (IntKind.u64.wrap i_0) w8)))
 (fun s10 w11 =>
 ∀ j12 : Nat → Value, (CallR pg f_internal_strconv_numDigits [(.int .u64 s10)] w11 (fun ch w => R (.panicked ch) w) fun v13 w14 =>
 ∃ y15 : Int, v13 = (.int .i64 y15) ∧
 False)))))))))
 ((CallR pg f_internal_strconv_formatBits [(.slice none 0 0), (.int .u64 (IntKind.u64.wrap i_0)), (.int .i64 base_1), (.bool (decide (i_0 < (0 : Int)))), (.bool false)] w (fun ch w => R (.panicked ch) w) fun v16 w17 =>
 ∃ (y18 : Option Addr) (l19 c20 : Nat), ∃ y21 : ByteArray, v16 = (.tuple #[(.slice y18 l19 c20), (.string y21)]) ∧
 R (.returned (.string y21)) w17)))
theorem e_internal_strconv_FormatInt (i_0 : Int) (base_1 : Int) (w : World) (R : Ending → World → Prop) : funcX pg T bl Tryd.f58 [(.int .i64 i_0), (.int .i64 base_1)] w R = c_internal_strconv_FormatInt i_0  base_1  w R := by kernel_rfl
theorem of_internal_strconv_FormatInt (i_0 : Int) (base_1 : Int) {w : World} {R : Ending → World → Prop} (h : c_internal_strconv_FormatInt i_0  base_1  w R) : Calls pg f_internal_strconv_FormatInt #[(.int .i64 i_0), (.int .i64 base_1)] w R :=
  funcX_of mixed tok blok Tryd.func58 (args := [(.int .i64 i_0), (.int .i64 base_1)]) (e_internal_strconv_FormatInt i_0  base_1  w R) h
/-- aqueduct/bson.must -/
def c_bson_must (ok_0 : Bool) (e_1 : Int) (w : World) (R : Ending → World → Prop) : Prop :=
 (cond (!ok_0)
 (R (.panicked [{ v := (.iface t_api_Errno (.int .i64 e_1)), recovered := false }]) w)
 (R (.returned (.tuple #[])) w))
theorem e_bson_must (ok_0 : Bool) (e_1 : Int) (w : World) (R : Ending → World → Prop) : funcX pg T bl Tryd.f60 [(.bool ok_0), (.int .i64 e_1)] w R = c_bson_must ok_0  e_1  w R := by kernel_rfl
theorem of_bson_must (ok_0 : Bool) (e_1 : Int) {w : World} {R : Ending → World → Prop} (h : c_bson_must ok_0  e_1  w R) : Calls pg f_bson_must #[(.bool ok_0), (.int .i64 e_1)] w R :=
  funcX_of mixed tok blok Tryd.func60 (args := [(.bool ok_0), (.int .i64 e_1)]) (e_bson_must ok_0  e_1  w R) h
/-- unicode/utf8.ValidString -/
def c_unicode_utf8_ValidString (s_0 : ByteArray) (w : World) (R : Ending → World → Prop) : Prop :=
 (Eng.Loop (σ := ByteArray × Bool) (fun X0 s1 w2 =>
 ∀ j3 : Nat → Value, (cond (decide (((s1.1.size : Nat) : Int) > (0 : Int)))
 ((0 ≤ (0 : Int) ∧ (0 : Int) < ((s1.1.size : Nat) : Int)) ∧
 (cond (decide ((byteAt s1.1 ((0 : Int)).toNat : Nat) < (128 : Int)))
 ((0 ≤ (1 : Int) ∧ (1 : Int) ≤ ((s1.1.size : Nat) : Int)) ∧
 (Meet (σ := ByteArray) (fun J4 =>
 (Meet (σ := Bool) (fun J7 =>
 (cond (decide ((((s1.1.extract ((1 : Int)).toNat s1.1.size).size : Nat) : Int) > (8 : Int)))
 ((CallR pg f_unicode_utf8_word_string [(.string (s1.1.extract ((1 : Int)).toNat s1.1.size))] w2 (fun ch w => R (.panicked ch) w) fun v10 w11 =>
 ∃ y12 : Int, v10 = (.int .u64 y12) ∧
 J7 ((IntKind.u64.wrap (BitVec.ofInt IntKind.u64.bits y12 &&& BitVec.ofInt IntKind.u64.bits (9259542123273814144 : Int)).toNat) == (0 : Int)) w11))
 (J7 false w2)))
 (fun s8 w9 =>
 ∀ j13 : Nat → Value, (cond s8
 ((0 ≤ (8 : Int) ∧ (8 : Int) ≤ (((s1.1.extract ((1 : Int)).toNat s1.1.size).size : Nat) : Int)) ∧
 (Meet (σ := Bool) (fun J14 =>
 (Drew w9 fun w17 =>
 (cond (decide (((((s1.1.extract ((1 : Int)).toNat s1.1.size).extract ((8 : Int)).toNat (s1.1.extract ((1 : Int)).toNat s1.1.size).size).size : Nat) : Int) > (16 : Int)))
 ((0 ≤ (8 : Int) ∧ (8 : Int) ≤ ((((s1.1.extract ((1 : Int)).toNat s1.1.size).extract ((8 : Int)).toNat (s1.1.extract ((1 : Int)).toNat s1.1.size).size).size : Nat) : Int)) ∧
 (CallR pg f_unicode_utf8_word_string [(.string ((s1.1.extract ((1 : Int)).toNat s1.1.size).extract ((8 : Int)).toNat (s1.1.extract ((1 : Int)).toNat s1.1.size).size))] w17 (fun ch w => R (.panicked ch) w) fun v18 w19 =>
 ∃ y20 : Int, v18 = (.int .u64 y20) ∧
 (CallR pg f_unicode_utf8_word_string [(.string (((s1.1.extract ((1 : Int)).toNat s1.1.size).extract ((8 : Int)).toNat (s1.1.extract ((1 : Int)).toNat s1.1.size).size).extract ((8 : Int)).toNat ((s1.1.extract ((1 : Int)).toNat s1.1.size).extract ((8 : Int)).toNat (s1.1.extract ((1 : Int)).toNat s1.1.size).size).size))] w19 (fun ch w => R (.panicked ch) w) fun v21 w22 =>
 ∃ y23 : Int, v21 = (.int .u64 y23) ∧
 J14 ((IntKind.u64.wrap (BitVec.ofInt IntKind.u64.bits (IntKind.u64.wrap (BitVec.ofInt IntKind.u64.bits y20 ||| BitVec.ofInt IntKind.u64.bits y23).toNat) &&& BitVec.ofInt IntKind.u64.bits (9259542123273814144 : Int)).toNat) == (0 : Int)) w22)))
 (J14 false w17))))
 (fun s15 w16 =>
 ∀ j24 : Nat → Value, (cond s15
 ((0 ≤ (16 : Int) ∧ (16 : Int) ≤ ((((s1.1.extract ((1 : Int)).toNat s1.1.size).extract ((8 : Int)).toNat (s1.1.extract ((1 : Int)).toNat s1.1.size).size).size : Nat) : Int)) ∧
 (Eng.Loop (σ := ByteArray) (fun X25 s26 w27 =>
 ∀ j28 : Nat → Value, (Meet (σ := Bool) (fun J29 =>
 (Drew w27 fun w32 =>
 (cond (decide (((s26.size : Nat) : Int) > (32 : Int)))
 ((0 ≤ (8 : Int) ∧ (8 : Int) ≤ ((s26.size : Nat) : Int)) ∧
 (0 ≤ (16 : Int) ∧ (16 : Int) ≤ ((s26.size : Nat) : Int)) ∧
 (0 ≤ (24 : Int) ∧ (24 : Int) ≤ ((s26.size : Nat) : Int)) ∧
 (CallR pg f_unicode_utf8_word_string [(.string s26)] w32 (fun ch w => R (.panicked ch) w) fun v33 w34 =>
 ∃ y35 : Int, v33 = (.int .u64 y35) ∧
 (CallR pg f_unicode_utf8_word_string [(.string (s26.extract ((8 : Int)).toNat s26.size))] w34 (fun ch w => R (.panicked ch) w) fun v36 w37 =>
 ∃ y38 : Int, v36 = (.int .u64 y38) ∧
 (CallR pg f_unicode_utf8_word_string [(.string (s26.extract ((16 : Int)).toNat s26.size))] w37 (fun ch w => R (.panicked ch) w) fun v39 w40 =>
 ∃ y41 : Int, v39 = (.int .u64 y41) ∧
 (CallR pg f_unicode_utf8_word_string [(.string (s26.extract ((24 : Int)).toNat s26.size))] w40 (fun ch w => R (.panicked ch) w) fun v42 w43 =>
 ∃ y44 : Int, v42 = (.int .u64 y44) ∧
 J29 ((IntKind.u64.wrap (BitVec.ofInt IntKind.u64.bits (IntKind.u64.wrap (BitVec.ofInt IntKind.u64.bits (IntKind.u64.wrap (BitVec.ofInt IntKind.u64.bits y35 ||| BitVec.ofInt IntKind.u64.bits y38).toNat) ||| BitVec.ofInt IntKind.u64.bits (IntKind.u64.wrap (BitVec.ofInt IntKind.u64.bits y41 ||| BitVec.ofInt IntKind.u64.bits y44).toNat)).toNat) &&& BitVec.ofInt IntKind.u64.bits (9259542123273814144 : Int)).toNat) == (0 : Int)) w43)))))
 (J29 false w32))))
 (fun s30 w31 =>
 ∀ j45 : Nat → Value, (cond s30
 ((0 ≤ (32 : Int) ∧ (32 : Int) ≤ ((s26.size : Nat) : Int)) ∧
 X25 (s26.extract ((32 : Int)).toNat s26.size) w31)
 (J4 s26 w31))))) (((s1.1.extract ((1 : Int)).toNat s1.1.size).extract ((8 : Int)).toNat (s1.1.extract ((1 : Int)).toNat s1.1.size).size).extract ((16 : Int)).toNat ((s1.1.extract ((1 : Int)).toNat s1.1.size).extract ((8 : Int)).toNat (s1.1.extract ((1 : Int)).toNat s1.1.size).size).size) w16))
 (J4 ((s1.1.extract ((1 : Int)).toNat s1.1.size).extract ((8 : Int)).toNat (s1.1.extract ((1 : Int)).toNat s1.1.size).size) w16)))))
 (J4 (s1.1.extract ((1 : Int)).toNat s1.1.size) w9)))))
 (fun s5 w6 =>
 ∀ j46 : Nat → Value, X0 (s5, s1.2) w6)))
 (False)))
 (R (.returned (.bool true)) w2))) (s_0, false) w)
theorem e_unicode_utf8_ValidString (s_0 : ByteArray) (w : World) (R : Ending → World → Prop) : funcX pg T bl Tryd.f62 [(.string s_0)] w R = c_unicode_utf8_ValidString s_0  w R := by kernel_rfl
theorem of_unicode_utf8_ValidString (s_0 : ByteArray) {w : World} {R : Ending → World → Prop} (h : c_unicode_utf8_ValidString s_0  w R) : Calls pg f_unicode_utf8_ValidString #[(.string s_0)] w R :=
  funcX_of mixed tok blok Tryd.func62 (args := [(.string s_0)]) (e_unicode_utf8_ValidString s_0  w R) h
/-- bytes.IndexByte -/
def c_bytes_IndexByte (b_0 : Option Addr) (b_0l b_0c : Nat) (c_1 : Int) (w : World) (R : Ending → World → Prop) : Prop :=
 (CallX pg f_internal_bytealg_IndexByte [(.slice b_0 b_0l b_0c), (.int .u8 c_1)] w (fun ch w => R (.panicked ch) w) fun v0 w1 =>
 ∃ y2 : Int, v0 = (.int .i64 y2) ∧
 R (.returned (.int .i64 y2)) w1)
theorem e_bytes_IndexByte (b_0 : Option Addr) (b_0l b_0c : Nat) (c_1 : Int) (w : World) (R : Ending → World → Prop) : funcX pg T bl Tryd.f63 [(.slice b_0 b_0l b_0c), (.int .u8 c_1)] w R = c_bytes_IndexByte b_0 b_0l b_0c  c_1  w R := by kernel_rfl
theorem of_bytes_IndexByte (b_0 : Option Addr) (b_0l b_0c : Nat) (c_1 : Int) {w : World} {R : Ending → World → Prop} (h : c_bytes_IndexByte b_0 b_0l b_0c  c_1  w R) : Calls pg f_bytes_IndexByte #[(.slice b_0 b_0l b_0c), (.int .u8 c_1)] w R :=
  funcX_of mixed tok blok Tryd.func63 (args := [(.slice b_0 b_0l b_0c), (.int .u8 c_1)]) (e_bytes_IndexByte b_0 b_0l b_0c  c_1  w R) h
/-- cmp.isNaN[int] -/
def c_cmp_isNaN_int (x_0 : Int) (w : World) (R : Ending → World → Prop) : Prop :=
 R (.returned (.bool (x_0 != x_0))) w
theorem e_cmp_isNaN_int (x_0 : Int) (w : World) (R : Ending → World → Prop) : funcX pg T bl Tryd.f65 [(.int .i64 x_0)] w R = c_cmp_isNaN_int x_0  w R := by kernel_rfl
theorem of_cmp_isNaN_int (x_0 : Int) {w : World} {R : Ending → World → Prop} (h : c_cmp_isNaN_int x_0  w R) : Calls pg f_cmp_isNaN_int #[(.int .i64 x_0)] w R :=
  funcX_of mixed tok blok Tryd.func65 (args := [(.int .i64 x_0)]) (e_cmp_isNaN_int x_0  w R) h
/-- aqueduct/order.way$1 -/
def c_order_way_1 (a_0x0 : Int) (a_0x1 : Int) (a_0x2 : ByteArray) (a_0x3 : Option Addr) (a_0x3l a_0x3c : Nat) (a_0x4 : Option Addr) (a_0x4l a_0x4c : Nat) (a_0x5 : Option Addr) (a_0x5l a_0x5c : Nat) (b_1x0 : Int) (b_1x1 : Int) (b_1x2 : ByteArray) (b_1x3 : Option Addr) (b_1x3l b_1x3c : Nat) (b_1x4 : Option Addr) (b_1x4l b_1x4c : Nat) (b_1x5 : Option Addr) (b_1x5l b_1x5c : Nat) (w : World) (R : Ending → World → Prop) : Prop :=
 (New w (.cells #[(.int .i64 a_0x0), (.int .i64 a_0x1), (.string a_0x2), (.slice a_0x3 a_0x3l a_0x3c), (.slice a_0x4 a_0x4l a_0x4c), (.slice a_0x5 a_0x5l a_0x5c)] t_api_Value (0, 0)) fun b0 w1 =>
 (New w1 (.cells #[(.int .i64 b_1x0), (.int .i64 b_1x1), (.string b_1x2), (.slice b_1x3 b_1x3l b_1x3c), (.slice b_1x4 b_1x4l b_1x4c), (.slice b_1x5 b_1x5l b_1x5c)] t_api_Value (0, 0)) fun b2 w3 =>
 ∃ x4 : Int, w3.cell? ⟨b0, 1, none⟩ = some (.int .i64 x4) ∧
 ∃ x5 : Int, w3.cell? ⟨b2, 1, none⟩ = some (.int .i64 x5) ∧
 (CallR pg f_cmp_Compare_int64 [(.int .i64 x4), (.int .i64 x5)] w3 (fun ch w => R (.panicked ch) w) fun v6 w7 =>
 ∃ y8 : Int, v6 = (.int .i64 y8) ∧
 R (.returned (.int .i64 y8)) w7)))
theorem e_order_way_1 (a_0x0 : Int) (a_0x1 : Int) (a_0x2 : ByteArray) (a_0x3 : Option Addr) (a_0x3l a_0x3c : Nat) (a_0x4 : Option Addr) (a_0x4l a_0x4c : Nat) (a_0x5 : Option Addr) (a_0x5l a_0x5c : Nat) (b_1x0 : Int) (b_1x1 : Int) (b_1x2 : ByteArray) (b_1x3 : Option Addr) (b_1x3l b_1x3c : Nat) (b_1x4 : Option Addr) (b_1x4l b_1x4c : Nat) (b_1x5 : Option Addr) (b_1x5l b_1x5c : Nat) (w : World) (R : Ending → World → Prop) : funcX pg T bl Tryd.f66 [(.agg #[(.int .i64 a_0x0), (.int .i64 a_0x1), (.string a_0x2), (.slice a_0x3 a_0x3l a_0x3c), (.slice a_0x4 a_0x4l a_0x4c), (.slice a_0x5 a_0x5l a_0x5c)]), (.agg #[(.int .i64 b_1x0), (.int .i64 b_1x1), (.string b_1x2), (.slice b_1x3 b_1x3l b_1x3c), (.slice b_1x4 b_1x4l b_1x4c), (.slice b_1x5 b_1x5l b_1x5c)])] w R = c_order_way_1 a_0x0  a_0x1  a_0x2  a_0x3 a_0x3l a_0x3c  a_0x4 a_0x4l a_0x4c  a_0x5 a_0x5l a_0x5c  b_1x0  b_1x1  b_1x2  b_1x3 b_1x3l b_1x3c  b_1x4 b_1x4l b_1x4c  b_1x5 b_1x5l b_1x5c  w R := by kernel_rfl
theorem of_order_way_1 (a_0x0 : Int) (a_0x1 : Int) (a_0x2 : ByteArray) (a_0x3 : Option Addr) (a_0x3l a_0x3c : Nat) (a_0x4 : Option Addr) (a_0x4l a_0x4c : Nat) (a_0x5 : Option Addr) (a_0x5l a_0x5c : Nat) (b_1x0 : Int) (b_1x1 : Int) (b_1x2 : ByteArray) (b_1x3 : Option Addr) (b_1x3l b_1x3c : Nat) (b_1x4 : Option Addr) (b_1x4l b_1x4c : Nat) (b_1x5 : Option Addr) (b_1x5l b_1x5c : Nat) {w : World} {R : Ending → World → Prop} (h : c_order_way_1 a_0x0  a_0x1  a_0x2  a_0x3 a_0x3l a_0x3c  a_0x4 a_0x4l a_0x4c  a_0x5 a_0x5l a_0x5c  b_1x0  b_1x1  b_1x2  b_1x3 b_1x3l b_1x3c  b_1x4 b_1x4l b_1x4c  b_1x5 b_1x5l b_1x5c  w R) : Calls pg f_order_way_1 #[(.agg #[(.int .i64 a_0x0), (.int .i64 a_0x1), (.string a_0x2), (.slice a_0x3 a_0x3l a_0x3c), (.slice a_0x4 a_0x4l a_0x4c), (.slice a_0x5 a_0x5l a_0x5c)]), (.agg #[(.int .i64 b_1x0), (.int .i64 b_1x1), (.string b_1x2), (.slice b_1x3 b_1x3l b_1x3c), (.slice b_1x4 b_1x4l b_1x4c), (.slice b_1x5 b_1x5l b_1x5c)])] w R :=
  funcX_of mixed tok blok Tryd.func66 (args := [(.agg #[(.int .i64 a_0x0), (.int .i64 a_0x1), (.string a_0x2), (.slice a_0x3 a_0x3l a_0x3c), (.slice a_0x4 a_0x4l a_0x4c), (.slice a_0x5 a_0x5l a_0x5c)]), (.agg #[(.int .i64 b_1x0), (.int .i64 b_1x1), (.string b_1x2), (.slice b_1x3 b_1x3l b_1x3c), (.slice b_1x4 b_1x4l b_1x4c), (.slice b_1x5 b_1x5l b_1x5c)])]) (e_order_way_1 a_0x0  a_0x1  a_0x2  a_0x3 a_0x3l a_0x3c  a_0x4 a_0x4l a_0x4c  a_0x5 a_0x5l a_0x5c  b_1x0  b_1x1  b_1x2  b_1x3 b_1x3l b_1x3c  b_1x4 b_1x4l b_1x4c  b_1x5 b_1x5l b_1x5c  w R) h
/-- cmp.Compare[string] -/
def c_cmp_Compare_string (x_0 : ByteArray) (y_1 : ByteArray) (w : World) (R : Ending → World → Prop) : Prop :=
 (CallR pg f_cmp_isNaN_string [(.string x_0)] w (fun ch w => R (.panicked ch) w) fun v0 w1 =>
 ∃ y2 : Bool, v0 = (.bool y2) ∧
 (CallR pg f_cmp_isNaN_string [(.string y_1)] w1 (fun ch w => R (.panicked ch) w) fun v3 w4 =>
 ∃ y5 : Bool, v3 = (.bool y5) ∧
 (cond y2
 ((cond y5
 (R (.returned (.int .i64 (0 : Int))) w4)
 (R (.returned (.int .i64 (-1 : Int))) w4)))
 ((cond y5
 (R (.returned (.int .i64 (1 : Int))) w4)
 ((cond (Op.bytesLess x_0.toList y_1.toList)
 (R (.returned (.int .i64 (-1 : Int))) w4)
 ((cond (!(Op.bytesLess x_0.toList y_1.toList || x_0.toList == y_1.toList))
 (R (.returned (.int .i64 (1 : Int))) w4)
 (R (.returned (.int .i64 (0 : Int))) w4))))))))))
theorem e_cmp_Compare_string (x_0 : ByteArray) (y_1 : ByteArray) (w : World) (R : Ending → World → Prop) : funcX pg T bl Tryd.f69 [(.string x_0), (.string y_1)] w R = c_cmp_Compare_string x_0  y_1  w R := by kernel_rfl
theorem of_cmp_Compare_string (x_0 : ByteArray) (y_1 : ByteArray) {w : World} {R : Ending → World → Prop} (h : c_cmp_Compare_string x_0  y_1  w R) : Calls pg f_cmp_Compare_string #[(.string x_0), (.string y_1)] w R :=
  funcX_of mixed tok blok Tryd.func69 (args := [(.string x_0), (.string y_1)]) (e_cmp_Compare_string x_0  y_1  w R) h
/-- slices.CompareFunc[[]aqueduct/api.Field,[]aqueduct/api.Field,aqueduct/api.Field,aqueduct/api.Field] -/
def c_slices_CompareFunc_Sapi_Field_Sapi_Field_api_Field_api_Field (s1_0 : Option Addr) (s1_0l s1_0c : Nat) (s2_1 : Option Addr) (s2_1l s2_1c : Nat) (cmp_2 : Value) (w : World) (R : Ending → World → Prop) : Prop :=
 (Eng.Loop (σ := Int × Int) (fun X0 s1 w2 =>
 ∀ j3 : Nat → Value, (cond (decide (s1.2 < ((s1_0l : Nat) : Int)))
 ((withSome s1_0 fun (a4 : Addr) =>
 (0 ≤ s1.2 ∧ s1.2 < ((s1_0l : Nat) : Int)) ∧
 ∃ x5 : ByteArray, w2.cell? (a4.add ((s1.2).toNat * 7)) = some (.string x5) ∧
 ∃ x6 : Int, w2.cell? ((a4.add ((s1.2).toNat * 7)).add 1) = some (.int .i64 x6) ∧
 ∃ x7 : Int, w2.cell? ((a4.add ((s1.2).toNat * 7)).add 2) = some (.int .i64 x7) ∧
 ∃ x8 : ByteArray, w2.cell? ((a4.add ((s1.2).toNat * 7)).add 3) = some (.string x8) ∧
 ∃ (x9 : Option Addr) (l10 c11 : Nat), w2.cell? ((a4.add ((s1.2).toNat * 7)).add 4) = some (.slice x9 l10 c11) ∧
 ∃ (x12 : Option Addr) (l13 c14 : Nat), w2.cell? ((a4.add ((s1.2).toNat * 7)).add 5) = some (.slice x12 l13 c14) ∧
 ∃ (x15 : Option Addr) (l16 c17 : Nat), w2.cell? ((a4.add ((s1.2).toNat * 7)).add 6) = some (.slice x15 l16 c17) ∧
 (New w2 (.cells #[(.string (⟨#[]⟩ : ByteArray)), (.int .i64 (0 : Int)), (.int .i64 (0 : Int)), (.string (⟨#[]⟩ : ByteArray)), (.slice none 0 0), (.slice none 0 0), (.slice none 0 0)] t_api_Field (0, 0)) fun b18 w19 =>
 (St w19 ⟨b18, 0, none⟩ (.string x5) fun w20 =>
 (St w20 ⟨b18, 1, none⟩ (.int .i64 x6) fun w21 =>
 (St w21 ⟨b18, 2, none⟩ (.int .i64 x7) fun w22 =>
 (St w22 ⟨b18, 3, none⟩ (.string x8) fun w23 =>
 (St w23 ⟨b18, 4, none⟩ (.slice x9 l10 c11) fun w24 =>
 (St w24 ⟨b18, 5, none⟩ (.slice x12 l13 c14) fun w25 =>
 (St w25 ⟨b18, 6, none⟩ (.slice x15 l16 c17) fun w26 =>
 (cond (decide (s1.2 ≥ ((s2_1l : Nat) : Int)))
 (R (.returned (.int .i64 (1 : Int))) w26)
 ((withSome s2_1 fun (a27 : Addr) =>
 (0 ≤ s1.2 ∧ s1.2 < ((s2_1l : Nat) : Int)) ∧
 ∃ x28 : ByteArray, w26.cell? (a27.add ((s1.2).toNat * 7)) = some (.string x28) ∧
 ∃ x29 : Int, w26.cell? ((a27.add ((s1.2).toNat * 7)).add 1) = some (.int .i64 x29) ∧
 ∃ x30 : Int, w26.cell? ((a27.add ((s1.2).toNat * 7)).add 2) = some (.int .i64 x30) ∧
 ∃ x31 : ByteArray, w26.cell? ((a27.add ((s1.2).toNat * 7)).add 3) = some (.string x31) ∧
 ∃ (x32 : Option Addr) (l33 c34 : Nat), w26.cell? ((a27.add ((s1.2).toNat * 7)).add 4) = some (.slice x32 l33 c34) ∧
 ∃ (x35 : Option Addr) (l36 c37 : Nat), w26.cell? ((a27.add ((s1.2).toNat * 7)).add 5) = some (.slice x35 l36 c37) ∧
 ∃ (x38 : Option Addr) (l39 c40 : Nat), w26.cell? ((a27.add ((s1.2).toNat * 7)).add 6) = some (.slice x38 l39 c40) ∧
 (New w26 (.cells #[(.string (⟨#[]⟩ : ByteArray)), (.int .i64 (0 : Int)), (.int .i64 (0 : Int)), (.string (⟨#[]⟩ : ByteArray)), (.slice none 0 0), (.slice none 0 0), (.slice none 0 0)] t_api_Field (0, 0)) fun b41 w42 =>
 (St w42 ⟨b41, 0, none⟩ (.string x28) fun w43 =>
 (St w43 ⟨b41, 1, none⟩ (.int .i64 x29) fun w44 =>
 (St w44 ⟨b41, 2, none⟩ (.int .i64 x30) fun w45 =>
 (St w45 ⟨b41, 3, none⟩ (.string x31) fun w46 =>
 (St w46 ⟨b41, 4, none⟩ (.slice x32 l33 c34) fun w47 =>
 (St w47 ⟨b41, 5, none⟩ (.slice x35 l36 c37) fun w48 =>
 (St w48 ⟨b41, 6, none⟩ (.slice x38 l39 c40) fun w49 =>
 ∃ x50 : ByteArray, w49.cell? ⟨b18, 0, none⟩ = some (.string x50) ∧
 ∃ x51 : Int, w49.cell? ⟨b18, 1, none⟩ = some (.int .i64 x51) ∧
 ∃ x52 : Int, w49.cell? ⟨b18, 2, none⟩ = some (.int .i64 x52) ∧
 ∃ x53 : ByteArray, w49.cell? ⟨b18, 3, none⟩ = some (.string x53) ∧
 ∃ (x54 : Option Addr) (l55 c56 : Nat), w49.cell? ⟨b18, 4, none⟩ = some (.slice x54 l55 c56) ∧
 ∃ (x57 : Option Addr) (l58 c59 : Nat), w49.cell? ⟨b18, 5, none⟩ = some (.slice x57 l58 c59) ∧
 ∃ (x60 : Option Addr) (l61 c62 : Nat), w49.cell? ⟨b18, 6, none⟩ = some (.slice x60 l61 c62) ∧
 ∃ x63 : ByteArray, w49.cell? ⟨b41, 0, none⟩ = some (.string x63) ∧
 ∃ x64 : Int, w49.cell? ⟨b41, 1, none⟩ = some (.int .i64 x64) ∧
 ∃ x65 : Int, w49.cell? ⟨b41, 2, none⟩ = some (.int .i64 x65) ∧
 ∃ x66 : ByteArray, w49.cell? ⟨b41, 3, none⟩ = some (.string x66) ∧
 ∃ (x67 : Option Addr) (l68 c69 : Nat), w49.cell? ⟨b41, 4, none⟩ = some (.slice x67 l68 c69) ∧
 ∃ (x70 : Option Addr) (l71 c72 : Nat), w49.cell? ⟨b41, 5, none⟩ = some (.slice x70 l71 c72) ∧
 ∃ (x73 : Option Addr) (l74 c75 : Nat), w49.cell? ⟨b41, 6, none⟩ = some (.slice x73 l74 c75) ∧
 (CallV pg bl cmp_2 [(.agg #[(.string x50), (.int .i64 x51), (.int .i64 x52), (.string x53), (.slice x54 l55 c56), (.slice x57 l58 c59), (.slice x60 l61 c62)]), (.agg #[(.string x63), (.int .i64 x64), (.int .i64 x65), (.string x66), (.slice x67 l68 c69), (.slice x70 l71 c72), (.slice x73 l74 c75)])] w49 (fun ch w => R (.panicked ch) w) fun v76 w77 =>
 ∃ y78 : Int, v76 = (.int .i64 y78) ∧
 (cond (y78 != (0 : Int))
 (R (.returned (.int .i64 y78)) w77)
 (X0 (s1.1, (IntKind.i64.wrap (s1.2 + (1 : Int)))) w77))))))))))))))))))))))))
 ((cond (decide (((s1_0l : Nat) : Int) < ((s2_1l : Nat) : Int)))
 (R (.returned (.int .i64 (-1 : Int))) w2)
 (R (.returned (.int .i64 (0 : Int))) w2))))) ((0 : Int), (0 : Int)) w)
theorem e_slices_CompareFunc_Sapi_Field_Sapi_Field_api_Field_api_Field (s1_0 : Option Addr) (s1_0l s1_0c : Nat) (s2_1 : Option Addr) (s2_1l s2_1c : Nat) (cmp_2 : Value) (w : World) (R : Ending → World → Prop) : funcX pg T bl Tryd.f71 [(.slice s1_0 s1_0l s1_0c), (.slice s2_1 s2_1l s2_1c), cmp_2] w R = c_slices_CompareFunc_Sapi_Field_Sapi_Field_api_Field_api_Field s1_0 s1_0l s1_0c  s2_1 s2_1l s2_1c  cmp_2  w R := by kernel_rfl
theorem of_slices_CompareFunc_Sapi_Field_Sapi_Field_api_Field_api_Field (s1_0 : Option Addr) (s1_0l s1_0c : Nat) (s2_1 : Option Addr) (s2_1l s2_1c : Nat) (cmp_2 : Value) {w : World} {R : Ending → World → Prop} (h : c_slices_CompareFunc_Sapi_Field_Sapi_Field_api_Field_api_Field s1_0 s1_0l s1_0c  s2_1 s2_1l s2_1c  cmp_2  w R) : Calls pg f_slices_CompareFunc_Sapi_Field_Sapi_Field_api_Field_api_Field #[(.slice s1_0 s1_0l s1_0c), (.slice s2_1 s2_1l s2_1c), cmp_2] w R :=
  funcX_of mixed tok blok Tryd.func71 (args := [(.slice s1_0 s1_0l s1_0c), (.slice s2_1 s2_1l s2_1c), cmp_2]) (e_slices_CompareFunc_Sapi_Field_Sapi_Field_api_Field_api_Field s1_0 s1_0l s1_0c  s2_1 s2_1l s2_1c  cmp_2  w R) h
/-- aqueduct/order.way$4 -/
def c_order_way_4 (a_0x0 : Int) (a_0x1 : Int) (a_0x2 : ByteArray) (a_0x3 : Option Addr) (a_0x3l a_0x3c : Nat) (a_0x4 : Option Addr) (a_0x4l a_0x4c : Nat) (a_0x5 : Option Addr) (a_0x5l a_0x5c : Nat) (b_1x0 : Int) (b_1x1 : Int) (b_1x2 : ByteArray) (b_1x3 : Option Addr) (b_1x3l b_1x3c : Nat) (b_1x4 : Option Addr) (b_1x4l b_1x4c : Nat) (b_1x5 : Option Addr) (b_1x5l b_1x5c : Nat) (w : World) (R : Ending → World → Prop) : Prop :=
 (New w (.cells #[(.int .i64 a_0x0), (.int .i64 a_0x1), (.string a_0x2), (.slice a_0x3 a_0x3l a_0x3c), (.slice a_0x4 a_0x4l a_0x4c), (.slice a_0x5 a_0x5l a_0x5c)] t_api_Value (0, 0)) fun b0 w1 =>
 (New w1 (.cells #[(.int .i64 b_1x0), (.int .i64 b_1x1), (.string b_1x2), (.slice b_1x3 b_1x3l b_1x3c), (.slice b_1x4 b_1x4l b_1x4c), (.slice b_1x5 b_1x5l b_1x5c)] t_api_Value (0, 0)) fun b2 w3 =>
 ∃ (x4 : Option Addr) (l5 c6 : Nat), w3.cell? ⟨b0, 5, none⟩ = some (.slice x4 l5 c6) ∧
 ∃ (x7 : Option Addr) (l8 c9 : Nat), w3.cell? ⟨b2, 5, none⟩ = some (.slice x7 l8 c9) ∧
 (CallR pg f_slices_CompareFunc_Sapi_Value_Sapi_Value_api_Value_api_Value [(.slice x4 l5 c6), (.slice x7 l8 c9), (.func (.func f_order_Compare) #[] #[])] w3 (fun ch w => R (.panicked ch) w) fun v10 w11 =>
 ∃ y12 : Int, v10 = (.int .i64 y12) ∧
 R (.returned (.int .i64 y12)) w11)))
theorem e_order_way_4 (a_0x0 : Int) (a_0x1 : Int) (a_0x2 : ByteArray) (a_0x3 : Option Addr) (a_0x3l a_0x3c : Nat) (a_0x4 : Option Addr) (a_0x4l a_0x4c : Nat) (a_0x5 : Option Addr) (a_0x5l a_0x5c : Nat) (b_1x0 : Int) (b_1x1 : Int) (b_1x2 : ByteArray) (b_1x3 : Option Addr) (b_1x3l b_1x3c : Nat) (b_1x4 : Option Addr) (b_1x4l b_1x4c : Nat) (b_1x5 : Option Addr) (b_1x5l b_1x5c : Nat) (w : World) (R : Ending → World → Prop) : funcX pg T bl Tryd.f73 [(.agg #[(.int .i64 a_0x0), (.int .i64 a_0x1), (.string a_0x2), (.slice a_0x3 a_0x3l a_0x3c), (.slice a_0x4 a_0x4l a_0x4c), (.slice a_0x5 a_0x5l a_0x5c)]), (.agg #[(.int .i64 b_1x0), (.int .i64 b_1x1), (.string b_1x2), (.slice b_1x3 b_1x3l b_1x3c), (.slice b_1x4 b_1x4l b_1x4c), (.slice b_1x5 b_1x5l b_1x5c)])] w R = c_order_way_4 a_0x0  a_0x1  a_0x2  a_0x3 a_0x3l a_0x3c  a_0x4 a_0x4l a_0x4c  a_0x5 a_0x5l a_0x5c  b_1x0  b_1x1  b_1x2  b_1x3 b_1x3l b_1x3c  b_1x4 b_1x4l b_1x4c  b_1x5 b_1x5l b_1x5c  w R := by kernel_rfl
theorem of_order_way_4 (a_0x0 : Int) (a_0x1 : Int) (a_0x2 : ByteArray) (a_0x3 : Option Addr) (a_0x3l a_0x3c : Nat) (a_0x4 : Option Addr) (a_0x4l a_0x4c : Nat) (a_0x5 : Option Addr) (a_0x5l a_0x5c : Nat) (b_1x0 : Int) (b_1x1 : Int) (b_1x2 : ByteArray) (b_1x3 : Option Addr) (b_1x3l b_1x3c : Nat) (b_1x4 : Option Addr) (b_1x4l b_1x4c : Nat) (b_1x5 : Option Addr) (b_1x5l b_1x5c : Nat) {w : World} {R : Ending → World → Prop} (h : c_order_way_4 a_0x0  a_0x1  a_0x2  a_0x3 a_0x3l a_0x3c  a_0x4 a_0x4l a_0x4c  a_0x5 a_0x5l a_0x5c  b_1x0  b_1x1  b_1x2  b_1x3 b_1x3l b_1x3c  b_1x4 b_1x4l b_1x4c  b_1x5 b_1x5l b_1x5c  w R) : Calls pg f_order_way_4 #[(.agg #[(.int .i64 a_0x0), (.int .i64 a_0x1), (.string a_0x2), (.slice a_0x3 a_0x3l a_0x3c), (.slice a_0x4 a_0x4l a_0x4c), (.slice a_0x5 a_0x5l a_0x5c)]), (.agg #[(.int .i64 b_1x0), (.int .i64 b_1x1), (.string b_1x2), (.slice b_1x3 b_1x3l b_1x3c), (.slice b_1x4 b_1x4l b_1x4c), (.slice b_1x5 b_1x5l b_1x5c)])] w R :=
  funcX_of mixed tok blok Tryd.func73 (args := [(.agg #[(.int .i64 a_0x0), (.int .i64 a_0x1), (.string a_0x2), (.slice a_0x3 a_0x3l a_0x3c), (.slice a_0x4 a_0x4l a_0x4c), (.slice a_0x5 a_0x5l a_0x5c)]), (.agg #[(.int .i64 b_1x0), (.int .i64 b_1x1), (.string b_1x2), (.slice b_1x3 b_1x3l b_1x3c), (.slice b_1x4 b_1x4l b_1x4c), (.slice b_1x5 b_1x5l b_1x5c)])]) (e_order_way_4 a_0x0  a_0x1  a_0x2  a_0x3 a_0x3l a_0x3c  a_0x4 a_0x4l a_0x4c  a_0x5 a_0x5l a_0x5c  b_1x0  b_1x1  b_1x2  b_1x3 b_1x3l b_1x3c  b_1x4 b_1x4l b_1x4c  b_1x5 b_1x5l b_1x5c  w R) h
/-- internal/strconv.small -/
def c_internal_strconv_small (i_0 : Int) (w : World) (R : Ending → World → Prop) : Prop :=
 (cond (decide (i_0 < (10 : Int)))
 ((0 ≤ (IntKind.i64.wrap (i_0 + (1 : Int))) ∧ (IntKind.i64.wrap (i_0 + (1 : Int))) ≤ (((⟨#[48, 49, 50, 51, 52, 53, 54, 55, 56, 57, 97, 98, 99, 100, 101, 102, 103, 104, 105, 106, 107, 108, 109, 110, 111, 112, 113, 114, 115, 116, 117, 118, 119, 120, 121, 122]⟩ : ByteArray).size : Nat) : Int)) ∧
 (0 ≤ i_0 ∧ i_0 ≤ ((((IntKind.i64.wrap (i_0 + (1 : Int)))).toNat : Nat) : Int)) ∧
 R (.returned (.string ((⟨#[48, 49, 50, 51, 52, 53, 54, 55, 56, 57, 97, 98, 99, 100, 101, 102, 103, 104, 105, 106, 107, 108, 109, 110, 111, 112, 113, 114, 115, 116, 117, 118, 119, 120, 121, 122]⟩ : ByteArray).extract (i_0).toNat ((IntKind.i64.wrap (i_0 + (1 : Int)))).toNat))) w)
 ((0 ≤ (IntKind.i64.wrap ((IntKind.i64.wrap (i_0 * (2 : Int))) + (2 : Int))) ∧ (IntKind.i64.wrap ((IntKind.i64.wrap (i_0 * (2 : Int))) + (2 : Int))) ≤ (((⟨#[48, 48, 48, 49, 48, 50, 48, 51, 48, 52, 48, 53, 48, 54, 48, 55, 48, 56, 48, 57, 49, 48, 49, 49, 49, 50, 49, 51, 49, 52, 49, 53, 49, 54, 49, 55, 49, 56, 49, 57, 50, 48, 50, 49, 50, 50, 50, 51, 50, 52, 50, 53, 50, 54, 50, 55, 50, 56, 50, 57, 51, 48, 51, 49, 51, 50, 51, 51, 51, 52, 51, 53, 51, 54, 51, 55, 51, 56, 51, 57, 52, 48, 52, 49, 52, 50, 52, 51, 52, 52, 52, 53, 52, 54, 52, 55, 52, 56, 52, 57, 53, 48, 53, 49, 53, 50, 53, 51, 53, 52, 53, 53, 53, 54, 53, 55, 53, 56, 53, 57, 54, 48, 54, 49, 54, 50, 54, 51, 54, 52, 54, 53, 54, 54, 54, 55, 54, 56, 54, 57, 55, 48, 55, 49, 55, 50, 55, 51, 55, 52, 55, 53, 55, 54, 55, 55, 55, 56, 55, 57, 56, 48, 56, 49, 56, 50, 56, 51, 56, 52, 56, 53, 56, 54, 56, 55, 56, 56, 56, 57, 57, 48, 57, 49, 57, 50, 57, 51, 57, 52, 57, 53, 57, 54, 57, 55, 57, 56, 57, 57]⟩ : ByteArray).size : Nat) : Int)) ∧
 (0 ≤ (IntKind.i64.wrap (i_0 * (2 : Int))) ∧ (IntKind.i64.wrap (i_0 * (2 : Int))) ≤ ((((IntKind.i64.wrap ((IntKind.i64.wrap (i_0 * (2 : Int))) + (2 : Int)))).toNat : Nat) : Int)) ∧
 R (.returned (.string ((⟨#[48, 48, 48, 49, 48, 50, 48, 51, 48, 52, 48, 53, 48, 54, 48, 55, 48, 56, 48, 57, 49, 48, 49, 49, 49, 50, 49, 51, 49, 52, 49, 53, 49, 54, 49, 55, 49, 56, 49, 57, 50, 48, 50, 49, 50, 50, 50, 51, 50, 52, 50, 53, 50, 54, 50, 55, 50, 56, 50, 57, 51, 48, 51, 49, 51, 50, 51, 51, 51, 52, 51, 53, 51, 54, 51, 55, 51, 56, 51, 57, 52, 48, 52, 49, 52, 50, 52, 51, 52, 52, 52, 53, 52, 54, 52, 55, 52, 56, 52, 57, 53, 48, 53, 49, 53, 50, 53, 51, 53, 52, 53, 53, 53, 54, 53, 55, 53, 56, 53, 57, 54, 48, 54, 49, 54, 50, 54, 51, 54, 52, 54, 53, 54, 54, 54, 55, 54, 56, 54, 57, 55, 48, 55, 49, 55, 50, 55, 51, 55, 52, 55, 53, 55, 54, 55, 55, 55, 56, 55, 57, 56, 48, 56, 49, 56, 50, 56, 51, 56, 52, 56, 53, 56, 54, 56, 55, 56, 56, 56, 57, 57, 48, 57, 49, 57, 50, 57, 51, 57, 52, 57, 53, 57, 54, 57, 55, 57, 56, 57, 57]⟩ : ByteArray).extract ((IntKind.i64.wrap (i_0 * (2 : Int)))).toNat ((IntKind.i64.wrap ((IntKind.i64.wrap (i_0 * (2 : Int))) + (2 : Int)))).toNat))) w))
theorem e_internal_strconv_small (i_0 : Int) (w : World) (R : Ending → World → Prop) : funcX pg T bl Tryd.f80 [(.int .i64 i_0)] w R = c_internal_strconv_small i_0  w R := by kernel_rfl
theorem of_internal_strconv_small (i_0 : Int) {w : World} {R : Ending → World → Prop} (h : c_internal_strconv_small i_0  w R) : Calls pg f_internal_strconv_small #[(.int .i64 i_0)] w R :=
  funcX_of mixed tok blok Tryd.func80 (args := [(.int .i64 i_0)]) (e_internal_strconv_small i_0  w R) h
/-- internal/strconv.numDigits -/
def c_internal_strconv_numDigits (d_0 : Int) (w : World) (R : Ending → World → Prop) : Prop :=
 (CallR pg f_math_bits_Len64 [(.int .u64 d_0)] w (fun ch w => R (.panicked ch) w) fun v0 w1 =>
 ∃ y2 : Int, v0 = (.int .i64 y2) ∧
 (CallR pg f_internal_strconv_log10Pow2 [(.int .i64 y2)] w1 (fun ch w => R (.panicked ch) w) fun v3 w4 =>
 ∃ y5 : Int, v3 = (.int .i64 y5) ∧
 (0 ≤ y5 ∧ y5 < ((20 : Nat) : Int)) ∧
 ∃ x6 : Int, w4.cell? ((⟨2, 0, none⟩ : Addr).add ((y5).toNat * 1)) = some (.int .u64 x6) ∧
 (CallR pg f_internal_strconv_bool2_int [(.bool (decide (d_0 ≥ x6)))] w4 (fun ch w => R (.panicked ch) w) fun v7 w8 =>
 ∃ y9 : Int, v7 = (.int .i64 y9) ∧
 R (.returned (.int .i64 (IntKind.i64.wrap (y5 + y9)))) w8)))
theorem e_internal_strconv_numDigits (d_0 : Int) (w : World) (R : Ending → World → Prop) : funcX pg T bl Tryd.f81 [(.int .u64 d_0)] w R = c_internal_strconv_numDigits d_0  w R := by kernel_rfl
theorem of_internal_strconv_numDigits (d_0 : Int) {w : World} {R : Ending → World → Prop} (h : c_internal_strconv_numDigits d_0  w R) : Calls pg f_internal_strconv_numDigits #[(.int .u64 d_0)] w R :=
  funcX_of mixed tok blok Tryd.func81 (args := [(.int .u64 d_0)]) (e_internal_strconv_numDigits d_0  w R) h
/-- unicode/utf8.word[string] -/
def c_unicode_utf8_word_string (s_0 : ByteArray) (w : World) (R : Ending → World → Prop) : Prop :=
 (Drew w fun w0 =>
 (0 ≤ (0 : Int) ∧ (0 : Int) < ((s_0.size : Nat) : Int)) ∧
 (0 ≤ (1 : Int) ∧ (1 : Int) < ((s_0.size : Nat) : Int)) ∧
 (cond (decide ((8 : Int) < 0))
 (False)
 ((0 ≤ (2 : Int) ∧ (2 : Int) < ((s_0.size : Nat) : Int)) ∧
 (cond (decide ((16 : Int) < 0))
 (False)
 ((0 ≤ (3 : Int) ∧ (3 : Int) < ((s_0.size : Nat) : Int)) ∧
 (cond (decide ((24 : Int) < 0))
 (False)
 ((0 ≤ (4 : Int) ∧ (4 : Int) < ((s_0.size : Nat) : Int)) ∧
 (cond (decide ((32 : Int) < 0))
 (False)
 ((0 ≤ (5 : Int) ∧ (5 : Int) < ((s_0.size : Nat) : Int)) ∧
 (cond (decide ((40 : Int) < 0))
 (False)
 ((0 ≤ (6 : Int) ∧ (6 : Int) < ((s_0.size : Nat) : Int)) ∧
 (cond (decide ((48 : Int) < 0))
 (False)
 ((0 ≤ (7 : Int) ∧ (7 : Int) < ((s_0.size : Nat) : Int)) ∧
 (cond (decide ((56 : Int) < 0))
 (False)
 (R (.returned (.int .u64 (IntKind.u64.wrap (BitVec.ofInt IntKind.u64.bits (IntKind.u64.wrap (BitVec.ofInt IntKind.u64.bits (IntKind.u64.wrap (BitVec.ofInt IntKind.u64.bits (IntKind.u64.wrap (BitVec.ofInt IntKind.u64.bits (IntKind.u64.wrap (BitVec.ofInt IntKind.u64.bits (IntKind.u64.wrap (BitVec.ofInt IntKind.u64.bits (IntKind.u64.wrap (BitVec.ofInt IntKind.u64.bits (IntKind.u64.wrap (byteAt s_0 ((0 : Int)).toNat : Nat)) ||| BitVec.ofInt IntKind.u64.bits (IntKind.u64.wrap ((IntKind.u64.wrap (byteAt s_0 ((1 : Int)).toNat : Nat)) * 2 ^ (min ((8 : Int)).toNat IntKind.u64.bits)))).toNat) ||| BitVec.ofInt IntKind.u64.bits (IntKind.u64.wrap ((IntKind.u64.wrap (byteAt s_0 ((2 : Int)).toNat : Nat)) * 2 ^ (min ((16 : Int)).toNat IntKind.u64.bits)))).toNat) ||| BitVec.ofInt IntKind.u64.bits (IntKind.u64.wrap ((IntKind.u64.wrap (byteAt s_0 ((3 : Int)).toNat : Nat)) * 2 ^ (min ((24 : Int)).toNat IntKind.u64.bits)))).toNat) ||| BitVec.ofInt IntKind.u64.bits (IntKind.u64.wrap ((IntKind.u64.wrap (byteAt s_0 ((4 : Int)).toNat : Nat)) * 2 ^ (min ((32 : Int)).toNat IntKind.u64.bits)))).toNat) ||| BitVec.ofInt IntKind.u64.bits (IntKind.u64.wrap ((IntKind.u64.wrap (byteAt s_0 ((5 : Int)).toNat : Nat)) * 2 ^ (min ((40 : Int)).toNat IntKind.u64.bits)))).toNat) ||| BitVec.ofInt IntKind.u64.bits (IntKind.u64.wrap ((IntKind.u64.wrap (byteAt s_0 ((6 : Int)).toNat : Nat)) * 2 ^ (min ((48 : Int)).toNat IntKind.u64.bits)))).toNat) ||| BitVec.ofInt IntKind.u64.bits (IntKind.u64.wrap ((IntKind.u64.wrap (byteAt s_0 ((7 : Int)).toNat : Nat)) * 2 ^ (min ((56 : Int)).toNat IntKind.u64.bits)))).toNat))) w0)))))))))))))))
theorem e_unicode_utf8_word_string (s_0 : ByteArray) (w : World) (R : Ending → World → Prop) : funcX pg T bl Tryd.f84 [(.string s_0)] w R = c_unicode_utf8_word_string s_0  w R := by kernel_rfl
theorem of_unicode_utf8_word_string (s_0 : ByteArray) {w : World} {R : Ending → World → Prop} (h : c_unicode_utf8_word_string s_0  w R) : Calls pg f_unicode_utf8_word_string #[(.string s_0)] w R :=
  funcX_of mixed tok blok Tryd.func84 (args := [(.string s_0)]) (e_unicode_utf8_word_string s_0  w R) h
/-- cmp.isNaN[int64] -/
def c_cmp_isNaN_int64 (x_0 : Int) (w : World) (R : Ending → World → Prop) : Prop :=
 R (.returned (.bool (x_0 != x_0))) w
theorem e_cmp_isNaN_int64 (x_0 : Int) (w : World) (R : Ending → World → Prop) : funcX pg T bl Tryd.f88 [(.int .i64 x_0)] w R = c_cmp_isNaN_int64 x_0  w R := by kernel_rfl
theorem of_cmp_isNaN_int64 (x_0 : Int) {w : World} {R : Ending → World → Prop} (h : c_cmp_isNaN_int64 x_0  w R) : Calls pg f_cmp_isNaN_int64 #[(.int .i64 x_0)] w R :=
  funcX_of mixed tok blok Tryd.func88 (args := [(.int .i64 x_0)]) (e_cmp_isNaN_int64 x_0  w R) h
/-- math/bits.TrailingZeros64 -/
def c_math_bits_TrailingZeros64 (x_0 : Int) (w : World) (R : Ending → World → Prop) : Prop :=
 (cond (x_0 == (0 : Int))
 (R (.returned (.int .i64 (64 : Int))) w)
 ((cond (decide ((58 : Int) < 0))
 (False)
 ((0 ≤ ((IntKind.u64.wrap ((IntKind.u64.wrap (BitVec.ofInt IntKind.u64.bits x_0 &&& BitVec.ofInt IntKind.u64.bits (IntKind.u64.wrap (0 - x_0))).toNat) * (285870213051353865 : Int))).fdiv (2 ^ (min ((58 : Int)).toNat IntKind.u64.bits))) ∧ ((IntKind.u64.wrap ((IntKind.u64.wrap (BitVec.ofInt IntKind.u64.bits x_0 &&& BitVec.ofInt IntKind.u64.bits (IntKind.u64.wrap (0 - x_0))).toNat) * (285870213051353865 : Int))).fdiv (2 ^ (min ((58 : Int)).toNat IntKind.u64.bits))) < ((64 : Nat) : Int)) ∧
 ∃ x0 : Int, w.cell? ((⟨5, 0, none⟩ : Addr).add ((((IntKind.u64.wrap ((IntKind.u64.wrap (BitVec.ofInt IntKind.u64.bits x_0 &&& BitVec.ofInt IntKind.u64.bits (IntKind.u64.wrap (0 - x_0))).toNat) * (285870213051353865 : Int))).fdiv (2 ^ (min ((58 : Int)).toNat IntKind.u64.bits)))).toNat * 1)) = some (.int .u8 x0) ∧
 R (.returned (.int .i64 (IntKind.i64.wrap x0))) w))))
theorem e_math_bits_TrailingZeros64 (x_0 : Int) (w : World) (R : Ending → World → Prop) : funcX pg T bl Tryd.f97 [(.int .u64 x_0)] w R = c_math_bits_TrailingZeros64 x_0  w R := by kernel_rfl
theorem of_math_bits_TrailingZeros64 (x_0 : Int) {w : World} {R : Ending → World → Prop} (h : c_math_bits_TrailingZeros64 x_0  w R) : Calls pg f_math_bits_TrailingZeros64 #[(.int .u64 x_0)] w R :=
  funcX_of mixed tok blok Tryd.func97 (args := [(.int .u64 x_0)]) (e_math_bits_TrailingZeros64 x_0  w R) h
/-- gosem.cut.vars -/
def c_gosem_cut_vars  (w : World) (R : Ending → World → Prop) : Prop :=
 (St w ⟨4, 0, none⟩ (.int .u8 (0 : Int)) fun w0 =>
 (St w0 ⟨4, 1, none⟩ (.int .u8 (1 : Int)) fun w1 =>
 (St w1 ⟨4, 2, none⟩ (.int .u8 (28 : Int)) fun w2 =>
 (St w2 ⟨4, 3, none⟩ (.int .u8 (2 : Int)) fun w3 =>
 (St w3 ⟨4, 4, none⟩ (.int .u8 (29 : Int)) fun w4 =>
 (St w4 ⟨4, 5, none⟩ (.int .u8 (14 : Int)) fun w5 =>
 (St w5 ⟨4, 6, none⟩ (.int .u8 (24 : Int)) fun w6 =>
 (St w6 ⟨4, 7, none⟩ (.int .u8 (3 : Int)) fun w7 =>
 (St w7 ⟨4, 8, none⟩ (.int .u8 (30 : Int)) fun w8 =>
 (St w8 ⟨4, 9, none⟩ (.int .u8 (22 : Int)) fun w9 =>
 (St w9 ⟨4, 10, none⟩ (.int .u8 (20 : Int)) fun w10 =>
 (St w10 ⟨4, 11, none⟩ (.int .u8 (15 : Int)) fun w11 =>
 (St w11 ⟨4, 12, none⟩ (.int .u8 (25 : Int)) fun w12 =>
 (St w12 ⟨4, 13, none⟩ (.int .u8 (17 : Int)) fun w13 =>
 (St w13 ⟨4, 14, none⟩ (.int .u8 (4 : Int)) fun w14 =>
 (St w14 ⟨4, 15, none⟩ (.int .u8 (8 : Int)) fun w15 =>
 (St w15 ⟨4, 16, none⟩ (.int .u8 (31 : Int)) fun w16 =>
 (St w16 ⟨4, 17, none⟩ (.int .u8 (27 : Int)) fun w17 =>
 (St w17 ⟨4, 18, none⟩ (.int .u8 (13 : Int)) fun w18 =>
 (St w18 ⟨4, 19, none⟩ (.int .u8 (23 : Int)) fun w19 =>
 (St w19 ⟨4, 20, none⟩ (.int .u8 (21 : Int)) fun w20 =>
 (St w20 ⟨4, 21, none⟩ (.int .u8 (19 : Int)) fun w21 =>
 (St w21 ⟨4, 22, none⟩ (.int .u8 (16 : Int)) fun w22 =>
 (St w22 ⟨4, 23, none⟩ (.int .u8 (7 : Int)) fun w23 =>
 (St w23 ⟨4, 24, none⟩ (.int .u8 (26 : Int)) fun w24 =>
 (St w24 ⟨4, 25, none⟩ (.int .u8 (12 : Int)) fun w25 =>
 (St w25 ⟨4, 26, none⟩ (.int .u8 (18 : Int)) fun w26 =>
 (St w26 ⟨4, 27, none⟩ (.int .u8 (6 : Int)) fun w27 =>
 (St w27 ⟨4, 28, none⟩ (.int .u8 (11 : Int)) fun w28 =>
 (St w28 ⟨4, 29, none⟩ (.int .u8 (5 : Int)) fun w29 =>
 (St w29 ⟨4, 30, none⟩ (.int .u8 (10 : Int)) fun w30 =>
 (St w30 ⟨4, 31, none⟩ (.int .u8 (9 : Int)) fun w31 =>
 (St w31 ⟨5, 0, none⟩ (.int .u8 (0 : Int)) fun w32 =>
 (St w32 ⟨5, 1, none⟩ (.int .u8 (1 : Int)) fun w33 =>
 (St w33 ⟨5, 2, none⟩ (.int .u8 (56 : Int)) fun w34 =>
 (St w34 ⟨5, 3, none⟩ (.int .u8 (2 : Int)) fun w35 =>
 (St w35 ⟨5, 4, none⟩ (.int .u8 (57 : Int)) fun w36 =>
 (St w36 ⟨5, 5, none⟩ (.int .u8 (49 : Int)) fun w37 =>
 (St w37 ⟨5, 6, none⟩ (.int .u8 (28 : Int)) fun w38 =>
 (St w38 ⟨5, 7, none⟩ (.int .u8 (3 : Int)) fun w39 =>
 (St w39 ⟨5, 8, none⟩ (.int .u8 (61 : Int)) fun w40 =>
 (St w40 ⟨5, 9, none⟩ (.int .u8 (58 : Int)) fun w41 =>
 (St w41 ⟨5, 10, none⟩ (.int .u8 (42 : Int)) fun w42 =>
 (St w42 ⟨5, 11, none⟩ (.int .u8 (50 : Int)) fun w43 =>
 (St w43 ⟨5, 12, none⟩ (.int .u8 (38 : Int)) fun w44 =>
 (St w44 ⟨5, 13, none⟩ (.int .u8 (29 : Int)) fun w45 =>
 (St w45 ⟨5, 14, none⟩ (.int .u8 (17 : Int)) fun w46 =>
 (St w46 ⟨5, 15, none⟩ (.int .u8 (4 : Int)) fun w47 =>
 (St w47 ⟨5, 16, none⟩ (.int .u8 (62 : Int)) fun w48 =>
 (St w48 ⟨5, 17, none⟩ (.int .u8 (47 : Int)) fun w49 =>
 (St w49 ⟨5, 18, none⟩ (.int .u8 (59 : Int)) fun w50 =>
 (St w50 ⟨5, 19, none⟩ (.int .u8 (36 : Int)) fun w51 =>
 (St w51 ⟨5, 20, none⟩ (.int .u8 (45 : Int)) fun w52 =>
 (St w52 ⟨5, 21, none⟩ (.int .u8 (43 : Int)) fun w53 =>
 (St w53 ⟨5, 22, none⟩ (.int .u8 (51 : Int)) fun w54 =>
 (St w54 ⟨5, 23, none⟩ (.int .u8 (22 : Int)) fun w55 =>
 (St w55 ⟨5, 24, none⟩ (.int .u8 (53 : Int)) fun w56 =>
 (St w56 ⟨5, 25, none⟩ (.int .u8 (39 : Int)) fun w57 =>
 (St w57 ⟨5, 26, none⟩ (.int .u8 (33 : Int)) fun w58 =>
 (St w58 ⟨5, 27, none⟩ (.int .u8 (30 : Int)) fun w59 =>
 (St w59 ⟨5, 28, none⟩ (.int .u8 (24 : Int)) fun w60 =>
 (St w60 ⟨5, 29, none⟩ (.int .u8 (18 : Int)) fun w61 =>
 (St w61 ⟨5, 30, none⟩ (.int .u8 (12 : Int)) fun w62 =>
 (St w62 ⟨5, 31, none⟩ (.int .u8 (5 : Int)) fun w63 =>
 (St w63 ⟨5, 32, none⟩ (.int .u8 (63 : Int)) fun w64 =>
 (St w64 ⟨5, 33, none⟩ (.int .u8 (55 : Int)) fun w65 =>
 (St w65 ⟨5, 34, none⟩ (.int .u8 (48 : Int)) fun w66 =>
 (St w66 ⟨5, 35, none⟩ (.int .u8 (27 : Int)) fun w67 =>
 (St w67 ⟨5, 36, none⟩ (.int .u8 (60 : Int)) fun w68 =>
 (St w68 ⟨5, 37, none⟩ (.int .u8 (41 : Int)) fun w69 =>
 (St w69 ⟨5, 38, none⟩ (.int .u8 (37 : Int)) fun w70 =>
 (St w70 ⟨5, 39, none⟩ (.int .u8 (16 : Int)) fun w71 =>
 (St w71 ⟨5, 40, none⟩ (.int .u8 (46 : Int)) fun w72 =>
 (St w72 ⟨5, 41, none⟩ (.int .u8 (35 : Int)) fun w73 =>
 (St w73 ⟨5, 42, none⟩ (.int .u8 (44 : Int)) fun w74 =>
 (St w74 ⟨5, 43, none⟩ (.int .u8 (21 : Int)) fun w75 =>
 (St w75 ⟨5, 44, none⟩ (.int .u8 (52 : Int)) fun w76 =>
 (St w76 ⟨5, 45, none⟩ (.int .u8 (32 : Int)) fun w77 =>
 (St w77 ⟨5, 46, none⟩ (.int .u8 (23 : Int)) fun w78 =>
 (St w78 ⟨5, 47, none⟩ (.int .u8 (11 : Int)) fun w79 =>
 (St w79 ⟨5, 48, none⟩ (.int .u8 (54 : Int)) fun w80 =>
 (St w80 ⟨5, 49, none⟩ (.int .u8 (26 : Int)) fun w81 =>
 (St w81 ⟨5, 50, none⟩ (.int .u8 (40 : Int)) fun w82 =>
 (St w82 ⟨5, 51, none⟩ (.int .u8 (15 : Int)) fun w83 =>
 (St w83 ⟨5, 52, none⟩ (.int .u8 (34 : Int)) fun w84 =>
 (St w84 ⟨5, 53, none⟩ (.int .u8 (20 : Int)) fun w85 =>
 (St w85 ⟨5, 54, none⟩ (.int .u8 (31 : Int)) fun w86 =>
 (St w86 ⟨5, 55, none⟩ (.int .u8 (10 : Int)) fun w87 =>
 (St w87 ⟨5, 56, none⟩ (.int .u8 (25 : Int)) fun w88 =>
 (St w88 ⟨5, 57, none⟩ (.int .u8 (14 : Int)) fun w89 =>
 (St w89 ⟨5, 58, none⟩ (.int .u8 (19 : Int)) fun w90 =>
 (St w90 ⟨5, 59, none⟩ (.int .u8 (9 : Int)) fun w91 =>
 (St w91 ⟨5, 60, none⟩ (.int .u8 (13 : Int)) fun w92 =>
 (St w92 ⟨5, 61, none⟩ (.int .u8 (8 : Int)) fun w93 =>
 (St w93 ⟨5, 62, none⟩ (.int .u8 (7 : Int)) fun w94 =>
 (St w94 ⟨5, 63, none⟩ (.int .u8 (6 : Int)) fun w95 =>
 (St w95 ⟨2, 0, none⟩ (.int .u64 (1 : Int)) fun w96 =>
 (St w96 ⟨2, 1, none⟩ (.int .u64 (10 : Int)) fun w97 =>
 (St w97 ⟨2, 2, none⟩ (.int .u64 (100 : Int)) fun w98 =>
 (St w98 ⟨2, 3, none⟩ (.int .u64 (1000 : Int)) fun w99 =>
 (St w99 ⟨2, 4, none⟩ (.int .u64 (10000 : Int)) fun w100 =>
 (St w100 ⟨2, 5, none⟩ (.int .u64 (100000 : Int)) fun w101 =>
 (St w101 ⟨2, 6, none⟩ (.int .u64 (1000000 : Int)) fun w102 =>
 (St w102 ⟨2, 7, none⟩ (.int .u64 (10000000 : Int)) fun w103 =>
 (St w103 ⟨2, 8, none⟩ (.int .u64 (100000000 : Int)) fun w104 =>
 (St w104 ⟨2, 9, none⟩ (.int .u64 (1000000000 : Int)) fun w105 =>
 (St w105 ⟨2, 10, none⟩ (.int .u64 (10000000000 : Int)) fun w106 =>
 (St w106 ⟨2, 11, none⟩ (.int .u64 (100000000000 : Int)) fun w107 =>
 (St w107 ⟨2, 12, none⟩ (.int .u64 (1000000000000 : Int)) fun w108 =>
 (St w108 ⟨2, 13, none⟩ (.int .u64 (10000000000000 : Int)) fun w109 =>
 (St w109 ⟨2, 14, none⟩ (.int .u64 (100000000000000 : Int)) fun w110 =>
 (St w110 ⟨2, 15, none⟩ (.int .u64 (1000000000000000 : Int)) fun w111 =>
 (St w111 ⟨2, 16, none⟩ (.int .u64 (10000000000000000 : Int)) fun w112 =>
 (St w112 ⟨2, 17, none⟩ (.int .u64 (100000000000000000 : Int)) fun w113 =>
 (St w113 ⟨2, 18, none⟩ (.int .u64 (1000000000000000000 : Int)) fun w114 =>
 (St w114 ⟨2, 19, none⟩ (.int .u64 (10000000000000000000 : Int)) fun w115 =>
 (St w115 ⟨1, 0, none⟩ (.int .u8 (128 : Int)) fun w116 =>
 (St w116 ⟨1, 1, none⟩ (.int .u8 (191 : Int)) fun w117 =>
 (St w117 ⟨1, 2, none⟩ (.int .u8 (160 : Int)) fun w118 =>
 (St w118 ⟨1, 3, none⟩ (.int .u8 (191 : Int)) fun w119 =>
 (St w119 ⟨1, 4, none⟩ (.int .u8 (128 : Int)) fun w120 =>
 (St w120 ⟨1, 5, none⟩ (.int .u8 (159 : Int)) fun w121 =>
 (St w121 ⟨1, 6, none⟩ (.int .u8 (144 : Int)) fun w122 =>
 (St w122 ⟨1, 7, none⟩ (.int .u8 (191 : Int)) fun w123 =>
 (St w123 ⟨1, 8, none⟩ (.int .u8 (128 : Int)) fun w124 =>
 (St w124 ⟨1, 9, none⟩ (.int .u8 (143 : Int)) fun w125 =>
 (St w125 ⟨1, 10, none⟩ (.int .u8 (0 : Int)) fun w126 =>
 (St w126 ⟨1, 11, none⟩ (.int .u8 (0 : Int)) fun w127 =>
 (St w127 ⟨1, 12, none⟩ (.int .u8 (0 : Int)) fun w128 =>
 (St w128 ⟨1, 13, none⟩ (.int .u8 (0 : Int)) fun w129 =>
 (St w129 ⟨1, 14, none⟩ (.int .u8 (0 : Int)) fun w130 =>
 (St w130 ⟨1, 15, none⟩ (.int .u8 (0 : Int)) fun w131 =>
 (St w131 ⟨1, 16, none⟩ (.int .u8 (0 : Int)) fun w132 =>
 (St w132 ⟨1, 17, none⟩ (.int .u8 (0 : Int)) fun w133 =>
 (St w133 ⟨1, 18, none⟩ (.int .u8 (0 : Int)) fun w134 =>
 (St w134 ⟨1, 19, none⟩ (.int .u8 (0 : Int)) fun w135 =>
 (St w135 ⟨1, 20, none⟩ (.int .u8 (0 : Int)) fun w136 =>
 (St w136 ⟨1, 21, none⟩ (.int .u8 (0 : Int)) fun w137 =>
 (St w137 ⟨1, 22, none⟩ (.int .u8 (0 : Int)) fun w138 =>
 (St w138 ⟨1, 23, none⟩ (.int .u8 (0 : Int)) fun w139 =>
 (St w139 ⟨1, 24, none⟩ (.int .u8 (0 : Int)) fun w140 =>
 (St w140 ⟨1, 25, none⟩ (.int .u8 (0 : Int)) fun w141 =>
 (St w141 ⟨1, 26, none⟩ (.int .u8 (0 : Int)) fun w142 =>
 (St w142 ⟨1, 27, none⟩ (.int .u8 (0 : Int)) fun w143 =>
 (St w143 ⟨1, 28, none⟩ (.int .u8 (0 : Int)) fun w144 =>
 (St w144 ⟨1, 29, none⟩ (.int .u8 (0 : Int)) fun w145 =>
 (St w145 ⟨1, 30, none⟩ (.int .u8 (0 : Int)) fun w146 =>
 (St w146 ⟨1, 31, none⟩ (.int .u8 (0 : Int)) fun w147 =>
 R (.returned (.tuple #[])) w147))))))))))))))))))))))))))))))))))))))))))))))))))))))))))))))))))))))))))))))))))))))))))))))))))))))))))))))))))))))))))))))))))))))))))))))))))))
theorem e_gosem_cut_vars  (w : World) (R : Ending → World → Prop) : funcX pg T bl Tryd.f122 [] w R = c_gosem_cut_vars  w R := by kernel_rfl
theorem of_gosem_cut_vars  {w : World} {R : Ending → World → Prop} (h : c_gosem_cut_vars  w R) : Calls pg f_gosem_cut_vars #[] w R :=
  funcX_of mixed tok blok Tryd.func122 (args := []) (e_gosem_cut_vars  w R) h
end Go.Proofs.Sd
