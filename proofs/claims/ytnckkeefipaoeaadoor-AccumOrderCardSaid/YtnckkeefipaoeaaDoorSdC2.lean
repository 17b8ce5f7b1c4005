/- By a program of mine (Gen): the conditions of the functions, part 2. -/
import Derived.Test.YtnckkeefipaoeaaDoorSdTab
set_option linter.unusedVariables false
set_option maxRecDepth 100000
namespace Go.Proofs.Sd
open Go Go.Eng
open Go.Proofs
/-- aqueduct/aqueductlaw12.AccumOrder -/
def c_aqueductlaw12_AccumOrder (l_0 : Option Addr) (l_0l l_0c : Nat) (other_1 : Option Addr) (other_1l other_1c : Nat) (w : World) (R : Ending → World → Prop) : Prop :=
 (CallR pg f_aqueductlaw12_awake [] w (fun ch w => R (.panicked ch) w) fun v0 w1 =>
 ∃ y2 : Bool, v0 = (.bool y2) ∧
 (cond (!y2)
 (R (.returned (.bool false)) w1)
 ((Meet (σ := Bool) (fun J3 =>
 (cond (decide (((l_0l : Nat) : Int) > (40 : Int)))
 (J3 true w1)
 ((cond (((l_0l : Nat) : Int) == (0 : Int))
 (J3 true w1)
 ((CallR pg f_aqueductlaw7_Few [(.slice other_1 other_1l other_1c)] w1 (fun ch w => R (.panicked ch) w) fun v6 w7 =>
 ∃ y8 : Bool, v6 = (.bool y8) ∧
 (cond (!y8)
 (J3 true w7)
 (J3 (decide (((other_1l : Nat) : Int) > ((l_0l : Nat) : Int))) w7))))))))
 (fun s4 w5 =>
 ∀ j9 : Nat → Value, (cond s4
 (R (.returned (.bool true)) w5)
 ((Eng.Loop (σ := Bool × Int) (fun X10 s11 w12 =>
 ∀ j13 : Nat → Value, (cond (decide (s11.2 < ((other_1l : Nat) : Int)))
 ((Meet (σ := Bool) (fun J14 =>
 (withSome other_1 fun (a17 : Addr) =>
 (0 ≤ s11.2 ∧ s11.2 < ((other_1l : Nat) : Int)) ∧
 ∃ x18 : Int, w12.cell? (a17.add ((s11.2).toNat * 6)) = some (.int .i64 x18) ∧
 (cond (x18 == (3 : Int))
 (J14 true w12)
 ((withSome other_1 fun (a19 : Addr) =>
 (0 ≤ s11.2 ∧ s11.2 < ((other_1l : Nat) : Int)) ∧
 ∃ x20 : Int, w12.cell? (a19.add ((s11.2).toNat * 6)) = some (.int .i64 x20) ∧
 (cond (x20 == (4 : Int))
 (J14 true w12)
 ((withSome other_1 fun (a21 : Addr) =>
 (0 ≤ s11.2 ∧ s11.2 < ((other_1l : Nat) : Int)) ∧
 ∃ x22 : Int, w12.cell? (a21.add ((s11.2).toNat * 6)) = some (.int .i64 x22) ∧
 ∃ x23 : Int, w12.cell? ((a21.add ((s11.2).toNat * 6)).add 1) = some (.int .i64 x23) ∧
 ∃ x24 : ByteArray, w12.cell? ((a21.add ((s11.2).toNat * 6)).add 2) = some (.string x24) ∧
 ∃ (x25 : Option Addr) (l26 c27 : Nat), w12.cell? ((a21.add ((s11.2).toNat * 6)).add 3) = some (.slice x25 l26 c27) ∧
 ∃ (x28 : Option Addr) (l29 c30 : Nat), w12.cell? ((a21.add ((s11.2).toNat * 6)).add 4) = some (.slice x28 l29 c30) ∧
 ∃ (x31 : Option Addr) (l32 c33 : Nat), w12.cell? ((a21.add ((s11.2).toNat * 6)).add 5) = some (.slice x31 l32 c33) ∧
 (New w12 (.cells #[(.string (⟨#[]⟩ : ByteArray)), (.int .i64 x22), (.int .i64 x23), (.string x24), (.slice x25 l26 c27), (.slice x28 l29 c30), (.slice x31 l32 c33)] t_api_Field (0, 0)) fun b34 w35 =>
 (CallR pg f_aqueductref5_May [(.agg #[(.int .i64 (6 : Int)), (.int .i64 (0 : Int)), (.string (⟨#[]⟩ : ByteArray)), (.slice none 0 0), (.slice (some (⟨b34, 0, none⟩ : Addr)) 1 1), (.slice none 0 0)])] w35 (fun ch w => R (.panicked ch) w) fun v36 w37 =>
 ∃ y38 : Bool, v36 = (.bool y38) ∧
 J14 (!y38) w37))))))))))
 (fun s15 w16 =>
 ∀ j39 : Nat → Value, (cond s15
 (R (.returned (.bool true)) w16)
 (X10 (s11.1, (IntKind.i64.wrap (s11.2 + (1 : Int)))) w16)))))
 ((CallR pg f_accum_New [(.int .i64 (1 : Int))] w12 (fun ch w => R (.panicked ch) w) fun v40 w41 =>
 ∃ y42 : Option Addr, v40 = (.pointer y42) ∧
 (CallR pg f_accum_New [(.int .i64 (2 : Int))] w41 (fun ch w => R (.panicked ch) w) fun v43 w44 =>
 ∃ y45 : Option Addr, v43 = (.pointer y45) ∧
 (CallR pg f_accum_New [(.int .i64 (3 : Int))] w44 (fun ch w => R (.panicked ch) w) fun v46 w47 =>
 ∃ y48 : Option Addr, v46 = (.pointer y48) ∧
 (CallR pg f_accum_New [(.int .i64 (4 : Int))] w47 (fun ch w => R (.panicked ch) w) fun v49 w50 =>
 ∃ y51 : Option Addr, v49 = (.pointer y51) ∧
 (CallR pg f_accum_New [(.int .i64 (5 : Int))] w50 (fun ch w => R (.panicked ch) w) fun v52 w53 =>
 ∃ y54 : Option Addr, v52 = (.pointer y54) ∧
 (CallR pg f_accum_New [(.int .i64 (8 : Int))] w53 (fun ch w => R (.panicked ch) w) fun v55 w56 =>
 ∃ y57 : Option Addr, v55 = (.pointer y57) ∧
 (Drew w56 fun w58 =>
 (withSome l_0 fun (a59 : Addr) =>
 (0 ≤ (0 : Int) ∧ (0 : Int) < ((l_0l : Nat) : Int)) ∧
 ∃ x60 : Int, w58.cell? (a59.add (((0 : Int)).toNat * 1)) = some (.int .i16 x60) ∧
 (withSome l_0 fun (a61 : Addr) =>
 (0 ≤ (0 : Int) ∧ (0 : Int) < ((l_0l : Nat) : Int)) ∧
 ∃ x62 : Int, w58.cell? (a61.add (((0 : Int)).toNat * 1)) = some (.int .i16 x62) ∧
 (Eng.Loop (σ := Int × Int × Int × Bool × Int × Int) (fun X63 s64 w65 =>
 ∀ j66 : Nat → Value, (cond (decide (s64.2.2.2.2.2 < ((l_0l : Nat) : Int)))
 ((Meet (σ := Int × Int × Int × Bool × Int) (fun J67 =>
 (withSome l_0 fun (a70 : Addr) =>
 (0 ≤ s64.2.2.2.2.2 ∧ s64.2.2.2.2.2 < ((l_0l : Nat) : Int)) ∧
 ∃ x71 : Int, w65.cell? (a70.add ((s64.2.2.2.2.2).toNat * 1)) = some (.int .i16 x71) ∧
 (New w65 (.cells #[(.int .i64 (0 : Int)), (.int .i64 (0 : Int)), (.string (⟨#[]⟩ : ByteArray)), (.slice none 0 0), (.slice none 0 0), (.slice none 0 0)] t_api_Value (0, 0)) fun b72 w73 =>
 (St w73 ⟨b72, 0, none⟩ (.int .i64 (3 : Int)) fun w74 =>
 (St w74 ⟨b72, 1, none⟩ (.int .i64 (IntKind.i64.wrap x71)) fun w75 =>
 (St w75 ⟨b72, 2, none⟩ (.string (⟨#[]⟩ : ByteArray)) fun w76 =>
 (St w76 ⟨b72, 3, none⟩ (.slice none 0 0) fun w77 =>
 (St w77 ⟨b72, 4, none⟩ (.slice none 0 0) fun w78 =>
 (St w78 ⟨b72, 5, none⟩ (.slice none 0 0) fun w79 =>
 (Drew w79 fun w80 =>
 ∃ x81 : Int, w80.cell? ⟨b72, 1, none⟩ = some (.int .i64 x81) ∧
 ∃ x82 : Int, w80.cell? ⟨b72, 1, none⟩ = some (.int .i64 x82) ∧
 ∃ x83 : Int, w80.cell? ⟨b72, 1, none⟩ = some (.int .i64 x83) ∧
 (Meet (σ := Bool) (fun J84 =>
 ∃ x87 : Int, w80.cell? ⟨b72, 0, none⟩ = some (.int .i64 x87) ∧
 ∃ x88 : Int, w80.cell? ⟨b72, 1, none⟩ = some (.int .i64 x88) ∧
 ∃ x89 : ByteArray, w80.cell? ⟨b72, 2, none⟩ = some (.string x89) ∧
 ∃ (x90 : Option Addr) (l91 c92 : Nat), w80.cell? ⟨b72, 3, none⟩ = some (.slice x90 l91 c92) ∧
 ∃ (x93 : Option Addr) (l94 c95 : Nat), w80.cell? ⟨b72, 4, none⟩ = some (.slice x93 l94 c95) ∧
 ∃ (x96 : Option Addr) (l97 c98 : Nat), w80.cell? ⟨b72, 5, none⟩ = some (.slice x96 l97 c98) ∧
 (CallR pg f_Paccum_State_Add [(.pointer y42), (.agg #[(.int .i64 x87), (.int .i64 x88), (.string x89), (.slice x90 l91 c92), (.slice x93 l94 c95), (.slice x96 l97 c98)])] w80 (fun ch w => R (.panicked ch) w) fun v99 w100 =>
 ∃ y101 : Int, v99 = (.int .i64 y101) ∧
 (cond (y101 != (0 : Int))
 (J84 true w100)
 (∃ x102 : Int, w100.cell? ⟨b72, 0, none⟩ = some (.int .i64 x102) ∧
 ∃ x103 : Int, w100.cell? ⟨b72, 1, none⟩ = some (.int .i64 x103) ∧
 ∃ x104 : ByteArray, w100.cell? ⟨b72, 2, none⟩ = some (.string x104) ∧
 ∃ (x105 : Option Addr) (l106 c107 : Nat), w100.cell? ⟨b72, 3, none⟩ = some (.slice x105 l106 c107) ∧
 ∃ (x108 : Option Addr) (l109 c110 : Nat), w100.cell? ⟨b72, 4, none⟩ = some (.slice x108 l109 c110) ∧
 ∃ (x111 : Option Addr) (l112 c113 : Nat), w100.cell? ⟨b72, 5, none⟩ = some (.slice x111 l112 c113) ∧
 (CallR pg f_Paccum_State_Add [(.pointer y45), (.agg #[(.int .i64 x102), (.int .i64 x103), (.string x104), (.slice x105 l106 c107), (.slice x108 l109 c110), (.slice x111 l112 c113)])] w100 (fun ch w => R (.panicked ch) w) fun v114 w115 =>
 ∃ y116 : Int, v114 = (.int .i64 y116) ∧
 (cond (y116 != (0 : Int))
 (J84 true w115)
 (∃ x117 : Int, w115.cell? ⟨b72, 0, none⟩ = some (.int .i64 x117) ∧
 ∃ x118 : Int, w115.cell? ⟨b72, 1, none⟩ = some (.int .i64 x118) ∧
 ∃ x119 : ByteArray, w115.cell? ⟨b72, 2, none⟩ = some (.string x119) ∧
 ∃ (x120 : Option Addr) (l121 c122 : Nat), w115.cell? ⟨b72, 3, none⟩ = some (.slice x120 l121 c122) ∧
 ∃ (x123 : Option Addr) (l124 c125 : Nat), w115.cell? ⟨b72, 4, none⟩ = some (.slice x123 l124 c125) ∧
 ∃ (x126 : Option Addr) (l127 c128 : Nat), w115.cell? ⟨b72, 5, none⟩ = some (.slice x126 l127 c128) ∧
 (CallR pg f_Paccum_State_Add [(.pointer y48), (.agg #[(.int .i64 x117), (.int .i64 x118), (.string x119), (.slice x120 l121 c122), (.slice x123 l124 c125), (.slice x126 l127 c128)])] w115 (fun ch w => R (.panicked ch) w) fun v129 w130 =>
 ∃ y131 : Int, v129 = (.int .i64 y131) ∧
 (cond (y131 != (0 : Int))
 (J84 true w130)
 (∃ x132 : Int, w130.cell? ⟨b72, 0, none⟩ = some (.int .i64 x132) ∧
 ∃ x133 : Int, w130.cell? ⟨b72, 1, none⟩ = some (.int .i64 x133) ∧
 ∃ x134 : ByteArray, w130.cell? ⟨b72, 2, none⟩ = some (.string x134) ∧
 ∃ (x135 : Option Addr) (l136 c137 : Nat), w130.cell? ⟨b72, 3, none⟩ = some (.slice x135 l136 c137) ∧
 ∃ (x138 : Option Addr) (l139 c140 : Nat), w130.cell? ⟨b72, 4, none⟩ = some (.slice x138 l139 c140) ∧
 ∃ (x141 : Option Addr) (l142 c143 : Nat), w130.cell? ⟨b72, 5, none⟩ = some (.slice x141 l142 c143) ∧
 (CallR pg f_Paccum_State_Add [(.pointer y51), (.agg #[(.int .i64 x132), (.int .i64 x133), (.string x134), (.slice x135 l136 c137), (.slice x138 l139 c140), (.slice x141 l142 c143)])] w130 (fun ch w => R (.panicked ch) w) fun v144 w145 =>
 ∃ y146 : Int, v144 = (.int .i64 y146) ∧
 (cond (y146 != (0 : Int))
 (J84 true w145)
 (∃ x147 : Int, w145.cell? ⟨b72, 0, none⟩ = some (.int .i64 x147) ∧
 ∃ x148 : Int, w145.cell? ⟨b72, 1, none⟩ = some (.int .i64 x148) ∧
 ∃ x149 : ByteArray, w145.cell? ⟨b72, 2, none⟩ = some (.string x149) ∧
 ∃ (x150 : Option Addr) (l151 c152 : Nat), w145.cell? ⟨b72, 3, none⟩ = some (.slice x150 l151 c152) ∧
 ∃ (x153 : Option Addr) (l154 c155 : Nat), w145.cell? ⟨b72, 4, none⟩ = some (.slice x153 l154 c155) ∧
 ∃ (x156 : Option Addr) (l157 c158 : Nat), w145.cell? ⟨b72, 5, none⟩ = some (.slice x156 l157 c158) ∧
 (CallR pg f_Paccum_State_Add [(.pointer y54), (.agg #[(.int .i64 x147), (.int .i64 x148), (.string x149), (.slice x150 l151 c152), (.slice x153 l154 c155), (.slice x156 l157 c158)])] w145 (fun ch w => R (.panicked ch) w) fun v159 w160 =>
 ∃ y161 : Int, v159 = (.int .i64 y161) ∧
 (cond (y161 != (0 : Int))
 (J84 true w160)
 (∃ x162 : Int, w160.cell? ⟨b72, 0, none⟩ = some (.int .i64 x162) ∧
 ∃ x163 : Int, w160.cell? ⟨b72, 1, none⟩ = some (.int .i64 x163) ∧
 ∃ x164 : ByteArray, w160.cell? ⟨b72, 2, none⟩ = some (.string x164) ∧
 ∃ (x165 : Option Addr) (l166 c167 : Nat), w160.cell? ⟨b72, 3, none⟩ = some (.slice x165 l166 c167) ∧
 ∃ (x168 : Option Addr) (l169 c170 : Nat), w160.cell? ⟨b72, 4, none⟩ = some (.slice x168 l169 c170) ∧
 ∃ (x171 : Option Addr) (l172 c173 : Nat), w160.cell? ⟨b72, 5, none⟩ = some (.slice x171 l172 c173) ∧
 (CallR pg f_Paccum_State_Add [(.pointer y57), (.agg #[(.int .i64 x162), (.int .i64 x163), (.string x164), (.slice x165 l166 c167), (.slice x168 l169 c170), (.slice x171 l172 c173)])] w160 (fun ch w => R (.panicked ch) w) fun v174 w175 =>
 ∃ y176 : Int, v174 = (.int .i64 y176) ∧
 J84 (y176 != (0 : Int)) w175)))))))))))))))))
 (fun s85 w86 =>
 ∀ j177 : Nat → Value, (cond s85
 (R (.returned (.bool false)) w86)
 ((cond (decide (s64.2.2.2.2.2 < ((other_1l : Nat) : Int)))
 ((Meet (σ := Bool) (fun J178 =>
 (withSome other_1 fun (a181 : Addr) =>
 (0 ≤ s64.2.2.2.2.2 ∧ s64.2.2.2.2.2 < ((other_1l : Nat) : Int)) ∧
 ∃ x182 : Int, w86.cell? (a181.add ((s64.2.2.2.2.2).toNat * 6)) = some (.int .i64 x182) ∧
 ∃ x183 : Int, w86.cell? ((a181.add ((s64.2.2.2.2.2).toNat * 6)).add 1) = some (.int .i64 x183) ∧
 ∃ x184 : ByteArray, w86.cell? ((a181.add ((s64.2.2.2.2.2).toNat * 6)).add 2) = some (.string x184) ∧
 ∃ (x185 : Option Addr) (l186 c187 : Nat), w86.cell? ((a181.add ((s64.2.2.2.2.2).toNat * 6)).add 3) = some (.slice x185 l186 c187) ∧
 ∃ (x188 : Option Addr) (l189 c190 : Nat), w86.cell? ((a181.add ((s64.2.2.2.2.2).toNat * 6)).add 4) = some (.slice x188 l189 c190) ∧
 ∃ (x191 : Option Addr) (l192 c193 : Nat), w86.cell? ((a181.add ((s64.2.2.2.2.2).toNat * 6)).add 5) = some (.slice x191 l192 c193) ∧
 (CallR pg f_Paccum_State_Add [(.pointer y42), (.agg #[(.int .i64 x182), (.int .i64 x183), (.string x184), (.slice x185 l186 c187), (.slice x188 l189 c190), (.slice x191 l192 c193)])] w86 (fun ch w => R (.panicked ch) w) fun v194 w195 =>
 ∃ y196 : Int, v194 = (.int .i64 y196) ∧
 (cond (y196 != (0 : Int))
 (J178 true w195)
 ((withSome other_1 fun (a197 : Addr) =>
 (0 ≤ s64.2.2.2.2.2 ∧ s64.2.2.2.2.2 < ((other_1l : Nat) : Int)) ∧
 ∃ x198 : Int, w195.cell? (a197.add ((s64.2.2.2.2.2).toNat * 6)) = some (.int .i64 x198) ∧
 ∃ x199 : Int, w195.cell? ((a197.add ((s64.2.2.2.2.2).toNat * 6)).add 1) = some (.int .i64 x199) ∧
 ∃ x200 : ByteArray, w195.cell? ((a197.add ((s64.2.2.2.2.2).toNat * 6)).add 2) = some (.string x200) ∧
 ∃ (x201 : Option Addr) (l202 c203 : Nat), w195.cell? ((a197.add ((s64.2.2.2.2.2).toNat * 6)).add 3) = some (.slice x201 l202 c203) ∧
 ∃ (x204 : Option Addr) (l205 c206 : Nat), w195.cell? ((a197.add ((s64.2.2.2.2.2).toNat * 6)).add 4) = some (.slice x204 l205 c206) ∧
 ∃ (x207 : Option Addr) (l208 c209 : Nat), w195.cell? ((a197.add ((s64.2.2.2.2.2).toNat * 6)).add 5) = some (.slice x207 l208 c209) ∧
 (CallR pg f_Paccum_State_Add [(.pointer y57), (.agg #[(.int .i64 x198), (.int .i64 x199), (.string x200), (.slice x201 l202 c203), (.slice x204 l205 c206), (.slice x207 l208 c209)])] w195 (fun ch w => R (.panicked ch) w) fun v210 w211 =>
 ∃ y212 : Int, v210 = (.int .i64 y212) ∧
 J178 (y212 != (0 : Int)) w211)))))))
 (fun s179 w180 =>
 ∀ j213 : Nat → Value, (cond s179
 (R (.returned (.bool false)) w180)
 (J67 ((IntKind.i64.wrap (s64.1 + x81)), (if x82 < s64.2.1 then x82 else s64.2.1), (if x83 > s64.2.2.1 then x83 else s64.2.2.1), s64.2.2.2.1, (IntKind.i64.wrap ((IntKind.i64.wrap (s64.2.2.2.2.1 + (1 : Int))) + (1 : Int)))) w180)))))
 (J67 ((IntKind.i64.wrap (s64.1 + x81)), (if x82 < s64.2.1 then x82 else s64.2.1), (if x83 > s64.2.2.1 then x83 else s64.2.2.1), s64.2.2.2.1, (IntKind.i64.wrap (s64.2.2.2.2.1 + (1 : Int)))) w86))))))))))))))))
 (fun s68 w69 =>
 ∀ j214 : Nat → Value, X63 (s68.1, s68.2.1, s68.2.2.1, s68.2.2.2.1, s68.2.2.2.2, (IntKind.i64.wrap (s64.2.2.2.2.2 + (1 : Int)))) w69)))
 ((Meet (σ := Bool) (fun J215 =>
 (Drew w65 fun w218 =>
 (CallR pg f_Paccum_State_Value [(.pointer y42)] w218 (fun ch w => R (.panicked ch) w) fun v219 w220 =>
 ∃ y221 : Int, ∃ y222 : Int, ∃ y223 : ByteArray, ∃ (y224 : Option Addr) (l225 c226 : Nat), ∃ (y227 : Option Addr) (l228 c229 : Nat), ∃ (y230 : Option Addr) (l231 c232 : Nat), v219 = (.agg #[(.int .i64 y221), (.int .i64 y222), (.string y223), (.slice y224 l225 c226), (.slice y227 l228 c229), (.slice y230 l231 c232)]) ∧
 (cond (y222 == s64.1)
 ((CallR pg f_Paccum_State_Value [(.pointer y42)] w220 (fun ch w => R (.panicked ch) w) fun v233 w234 =>
 ∃ y235 : Int, ∃ y236 : Int, ∃ y237 : ByteArray, ∃ (y238 : Option Addr) (l239 c240 : Nat), ∃ (y241 : Option Addr) (l242 c243 : Nat), ∃ (y244 : Option Addr) (l245 c246 : Nat), v233 = (.agg #[(.int .i64 y235), (.int .i64 y236), (.string y237), (.slice y238 l239 c240), (.slice y241 l242 c243), (.slice y244 l245 c246)]) ∧
 (cond (y235 == (3 : Int))
 ((CallR pg f_Paccum_State_Value [(.pointer y45)] w234 (fun ch w => R (.panicked ch) w) fun v247 w248 =>
 ∃ y249 : Int, ∃ y250 : Int, ∃ y251 : ByteArray, ∃ (y252 : Option Addr) (l253 c254 : Nat), ∃ (y255 : Option Addr) (l256 c257 : Nat), ∃ (y258 : Option Addr) (l259 c260 : Nat), v247 = (.agg #[(.int .i64 y249), (.int .i64 y250), (.string y251), (.slice y252 l253 c254), (.slice y255 l256 c257), (.slice y258 l259 c260)]) ∧
 (cond (y250 == s64.2.1)
 ((CallR pg f_Paccum_State_Value [(.pointer y48)] w248 (fun ch w => R (.panicked ch) w) fun v261 w262 =>
 ∃ y263 : Int, ∃ y264 : Int, ∃ y265 : ByteArray, ∃ (y266 : Option Addr) (l267 c268 : Nat), ∃ (y269 : Option Addr) (l270 c271 : Nat), ∃ (y272 : Option Addr) (l273 c274 : Nat), v261 = (.agg #[(.int .i64 y263), (.int .i64 y264), (.string y265), (.slice y266 l267 c268), (.slice y269 l270 c271), (.slice y272 l273 c274)]) ∧
 (cond (y264 == s64.2.2.1)
 ((withSome l_0 fun (a275 : Addr) =>
 (0 ≤ (0 : Int) ∧ (0 : Int) < ((l_0l : Nat) : Int)) ∧
 ∃ x276 : Int, w262.cell? (a275.add (((0 : Int)).toNat * 1)) = some (.int .i16 x276) ∧
 (CallR pg f_Paccum_State_Value [(.pointer y51)] w262 (fun ch w => R (.panicked ch) w) fun v277 w278 =>
 ∃ y279 : Int, ∃ y280 : Int, ∃ y281 : ByteArray, ∃ (y282 : Option Addr) (l283 c284 : Nat), ∃ (y285 : Option Addr) (l286 c287 : Nat), ∃ (y288 : Option Addr) (l289 c290 : Nat), v277 = (.agg #[(.int .i64 y279), (.int .i64 y280), (.string y281), (.slice y282 l283 c284), (.slice y285 l286 c287), (.slice y288 l289 c290)]) ∧
 (w278.cell? (a275.add (((0 : Int)).toNat * 1)) = some (.int .i16 x276)) ∧ (cond (y280 == (IntKind.i64.wrap x276))
 ((withSome l_0 fun (a291 : Addr) =>
 (0 ≤ (IntKind.i64.wrap (((l_0l : Nat) : Int) - (1 : Int))) ∧ (IntKind.i64.wrap (((l_0l : Nat) : Int) - (1 : Int))) < ((l_0l : Nat) : Int)) ∧
 ∃ x292 : Int, w278.cell? (a291.add (((IntKind.i64.wrap (((l_0l : Nat) : Int) - (1 : Int)))).toNat * 1)) = some (.int .i16 x292) ∧
 (CallR pg f_Paccum_State_Value [(.pointer y54)] w278 (fun ch w => R (.panicked ch) w) fun v293 w294 =>
 ∃ y295 : Int, ∃ y296 : Int, ∃ y297 : ByteArray, ∃ (y298 : Option Addr) (l299 c300 : Nat), ∃ (y301 : Option Addr) (l302 c303 : Nat), ∃ (y304 : Option Addr) (l305 c306 : Nat), v293 = (.agg #[(.int .i64 y295), (.int .i64 y296), (.string y297), (.slice y298 l299 c300), (.slice y301 l302 c303), (.slice y304 l305 c306)]) ∧
 (w294.cell? (a291.add (((IntKind.i64.wrap (((l_0l : Nat) : Int) - (1 : Int)))).toNat * 1)) = some (.int .i16 x292)) ∧ (cond (y296 == (IntKind.i64.wrap x292))
 ((CallR pg f_Paccum_State_Value [(.pointer y57)] w294 (fun ch w => R (.panicked ch) w) fun v307 w308 =>
 ∃ y309 : Int, ∃ y310 : Int, ∃ y311 : ByteArray, ∃ (y312 : Option Addr) (l313 c314 : Nat), ∃ (y315 : Option Addr) (l316 c317 : Nat), ∃ (y318 : Option Addr) (l319 c320 : Nat), v307 = (.agg #[(.int .i64 y309), (.int .i64 y310), (.string y311), (.slice y312 l313 c314), (.slice y315 l316 c317), (.slice y318 l319 c320)]) ∧
 J215 (y310 == s64.2.2.2.2.1) w308))
 (J215 false w294)))))
 (J215 false w278)))))
 (J215 false w262))))
 (J215 false w248))))
 (J215 false w234))))
 (J215 false w220)))))
 (fun s216 w217 =>
 ∀ j321 : Nat → Value, R (.returned (.bool s216)) w217))))) ((0 : Int), (IntKind.i64.wrap x60), (IntKind.i64.wrap x62), s11.1, (0 : Int), (0 : Int)) w58))))))))))))) (false, (0 : Int)) w5))))))))
theorem e_aqueductlaw12_AccumOrder (l_0 : Option Addr) (l_0l l_0c : Nat) (other_1 : Option Addr) (other_1l other_1c : Nat) (w : World) (R : Ending → World → Prop) : funcX pg T bl Tryd.f3 [(.slice l_0 l_0l l_0c), (.slice other_1 other_1l other_1c)] w R = c_aqueductlaw12_AccumOrder l_0 l_0l l_0c  other_1 other_1l other_1c  w R := by kernel_rfl
theorem of_aqueductlaw12_AccumOrder (l_0 : Option Addr) (l_0l l_0c : Nat) (other_1 : Option Addr) (other_1l other_1c : Nat) {w : World} {R : Ending → World → Prop} (h : c_aqueductlaw12_AccumOrder l_0 l_0l l_0c  other_1 other_1l other_1c  w R) : Calls pg f_aqueductlaw12_AccumOrder #[(.slice l_0 l_0l l_0c), (.slice other_1 other_1l other_1c)] w R :=
  funcX_of mixed tok blok Tryd.func3 (args := [(.slice l_0 l_0l l_0c), (.slice other_1 other_1l other_1c)]) (e_aqueductlaw12_AccumOrder l_0 l_0l l_0c  other_1 other_1l other_1c  w R) h
/-- aqueduct/aqueductlaw7.Few -/
def c_aqueductlaw7_Few (l_0 : Option Addr) (l_0l l_0c : Nat) (w : World) (R : Ending → World → Prop) : Prop :=
 (Eng.Loop (σ := Bool × Int × Int) (fun X0 s1 w2 =>
 ∀ j3 : Nat → Value, (cond (decide (s1.2.2 < ((l_0l : Nat) : Int)))
 ((withSome l_0 fun (a4 : Addr) =>
 (0 ≤ s1.2.2 ∧ s1.2.2 < ((l_0l : Nat) : Int)) ∧
 ∃ x5 : Int, w2.cell? (a4.add ((s1.2.2).toNat * 6)) = some (.int .i64 x5) ∧
 ∃ x6 : Int, w2.cell? ((a4.add ((s1.2.2).toNat * 6)).add 1) = some (.int .i64 x6) ∧
 ∃ x7 : ByteArray, w2.cell? ((a4.add ((s1.2.2).toNat * 6)).add 2) = some (.string x7) ∧
 ∃ (x8 : Option Addr) (l9 c10 : Nat), w2.cell? ((a4.add ((s1.2.2).toNat * 6)).add 3) = some (.slice x8 l9 c10) ∧
 ∃ (x11 : Option Addr) (l12 c13 : Nat), w2.cell? ((a4.add ((s1.2.2).toNat * 6)).add 4) = some (.slice x11 l12 c13) ∧
 ∃ (x14 : Option Addr) (l15 c16 : Nat), w2.cell? ((a4.add ((s1.2.2).toNat * 6)).add 5) = some (.slice x14 l15 c16) ∧
 (CallR pg f_aqueductlaw5_Small [(.agg #[(.int .i64 x5), (.int .i64 x6), (.string x7), (.slice x8 l9 c10), (.slice x11 l12 c13), (.slice x14 l15 c16)])] w2 (fun ch w => R (.panicked ch) w) fun v17 w18 =>
 ∃ y19 : Bool, v17 = (.bool y19) ∧
 (cond (!y19)
 (R (.returned (.bool false)) w18)
 ((withSome l_0 fun (a20 : Addr) =>
 (0 ≤ s1.2.2 ∧ s1.2.2 < ((l_0l : Nat) : Int)) ∧
 ∃ x21 : Int, w18.cell? (a20.add ((s1.2.2).toNat * 6)) = some (.int .i64 x21) ∧
 ∃ x22 : Int, w18.cell? ((a20.add ((s1.2.2).toNat * 6)).add 1) = some (.int .i64 x22) ∧
 ∃ x23 : ByteArray, w18.cell? ((a20.add ((s1.2.2).toNat * 6)).add 2) = some (.string x23) ∧
 ∃ (x24 : Option Addr) (l25 c26 : Nat), w18.cell? ((a20.add ((s1.2.2).toNat * 6)).add 3) = some (.slice x24 l25 c26) ∧
 ∃ (x27 : Option Addr) (l28 c29 : Nat), w18.cell? ((a20.add ((s1.2.2).toNat * 6)).add 4) = some (.slice x27 l28 c29) ∧
 ∃ (x30 : Option Addr) (l31 c32 : Nat), w18.cell? ((a20.add ((s1.2.2).toNat * 6)).add 5) = some (.slice x30 l31 c32) ∧
 (CallR pg f_aqueductlaw5_Weight [(.agg #[(.int .i64 x21), (.int .i64 x22), (.string x23), (.slice x24 l25 c26), (.slice x27 l28 c29), (.slice x30 l31 c32)]), (.int .i64 (3000 : Int))] w18 (fun ch w => R (.panicked ch) w) fun v33 w34 =>
 ∃ y35 : Int, v33 = (.int .i64 y35) ∧
 X0 (s1.1, (IntKind.i64.wrap (s1.2.1 + y35)), (IntKind.i64.wrap (s1.2.2 + (1 : Int)))) w34)))))))
 ((Meet (σ := Bool) (fun J36 =>
 (cond (decide (((l_0l : Nat) : Int) ≤ (30 : Int)))
 (J36 (decide (s1.2.1 ≤ (6000 : Int))) w2)
 (J36 false w2)))
 (fun s37 w38 =>
 ∀ j39 : Nat → Value, R (.returned (.bool s37)) w38))))) (false, (0 : Int), (0 : Int)) w)
theorem e_aqueductlaw7_Few (l_0 : Option Addr) (l_0l l_0c : Nat) (w : World) (R : Ending → World → Prop) : funcX pg T bl Tryd.f6 [(.slice l_0 l_0l l_0c)] w R = c_aqueductlaw7_Few l_0 l_0l l_0c  w R := by kernel_rfl
theorem of_aqueductlaw7_Few (l_0 : Option Addr) (l_0l l_0c : Nat) {w : World} {R : Ending → World → Prop} (h : c_aqueductlaw7_Few l_0 l_0l l_0c  w R) : Calls pg f_aqueductlaw7_Few #[(.slice l_0 l_0l l_0c)] w R :=
  funcX_of mixed tok blok Tryd.func6 (args := [(.slice l_0 l_0l l_0c)]) (e_aqueductlaw7_Few l_0 l_0l l_0c  w R) h
/-- aqueduct/aqueductref5.May -/
def c_aqueductref5_May (v_0x0 : Int) (v_0x1 : Int) (v_0x2 : ByteArray) (v_0x3 : Option Addr) (v_0x3l v_0x3c : Nat) (v_0x4 : Option Addr) (v_0x4l v_0x4c : Nat) (v_0x5 : Option Addr) (v_0x5l v_0x5c : Nat) (w : World) (R : Ending → World → Prop) : Prop :=
 (New w (.cells #[(.int .i64 v_0x0), (.int .i64 v_0x1), (.string v_0x2), (.slice v_0x3 v_0x3l v_0x3c), (.slice v_0x4 v_0x4l v_0x4c), (.slice v_0x5 v_0x5l v_0x5c)] t_api_Value (0, 0)) fun b0 w1 =>
 ∃ x2 : Int, w1.cell? ⟨b0, 0, none⟩ = some (.int .i64 x2) ∧
 ∃ x3 : Int, w1.cell? ⟨b0, 1, none⟩ = some (.int .i64 x3) ∧
 ∃ x4 : ByteArray, w1.cell? ⟨b0, 2, none⟩ = some (.string x4) ∧
 ∃ (x5 : Option Addr) (l6 c7 : Nat), w1.cell? ⟨b0, 3, none⟩ = some (.slice x5 l6 c7) ∧
 ∃ (x8 : Option Addr) (l9 c10 : Nat), w1.cell? ⟨b0, 4, none⟩ = some (.slice x8 l9 c10) ∧
 ∃ (x11 : Option Addr) (l12 c13 : Nat), w1.cell? ⟨b0, 5, none⟩ = some (.slice x11 l12 c13) ∧
 (CallR pg f_aqueductref5_Encode [(.agg #[(.int .i64 x2), (.int .i64 x3), (.string x4), (.slice x5 l6 c7), (.slice x8 l9 c10), (.slice x11 l12 c13)])] w1 (fun ch w => R (.panicked ch) w) fun v14 w15 =>
 ∃ (y16 : Option Addr) (l17 c18 : Nat), ∃ y19 : Int, v14 = (.tuple #[(.slice y16 l17 c18), (.int .i64 y19)]) ∧
 R (.returned (.bool (y19 == (0 : Int)))) w15))
theorem e_aqueductref5_May (v_0x0 : Int) (v_0x1 : Int) (v_0x2 : ByteArray) (v_0x3 : Option Addr) (v_0x3l v_0x3c : Nat) (v_0x4 : Option Addr) (v_0x4l v_0x4c : Nat) (v_0x5 : Option Addr) (v_0x5l v_0x5c : Nat) (w : World) (R : Ending → World → Prop) : funcX pg T bl Tryd.f7 [(.agg #[(.int .i64 v_0x0), (.int .i64 v_0x1), (.string v_0x2), (.slice v_0x3 v_0x3l v_0x3c), (.slice v_0x4 v_0x4l v_0x4c), (.slice v_0x5 v_0x5l v_0x5c)])] w R = c_aqueductref5_May v_0x0  v_0x1  v_0x2  v_0x3 v_0x3l v_0x3c  v_0x4 v_0x4l v_0x4c  v_0x5 v_0x5l v_0x5c  w R := by kernel_rfl
theorem of_aqueductref5_May (v_0x0 : Int) (v_0x1 : Int) (v_0x2 : ByteArray) (v_0x3 : Option Addr) (v_0x3l v_0x3c : Nat) (v_0x4 : Option Addr) (v_0x4l v_0x4c : Nat) (v_0x5 : Option Addr) (v_0x5l v_0x5c : Nat) {w : World} {R : Ending → World → Prop} (h : c_aqueductref5_May v_0x0  v_0x1  v_0x2  v_0x3 v_0x3l v_0x3c  v_0x4 v_0x4l v_0x4c  v_0x5 v_0x5l v_0x5c  w R) : Calls pg f_aqueductref5_May #[(.agg #[(.int .i64 v_0x0), (.int .i64 v_0x1), (.string v_0x2), (.slice v_0x3 v_0x3l v_0x3c), (.slice v_0x4 v_0x4l v_0x4c), (.slice v_0x5 v_0x5l v_0x5c)])] w R :=
  funcX_of mixed tok blok Tryd.func7 (args := [(.agg #[(.int .i64 v_0x0), (.int .i64 v_0x1), (.string v_0x2), (.slice v_0x3 v_0x3l v_0x3c), (.slice v_0x4 v_0x4l v_0x4c), (.slice v_0x5 v_0x5l v_0x5c)])]) (e_aqueductref5_May v_0x0  v_0x1  v_0x2  v_0x3 v_0x3l v_0x3c  v_0x4 v_0x4l v_0x4c  v_0x5 v_0x5l v_0x5c  w R) h
/-- (*aqueduct/accum.State).Value -/
def c_Paccum_State_Value (s_0 : Option Addr) (w : World) (R : Ending → World → Prop) : Prop :=
 (New w (.cells #[(.int .i64 (0 : Int)), (.int .i64 (0 : Int)), (.string (⟨#[]⟩ : ByteArray)), (.slice none 0 0), (.slice none 0 0), (.slice none 0 0)] t_api_Value (0, 0)) fun b0 w1 =>
 (Meet (σ := Bool) (fun J2 =>
 (cond s_0.isNone
 (J2 true w1)
 ((withSome s_0 fun (a5 : Addr) =>
 ∃ x6 : Value, w1.cell? a5 = some x6 ∧
 (isNilFn x6 fun q7 =>
 J2 q7 w1)))))
 (fun s3 w4 =>
 ∀ j8 : Nat → Value, (cond s3
 ((St w4 ⟨b0, 0, none⟩ (.int .i64 (0 : Int)) fun w9 =>
 (St w9 ⟨b0, 1, none⟩ (.int .i64 (0 : Int)) fun w10 =>
 (St w10 ⟨b0, 2, none⟩ (.string (⟨#[]⟩ : ByteArray)) fun w11 =>
 (St w11 ⟨b0, 3, none⟩ (.slice none 0 0) fun w12 =>
 (St w12 ⟨b0, 4, none⟩ (.slice none 0 0) fun w13 =>
 (St w13 ⟨b0, 5, none⟩ (.slice none 0 0) fun w14 =>
 ∃ x15 : Int, w14.cell? ⟨b0, 0, none⟩ = some (.int .i64 x15) ∧
 ∃ x16 : Int, w14.cell? ⟨b0, 1, none⟩ = some (.int .i64 x16) ∧
 ∃ x17 : ByteArray, w14.cell? ⟨b0, 2, none⟩ = some (.string x17) ∧
 ∃ (x18 : Option Addr) (l19 c20 : Nat), w14.cell? ⟨b0, 3, none⟩ = some (.slice x18 l19 c20) ∧
 ∃ (x21 : Option Addr) (l22 c23 : Nat), w14.cell? ⟨b0, 4, none⟩ = some (.slice x21 l22 c23) ∧
 ∃ (x24 : Option Addr) (l25 c26 : Nat), w14.cell? ⟨b0, 5, none⟩ = some (.slice x24 l25 c26) ∧
 R (.returned (.agg #[(.int .i64 x15), (.int .i64 x16), (.string x17), (.slice x18 l19 c20), (.slice x21 l22 c23), (.slice x24 l25 c26)])) w14)))))))
 ((withSome s_0 fun (a27 : Addr) =>
 ∃ x28 : Bool, w4.cell? (a27.add 9) = some (.bool x28) ∧
 (cond x28
 ((withSome s_0 fun (a29 : Addr) =>
 ∃ x30 : Int, w4.cell? (a29.add 1) = some (.int .i64 x30) ∧
 (CallR pg f_num_Of [(.int .i64 x30)] w4 (fun ch w => R (.panicked ch) w) fun v31 w32 =>
 ∃ y33 : Int, ∃ y34 : Int, ∃ y35 : ByteArray, ∃ (y36 : Option Addr) (l37 c38 : Nat), ∃ (y39 : Option Addr) (l40 c41 : Nat), ∃ (y42 : Option Addr) (l43 c44 : Nat), v31 = (.agg #[(.int .i64 y33), (.int .i64 y34), (.string y35), (.slice y36 l37 c38), (.slice y39 l40 c41), (.slice y42 l43 c44)]) ∧
 (St w32 ⟨b0, 0, none⟩ (.int .i64 y33) fun w45 =>
 (St w45 ⟨b0, 1, none⟩ (.int .i64 y34) fun w46 =>
 (St w46 ⟨b0, 2, none⟩ (.string y35) fun w47 =>
 (St w47 ⟨b0, 3, none⟩ (.slice y36 l37 c38) fun w48 =>
 (St w48 ⟨b0, 4, none⟩ (.slice y39 l40 c41) fun w49 =>
 (St w49 ⟨b0, 5, none⟩ (.slice y42 l43 c44) fun w50 =>
 ∃ x51 : Int, w50.cell? ⟨b0, 0, none⟩ = some (.int .i64 x51) ∧
 ∃ x52 : Int, w50.cell? ⟨b0, 1, none⟩ = some (.int .i64 x52) ∧
 ∃ x53 : ByteArray, w50.cell? ⟨b0, 2, none⟩ = some (.string x53) ∧
 ∃ (x54 : Option Addr) (l55 c56 : Nat), w50.cell? ⟨b0, 3, none⟩ = some (.slice x54 l55 c56) ∧
 ∃ (x57 : Option Addr) (l58 c59 : Nat), w50.cell? ⟨b0, 4, none⟩ = some (.slice x57 l58 c59) ∧
 ∃ (x60 : Option Addr) (l61 c62 : Nat), w50.cell? ⟨b0, 5, none⟩ = some (.slice x60 l61 c62) ∧
 R (.returned (.agg #[(.int .i64 x51), (.int .i64 x52), (.string x53), (.slice x54 l55 c56), (.slice x57 l58 c59), (.slice x60 l61 c62)])) w50)))))))))
 ((withSome s_0 fun (a63 : Addr) =>
 ∃ x64 : Int, w4.cell? (a63.add 2) = some (.int .i64 x64) ∧
 (cond (x64 == (0 : Int))
 ((St w4 ⟨b0, 0, none⟩ (.int .i64 (2 : Int)) fun w65 =>
 (St w65 ⟨b0, 1, none⟩ (.int .i64 (0 : Int)) fun w66 =>
 (St w66 ⟨b0, 2, none⟩ (.string (⟨#[]⟩ : ByteArray)) fun w67 =>
 (St w67 ⟨b0, 3, none⟩ (.slice none 0 0) fun w68 =>
 (St w68 ⟨b0, 4, none⟩ (.slice none 0 0) fun w69 =>
 (St w69 ⟨b0, 5, none⟩ (.slice none 0 0) fun w70 =>
 ∃ x71 : Int, w70.cell? ⟨b0, 0, none⟩ = some (.int .i64 x71) ∧
 ∃ x72 : Int, w70.cell? ⟨b0, 1, none⟩ = some (.int .i64 x72) ∧
 ∃ x73 : ByteArray, w70.cell? ⟨b0, 2, none⟩ = some (.string x73) ∧
 ∃ (x74 : Option Addr) (l75 c76 : Nat), w70.cell? ⟨b0, 3, none⟩ = some (.slice x74 l75 c76) ∧
 ∃ (x77 : Option Addr) (l78 c79 : Nat), w70.cell? ⟨b0, 4, none⟩ = some (.slice x77 l78 c79) ∧
 ∃ (x80 : Option Addr) (l81 c82 : Nat), w70.cell? ⟨b0, 5, none⟩ = some (.slice x80 l81 c82) ∧
 R (.returned (.agg #[(.int .i64 x71), (.int .i64 x72), (.string x73), (.slice x74 l75 c76), (.slice x77 l78 c79), (.slice x80 l81 c82)])) w70)))))))
 ((withSome s_0 fun (a83 : Addr) =>
 ∃ x84 : Int, w4.cell? (a83.add 2) = some (.int .i64 x84) ∧
 ∃ x85 : Int, w4.cell? ((a83.add 2).add 1) = some (.int .i64 x85) ∧
 ∃ x86 : ByteArray, w4.cell? ((a83.add 2).add 2) = some (.string x86) ∧
 ∃ (x87 : Option Addr) (l88 c89 : Nat), w4.cell? ((a83.add 2).add 3) = some (.slice x87 l88 c89) ∧
 ∃ (x90 : Option Addr) (l91 c92 : Nat), w4.cell? ((a83.add 2).add 4) = some (.slice x90 l91 c92) ∧
 ∃ (x93 : Option Addr) (l94 c95 : Nat), w4.cell? ((a83.add 2).add 5) = some (.slice x93 l94 c95) ∧
 (CallR pg f_bson_Copy [(.agg #[(.int .i64 x84), (.int .i64 x85), (.string x86), (.slice x87 l88 c89), (.slice x90 l91 c92), (.slice x93 l94 c95)])] w4 (fun ch w => R (.panicked ch) w) fun v96 w97 =>
 ∃ y98 : Int, ∃ y99 : Int, ∃ y100 : ByteArray, ∃ (y101 : Option Addr) (l102 c103 : Nat), ∃ (y104 : Option Addr) (l105 c106 : Nat), ∃ (y107 : Option Addr) (l108 c109 : Nat), v96 = (.agg #[(.int .i64 y98), (.int .i64 y99), (.string y100), (.slice y101 l102 c103), (.slice y104 l105 c106), (.slice y107 l108 c109)]) ∧
 (St w97 ⟨b0, 0, none⟩ (.int .i64 y98) fun w110 =>
 (St w110 ⟨b0, 1, none⟩ (.int .i64 y99) fun w111 =>
 (St w111 ⟨b0, 2, none⟩ (.string y100) fun w112 =>
 (St w112 ⟨b0, 3, none⟩ (.slice y101 l102 c103) fun w113 =>
 (St w113 ⟨b0, 4, none⟩ (.slice y104 l105 c106) fun w114 =>
 (St w114 ⟨b0, 5, none⟩ (.slice y107 l108 c109) fun w115 =>
 ∃ x116 : Int, w115.cell? ⟨b0, 0, none⟩ = some (.int .i64 x116) ∧
 ∃ x117 : Int, w115.cell? ⟨b0, 1, none⟩ = some (.int .i64 x117) ∧
 ∃ x118 : ByteArray, w115.cell? ⟨b0, 2, none⟩ = some (.string x118) ∧
 ∃ (x119 : Option Addr) (l120 c121 : Nat), w115.cell? ⟨b0, 3, none⟩ = some (.slice x119 l120 c121) ∧
 ∃ (x122 : Option Addr) (l123 c124 : Nat), w115.cell? ⟨b0, 4, none⟩ = some (.slice x122 l123 c124) ∧
 ∃ (x125 : Option Addr) (l126 c127 : Nat), w115.cell? ⟨b0, 5, none⟩ = some (.slice x125 l126 c127) ∧
 R (.returned (.agg #[(.int .i64 x116), (.int .i64 x117), (.string x118), (.slice x119 l120 c121), (.slice x122 l123 c124), (.slice x125 l126 c127)])) w115)))))))))))))))))))
theorem e_Paccum_State_Value (s_0 : Option Addr) (w : World) (R : Ending → World → Prop) : funcX pg T bl Tryd.f10 [(.pointer s_0)] w R = c_Paccum_State_Value s_0  w R := by kernel_rfl
theorem of_Paccum_State_Value (s_0 : Option Addr) {w : World} {R : Ending → World → Prop} (h : c_Paccum_State_Value s_0  w R) : Calls pg f_Paccum_State_Value #[(.pointer s_0)] w R :=
  funcX_of mixed tok blok Tryd.func10 (args := [(.pointer s_0)]) (e_Paccum_State_Value s_0  w R) h
/-- aqueduct/accum.Kind -/
def c_accum_Kind (name_0 : ByteArray) (w : World) (R : Ending → World → Prop) : Prop :=
 (cond (name_0.toList == (⟨#[36, 115, 117, 109]⟩ : ByteArray).toList)
 (R (.returned (.int .i64 (1 : Int))) w)
 ((cond (name_0.toList == (⟨#[36, 109, 105, 110]⟩ : ByteArray).toList)
 (R (.returned (.int .i64 (2 : Int))) w)
 ((cond (name_0.toList == (⟨#[36, 109, 97, 120]⟩ : ByteArray).toList)
 (R (.returned (.int .i64 (3 : Int))) w)
 ((cond (name_0.toList == (⟨#[36, 102, 105, 114, 115, 116]⟩ : ByteArray).toList)
 (R (.returned (.int .i64 (4 : Int))) w)
 ((cond (name_0.toList == (⟨#[36, 108, 97, 115, 116]⟩ : ByteArray).toList)
 (R (.returned (.int .i64 (5 : Int))) w)
 ((cond (name_0.toList == (⟨#[36, 112, 117, 115, 104]⟩ : ByteArray).toList)
 (R (.returned (.int .i64 (6 : Int))) w)
 ((cond (name_0.toList == (⟨#[36, 97, 100, 100, 84, 111, 83, 101, 116]⟩ : ByteArray).toList)
 (R (.returned (.int .i64 (7 : Int))) w)
 ((cond (name_0.toList == (⟨#[36, 99, 111, 117, 110, 116]⟩ : ByteArray).toList)
 (R (.returned (.int .i64 (8 : Int))) w)
 (R (.returned (.int .i64 (0 : Int))) w))))))))))))))))
theorem e_accum_Kind (name_0 : ByteArray) (w : World) (R : Ending → World → Prop) : funcX pg T bl Tryd.f12 [(.string name_0)] w R = c_accum_Kind name_0  w R := by kernel_rfl
theorem of_accum_Kind (name_0 : ByteArray) {w : World} {R : Ending → World → Prop} (h : c_accum_Kind name_0  w R) : Calls pg f_accum_Kind #[(.string name_0)] w R :=
  funcX_of mixed tok blok Tryd.func12 (args := [(.string name_0)]) (e_accum_Kind name_0  w R) h
/-- aqueduct/aqueductlaw5.Weight -/
def c_aqueductlaw5_Weight (v_0x0 : Int) (v_0x1 : Int) (v_0x2 : ByteArray) (v_0x3 : Option Addr) (v_0x3l v_0x3c : Nat) (v_0x4 : Option Addr) (v_0x4l v_0x4c : Nat) (v_0x5 : Option Addr) (v_0x5l v_0x5c : Nat) (most_1 : Int) (w : World) (R : Ending → World → Prop) : Prop :=
 (New w (.cells #[(.int .i64 v_0x0), (.int .i64 v_0x1), (.string v_0x2), (.slice v_0x3 v_0x3l v_0x3c), (.slice v_0x4 v_0x4l v_0x4c), (.slice v_0x5 v_0x5l v_0x5c)] t_api_Value (0, 0)) fun b0 w1 =>
 ∃ x2 : ByteArray, w1.cell? ⟨b0, 2, none⟩ = some (.string x2) ∧
 ∃ (x3 : Option Addr) (l4 c5 : Nat), w1.cell? ⟨b0, 3, none⟩ = some (.slice x3 l4 c5) ∧
 (Eng.Loop (σ := Int × Int) (fun X6 s7 w8 =>
 ∀ j9 : Nat → Value, (Meet (σ := Bool) (fun J10 =>
 ∃ (x13 : Option Addr) (l14 c15 : Nat), w8.cell? ⟨b0, 4, none⟩ = some (.slice x13 l14 c15) ∧
 (cond (decide (s7.2 < ((l14 : Nat) : Int)))
 (J10 (decide (s7.1 ≤ most_1)) w8)
 (J10 false w8)))
 (fun s11 w12 =>
 ∀ j16 : Nat → Value, (cond s11
 ((Drew w12 fun w17 =>
 ∃ (x18 : Option Addr) (l19 c20 : Nat), w17.cell? ⟨b0, 4, none⟩ = some (.slice x18 l19 c20) ∧
 (withSome x18 fun (a21 : Addr) =>
 (0 ≤ s7.2 ∧ s7.2 < ((l19 : Nat) : Int)) ∧
 ∃ x22 : ByteArray, w17.cell? (a21.add ((s7.2).toNat * 7)) = some (.string x22) ∧
 ∃ (x23 : Option Addr) (l24 c25 : Nat), w17.cell? ⟨b0, 4, none⟩ = some (.slice x23 l24 c25) ∧
 (withSome x23 fun (a26 : Addr) =>
 (0 ≤ s7.2 ∧ s7.2 < ((l24 : Nat) : Int)) ∧
 ∃ x27 : Int, w17.cell? ((a26.add ((s7.2).toNat * 7)).add 1) = some (.int .i64 x27) ∧
 ∃ x28 : Int, w17.cell? (((a26.add ((s7.2).toNat * 7)).add 1).add 1) = some (.int .i64 x28) ∧
 ∃ x29 : ByteArray, w17.cell? (((a26.add ((s7.2).toNat * 7)).add 1).add 2) = some (.string x29) ∧
 ∃ (x30 : Option Addr) (l31 c32 : Nat), w17.cell? (((a26.add ((s7.2).toNat * 7)).add 1).add 3) = some (.slice x30 l31 c32) ∧
 ∃ (x33 : Option Addr) (l34 c35 : Nat), w17.cell? (((a26.add ((s7.2).toNat * 7)).add 1).add 4) = some (.slice x33 l34 c35) ∧
 ∃ (x36 : Option Addr) (l37 c38 : Nat), w17.cell? (((a26.add ((s7.2).toNat * 7)).add 1).add 5) = some (.slice x36 l37 c38) ∧
 (CallR pg f_aqueductlaw5_Weight [(.agg #[(.int .i64 x27), (.int .i64 x28), (.string x29), (.slice x30 l31 c32), (.slice x33 l34 c35), (.slice x36 l37 c38)]), (.int .i64 (IntKind.i64.wrap (most_1 - s7.1)))] w17 (fun ch w => R (.panicked ch) w) fun v39 w40 =>
 ∃ y41 : Int, v39 = (.int .i64 y41) ∧
 (w40.cell? (a21.add ((s7.2).toNat * 7)) = some (.string x22)) ∧ (w40.cell? ⟨b0, 4, none⟩ = some (.slice x18 l19 c20)) ∧ X6 ((IntKind.i64.wrap ((IntKind.i64.wrap (s7.1 + ((x22.size : Nat) : Int))) + y41)), (IntKind.i64.wrap (s7.2 + (1 : Int)))) w40)))))
 ((Eng.Loop (σ := Int × Int) (fun X42 s43 w44 =>
 ∀ j45 : Nat → Value, (Meet (σ := Bool) (fun J46 =>
 ∃ (x49 : Option Addr) (l50 c51 : Nat), w44.cell? ⟨b0, 5, none⟩ = some (.slice x49 l50 c51) ∧
 (cond (decide (s43.2 < ((l50 : Nat) : Int)))
 (J46 (decide (s43.1 ≤ most_1)) w44)
 (J46 false w44)))
 (fun s47 w48 =>
 ∀ j52 : Nat → Value, (cond s47
 (∃ (x53 : Option Addr) (l54 c55 : Nat), w48.cell? ⟨b0, 5, none⟩ = some (.slice x53 l54 c55) ∧
 (withSome x53 fun (a56 : Addr) =>
 (0 ≤ s43.2 ∧ s43.2 < ((l54 : Nat) : Int)) ∧
 ∃ x57 : Int, w48.cell? (a56.add ((s43.2).toNat * 6)) = some (.int .i64 x57) ∧
 ∃ x58 : Int, w48.cell? ((a56.add ((s43.2).toNat * 6)).add 1) = some (.int .i64 x58) ∧
 ∃ x59 : ByteArray, w48.cell? ((a56.add ((s43.2).toNat * 6)).add 2) = some (.string x59) ∧
 ∃ (x60 : Option Addr) (l61 c62 : Nat), w48.cell? ((a56.add ((s43.2).toNat * 6)).add 3) = some (.slice x60 l61 c62) ∧
 ∃ (x63 : Option Addr) (l64 c65 : Nat), w48.cell? ((a56.add ((s43.2).toNat * 6)).add 4) = some (.slice x63 l64 c65) ∧
 ∃ (x66 : Option Addr) (l67 c68 : Nat), w48.cell? ((a56.add ((s43.2).toNat * 6)).add 5) = some (.slice x66 l67 c68) ∧
 (CallR pg f_aqueductlaw5_Weight [(.agg #[(.int .i64 x57), (.int .i64 x58), (.string x59), (.slice x60 l61 c62), (.slice x63 l64 c65), (.slice x66 l67 c68)]), (.int .i64 (IntKind.i64.wrap (most_1 - s43.1)))] w48 (fun ch w => R (.panicked ch) w) fun v69 w70 =>
 ∃ y71 : Int, v69 = (.int .i64 y71) ∧
 X42 ((IntKind.i64.wrap (s43.1 + y71)), (IntKind.i64.wrap (s43.2 + (1 : Int)))) w70)))
 (R (.returned (.int .i64 s43.1)) w48))))) (s7.1, (0 : Int)) w12)))))) ((IntKind.i64.wrap ((IntKind.i64.wrap ((1 : Int) + ((x2.size : Nat) : Int))) + ((l4 : Nat) : Int))), (0 : Int)) w1))
theorem e_aqueductlaw5_Weight (v_0x0 : Int) (v_0x1 : Int) (v_0x2 : ByteArray) (v_0x3 : Option Addr) (v_0x3l v_0x3c : Nat) (v_0x4 : Option Addr) (v_0x4l v_0x4c : Nat) (v_0x5 : Option Addr) (v_0x5l v_0x5c : Nat) (most_1 : Int) (w : World) (R : Ending → World → Prop) : funcX pg T bl Tryd.f15 [(.agg #[(.int .i64 v_0x0), (.int .i64 v_0x1), (.string v_0x2), (.slice v_0x3 v_0x3l v_0x3c), (.slice v_0x4 v_0x4l v_0x4c), (.slice v_0x5 v_0x5l v_0x5c)]), (.int .i64 most_1)] w R = c_aqueductlaw5_Weight v_0x0  v_0x1  v_0x2  v_0x3 v_0x3l v_0x3c  v_0x4 v_0x4l v_0x4c  v_0x5 v_0x5l v_0x5c  most_1  w R := by kernel_rfl
theorem of_aqueductlaw5_Weight (v_0x0 : Int) (v_0x1 : Int) (v_0x2 : ByteArray) (v_0x3 : Option Addr) (v_0x3l v_0x3c : Nat) (v_0x4 : Option Addr) (v_0x4l v_0x4c : Nat) (v_0x5 : Option Addr) (v_0x5l v_0x5c : Nat) (most_1 : Int) {w : World} {R : Ending → World → Prop} (h : c_aqueductlaw5_Weight v_0x0  v_0x1  v_0x2  v_0x3 v_0x3l v_0x3c  v_0x4 v_0x4l v_0x4c  v_0x5 v_0x5l v_0x5c  most_1  w R) : Calls pg f_aqueductlaw5_Weight #[(.agg #[(.int .i64 v_0x0), (.int .i64 v_0x1), (.string v_0x2), (.slice v_0x3 v_0x3l v_0x3c), (.slice v_0x4 v_0x4l v_0x4c), (.slice v_0x5 v_0x5l v_0x5c)]), (.int .i64 most_1)] w R :=
  funcX_of mixed tok blok Tryd.func15 (args := [(.agg #[(.int .i64 v_0x0), (.int .i64 v_0x1), (.string v_0x2), (.slice v_0x3 v_0x3l v_0x3c), (.slice v_0x4 v_0x4l v_0x4c), (.slice v_0x5 v_0x5l v_0x5c)]), (.int .i64 most_1)]) (e_aqueductlaw5_Weight v_0x0  v_0x1  v_0x2  v_0x3 v_0x3l v_0x3c  v_0x4 v_0x4l v_0x4c  v_0x5 v_0x5l v_0x5c  most_1  w R) h
/-- (*aqueduct/accum.State).none -/
def c_Paccum_State_none (s_0 : Option Addr) (p_1x0 : Int) (p_1x1 : Int) (p_1x2 : ByteArray) (p_1x3 : Option Addr) (p_1x3l p_1x3c : Nat) (p_1x4 : Option Addr) (p_1x4l p_1x4c : Nat) (p_1x5 : Option Addr) (p_1x5l p_1x5c : Nat) (w : World) (R : Ending → World → Prop) : Prop :=
 (New w (.cells #[(.int .i64 p_1x0), (.int .i64 p_1x1), (.string p_1x2), (.slice p_1x3 p_1x3l p_1x3c), (.slice p_1x4 p_1x4l p_1x4c), (.slice p_1x5 p_1x5l p_1x5c)] t_api_Value (0, 0)) fun b0 w1 =>
 R (.returned (.int .i64 (0 : Int))) w1)
theorem e_Paccum_State_none (s_0 : Option Addr) (p_1x0 : Int) (p_1x1 : Int) (p_1x2 : ByteArray) (p_1x3 : Option Addr) (p_1x3l p_1x3c : Nat) (p_1x4 : Option Addr) (p_1x4l p_1x4c : Nat) (p_1x5 : Option Addr) (p_1x5l p_1x5c : Nat) (w : World) (R : Ending → World → Prop) : funcX pg T bl Tryd.f17 [(.pointer s_0), (.agg #[(.int .i64 p_1x0), (.int .i64 p_1x1), (.string p_1x2), (.slice p_1x3 p_1x3l p_1x3c), (.slice p_1x4 p_1x4l p_1x4c), (.slice p_1x5 p_1x5l p_1x5c)])] w R = c_Paccum_State_none s_0  p_1x0  p_1x1  p_1x2  p_1x3 p_1x3l p_1x3c  p_1x4 p_1x4l p_1x4c  p_1x5 p_1x5l p_1x5c  w R := by kernel_rfl
theorem of_Paccum_State_none (s_0 : Option Addr) (p_1x0 : Int) (p_1x1 : Int) (p_1x2 : ByteArray) (p_1x3 : Option Addr) (p_1x3l p_1x3c : Nat) (p_1x4 : Option Addr) (p_1x4l p_1x4c : Nat) (p_1x5 : Option Addr) (p_1x5l p_1x5c : Nat) {w : World} {R : Ending → World → Prop} (h : c_Paccum_State_none s_0  p_1x0  p_1x1  p_1x2  p_1x3 p_1x3l p_1x3c  p_1x4 p_1x4l p_1x4c  p_1x5 p_1x5l p_1x5c  w R) : Calls pg f_Paccum_State_none #[(.pointer s_0), (.agg #[(.int .i64 p_1x0), (.int .i64 p_1x1), (.string p_1x2), (.slice p_1x3 p_1x3l p_1x3c), (.slice p_1x4 p_1x4l p_1x4c), (.slice p_1x5 p_1x5l p_1x5c)])] w R :=
  funcX_of mixed tok blok Tryd.func17 (args := [(.pointer s_0), (.agg #[(.int .i64 p_1x0), (.int .i64 p_1x1), (.string p_1x2), (.slice p_1x3 p_1x3l p_1x3c), (.slice p_1x4 p_1x4l p_1x4c), (.slice p_1x5 p_1x5l p_1x5c)])]) (e_Paccum_State_none s_0  p_1x0  p_1x1  p_1x2  p_1x3 p_1x3l p_1x3c  p_1x4 p_1x4l p_1x4c  p_1x5 p_1x5l p_1x5c  w R) h
/-- (*aqueduct/accum.State).last -/
def c_Paccum_State_last (s_0 : Option Addr) (v_1x0 : Int) (v_1x1 : Int) (v_1x2 : ByteArray) (v_1x3 : Option Addr) (v_1x3l v_1x3c : Nat) (v_1x4 : Option Addr) (v_1x4l v_1x4c : Nat) (v_1x5 : Option Addr) (v_1x5l v_1x5c : Nat) (w : World) (R : Ending → World → Prop) : Prop :=
 (New w (.cells #[(.int .i64 v_1x0), (.int .i64 v_1x1), (.string v_1x2), (.slice v_1x3 v_1x3l v_1x3c), (.slice v_1x4 v_1x4l v_1x4c), (.slice v_1x5 v_1x5l v_1x5c)] t_api_Value (0, 0)) fun b0 w1 =>
 ∃ x2 : Int, w1.cell? ⟨b0, 0, none⟩ = some (.int .i64 x2) ∧
 ∃ x3 : Int, w1.cell? ⟨b0, 1, none⟩ = some (.int .i64 x3) ∧
 ∃ x4 : ByteArray, w1.cell? ⟨b0, 2, none⟩ = some (.string x4) ∧
 ∃ (x5 : Option Addr) (l6 c7 : Nat), w1.cell? ⟨b0, 3, none⟩ = some (.slice x5 l6 c7) ∧
 ∃ (x8 : Option Addr) (l9 c10 : Nat), w1.cell? ⟨b0, 4, none⟩ = some (.slice x8 l9 c10) ∧
 ∃ (x11 : Option Addr) (l12 c13 : Nat), w1.cell? ⟨b0, 5, none⟩ = some (.slice x11 l12 c13) ∧
 (CallR pg f_bson_Copy [(.agg #[(.int .i64 x2), (.int .i64 x3), (.string x4), (.slice x5 l6 c7), (.slice x8 l9 c10), (.slice x11 l12 c13)])] w1 (fun ch w => R (.panicked ch) w) fun v14 w15 =>
 ∃ y16 : Int, ∃ y17 : Int, ∃ y18 : ByteArray, ∃ (y19 : Option Addr) (l20 c21 : Nat), ∃ (y22 : Option Addr) (l23 c24 : Nat), ∃ (y25 : Option Addr) (l26 c27 : Nat), v14 = (.agg #[(.int .i64 y16), (.int .i64 y17), (.string y18), (.slice y19 l20 c21), (.slice y22 l23 c24), (.slice y25 l26 c27)]) ∧
 (withSome s_0 fun (a28 : Addr) =>
 (St w15 (a28.add 2) (.int .i64 y16) fun w29 =>
 (St w29 ((a28.add 2).add 1) (.int .i64 y17) fun w30 =>
 (St w30 ((a28.add 2).add 2) (.string y18) fun w31 =>
 (St w31 ((a28.add 2).add 3) (.slice y19 l20 c21) fun w32 =>
 (St w32 ((a28.add 2).add 4) (.slice y22 l23 c24) fun w33 =>
 (St w33 ((a28.add 2).add 5) (.slice y25 l26 c27) fun w34 =>
 R (.returned (.int .i64 (0 : Int))) w34)))))))))
theorem e_Paccum_State_last (s_0 : Option Addr) (v_1x0 : Int) (v_1x1 : Int) (v_1x2 : ByteArray) (v_1x3 : Option Addr) (v_1x3l v_1x3c : Nat) (v_1x4 : Option Addr) (v_1x4l v_1x4c : Nat) (v_1x5 : Option Addr) (v_1x5l v_1x5c : Nat) (w : World) (R : Ending → World → Prop) : funcX pg T bl Tryd.f23 [(.pointer s_0), (.agg #[(.int .i64 v_1x0), (.int .i64 v_1x1), (.string v_1x2), (.slice v_1x3 v_1x3l v_1x3c), (.slice v_1x4 v_1x4l v_1x4c), (.slice v_1x5 v_1x5l v_1x5c)])] w R = c_Paccum_State_last s_0  v_1x0  v_1x1  v_1x2  v_1x3 v_1x3l v_1x3c  v_1x4 v_1x4l v_1x4c  v_1x5 v_1x5l v_1x5c  w R := by kernel_rfl
theorem of_Paccum_State_last (s_0 : Option Addr) (v_1x0 : Int) (v_1x1 : Int) (v_1x2 : ByteArray) (v_1x3 : Option Addr) (v_1x3l v_1x3c : Nat) (v_1x4 : Option Addr) (v_1x4l v_1x4c : Nat) (v_1x5 : Option Addr) (v_1x5l v_1x5c : Nat) {w : World} {R : Ending → World → Prop} (h : c_Paccum_State_last s_0  v_1x0  v_1x1  v_1x2  v_1x3 v_1x3l v_1x3c  v_1x4 v_1x4l v_1x4c  v_1x5 v_1x5l v_1x5c  w R) : Calls pg f_Paccum_State_last #[(.pointer s_0), (.agg #[(.int .i64 v_1x0), (.int .i64 v_1x1), (.string v_1x2), (.slice v_1x3 v_1x3l v_1x3c), (.slice v_1x4 v_1x4l v_1x4c), (.slice v_1x5 v_1x5l v_1x5c)])] w R :=
  funcX_of mixed tok blok Tryd.func23 (args := [(.pointer s_0), (.agg #[(.int .i64 v_1x0), (.int .i64 v_1x1), (.string v_1x2), (.slice v_1x3 v_1x3l v_1x3c), (.slice v_1x4 v_1x4l v_1x4c), (.slice v_1x5 v_1x5l v_1x5c)])]) (e_Paccum_State_last s_0  v_1x0  v_1x1  v_1x2  v_1x3 v_1x3l v_1x3c  v_1x4 v_1x4l v_1x4c  v_1x5 v_1x5l v_1x5c  w R) h
/-- (*aqueduct/accum.State).push -/
def c_Paccum_State_push (s_0 : Option Addr) (v_1x0 : Int) (v_1x1 : Int) (v_1x2 : ByteArray) (v_1x3 : Option Addr) (v_1x3l v_1x3c : Nat) (v_1x4 : Option Addr) (v_1x4l v_1x4c : Nat) (v_1x5 : Option Addr) (v_1x5l v_1x5c : Nat) (w : World) (R : Ending → World → Prop) : Prop :=
 (New w (.cells #[(.int .i64 v_1x0), (.int .i64 v_1x1), (.string v_1x2), (.slice v_1x3 v_1x3l v_1x3c), (.slice v_1x4 v_1x4l v_1x4c), (.slice v_1x5 v_1x5l v_1x5c)] t_api_Value (0, 0)) fun b0 w1 =>
 ∃ x2 : Int, w1.cell? ⟨b0, 0, none⟩ = some (.int .i64 x2) ∧
 (cond (x2 == (0 : Int))
 (R (.returned (.int .i64 (0 : Int))) w1)
 (∃ x3 : Int, w1.cell? ⟨b0, 0, none⟩ = some (.int .i64 x3) ∧
 ∃ x4 : Int, w1.cell? ⟨b0, 1, none⟩ = some (.int .i64 x4) ∧
 ∃ x5 : ByteArray, w1.cell? ⟨b0, 2, none⟩ = some (.string x5) ∧
 ∃ (x6 : Option Addr) (l7 c8 : Nat), w1.cell? ⟨b0, 3, none⟩ = some (.slice x6 l7 c8) ∧
 ∃ (x9 : Option Addr) (l10 c11 : Nat), w1.cell? ⟨b0, 4, none⟩ = some (.slice x9 l10 c11) ∧
 ∃ (x12 : Option Addr) (l13 c14 : Nat), w1.cell? ⟨b0, 5, none⟩ = some (.slice x12 l13 c14) ∧
 (New w1 (.cells #[(.int .i64 x3), (.int .i64 x4), (.string x5), (.slice x6 l7 c8), (.slice x9 l10 c11), (.slice x12 l13 c14)] t_api_Value (0, 0)) fun b15 w16 =>
 (CallR pg f_accum_own [(.agg #[(.int .i64 (7 : Int)), (.int .i64 (0 : Int)), (.string (⟨#[]⟩ : ByteArray)), (.slice none 0 0), (.slice none 0 0), (.slice (some (⟨b15, 0, none⟩ : Addr)) 1 1)])] w16 (fun ch w => R (.panicked ch) w) fun v17 w18 =>
 ∃ y19 : Int, v17 = (.int .i64 y19) ∧
 (cond (decide (y19 < (0 : Int)))
 (R (.returned (.int .i64 (3 : Int))) w18)
 ((withSome s_0 fun (a20 : Addr) =>
 ∃ (x21 : Option Addr) (l22 c23 : Nat), w18.cell? ((a20.add 2).add 5) = some (.slice x21 l22 c23) ∧
 (CallR pg f_strconv_Itoa [(.int .i64 ((l22 : Nat) : Int))] w18 (fun ch w => R (.panicked ch) w) fun v24 w25 =>
 ∃ y26 : ByteArray, v24 = (.string y26) ∧
 (CallR pg f_accum_own [(.agg #[(.int .i64 (7 : Int)), (.int .i64 (0 : Int)), (.string (⟨#[]⟩ : ByteArray)), (.slice none 0 0), (.slice none 0 0), (.slice none 0 0)])] w25 (fun ch w => R (.panicked ch) w) fun v27 w28 =>
 ∃ y29 : Int, v27 = (.int .i64 y29) ∧
 (withSome s_0 fun (a30 : Addr) =>
 ∃ x31 : Int, w28.cell? (a30.add 8) = some (.int .i64 x31) ∧
 (cond (decide ((IntKind.i64.wrap ((IntKind.i64.wrap (x31 + (IntKind.i64.wrap (y19 + (IntKind.i64.wrap ((IntKind.i64.wrap (((y26.size : Nat) : Int) - (1 : Int))) - y29)))))) + (7 : Int))) > (65536 : Int)))
 (R (.returned (.int .i64 (3 : Int))) w28)
 ((withSome s_0 fun (a32 : Addr) =>
 ∃ x33 : Int, w28.cell? (a32.add 8) = some (.int .i64 x33) ∧
 (withSome s_0 fun (a34 : Addr) =>
 (St w28 (a34.add 8) (.int .i64 (IntKind.i64.wrap (x33 + (IntKind.i64.wrap (y19 + (IntKind.i64.wrap ((IntKind.i64.wrap (((y26.size : Nat) : Int) - (1 : Int))) - y29))))))) fun w35 =>
 (Drew w35 fun w36 =>
 (withSome s_0 fun (a37 : Addr) =>
 ∃ (x38 : Option Addr) (l39 c40 : Nat), w36.cell? ((a37.add 2).add 5) = some (.slice x38 l39 c40) ∧
 ∃ x41 : Int, w36.cell? ⟨b0, 0, none⟩ = some (.int .i64 x41) ∧
 ∃ x42 : Int, w36.cell? ⟨b0, 1, none⟩ = some (.int .i64 x42) ∧
 ∃ x43 : ByteArray, w36.cell? ⟨b0, 2, none⟩ = some (.string x43) ∧
 ∃ (x44 : Option Addr) (l45 c46 : Nat), w36.cell? ⟨b0, 3, none⟩ = some (.slice x44 l45 c46) ∧
 ∃ (x47 : Option Addr) (l48 c49 : Nat), w36.cell? ⟨b0, 4, none⟩ = some (.slice x47 l48 c49) ∧
 ∃ (x50 : Option Addr) (l51 c52 : Nat), w36.cell? ⟨b0, 5, none⟩ = some (.slice x50 l51 c52) ∧
 ((CallR pg f_bson_Copy [(.agg #[(.int .i64 x41), (.int .i64 x42), (.string x43), (.slice x44 l45 c46), (.slice x47 l48 c49), (.slice x50 l51 c52)])] w36 (fun ch w => R (.panicked ch) w) fun v53 w54 =>
 ∃ y55 : Int, ∃ y56 : Int, ∃ y57 : ByteArray, ∃ (y58 : Option Addr) (l59 c60 : Nat), ∃ (y61 : Option Addr) (l62 c63 : Nat), ∃ (y64 : Option Addr) (l65 c66 : Nat), v53 = (.agg #[(.int .i64 y55), (.int .i64 y56), (.string y57), (.slice y58 l59 c60), (.slice y61 l62 c63), (.slice y64 l65 c66)]) ∧
 (w54.cell? ((a37.add 2).add 5) = some (.slice x38 l39 c40)) ∧ (New w54 (.cells #[(.int .i64 (0 : Int)), (.int .i64 (0 : Int)), (.string (⟨#[]⟩ : ByteArray)), (.slice none 0 0), (.slice none 0 0), (.slice none 0 0)] t_api_Value (0, 0)) fun b67 w68 =>
 (w68.cell? ((a37.add 2).add 5) = some (.slice x38 l39 c40)) ∧ (Prim pg (Builtin.append_ #[t_Sapi_Value, t_Sapi_Value] t_Sapi_Value #[(.slice x38 l39 c40), (.slice (some (⟨b67, 0, none⟩ : Addr)) 1 1)]) w68 fun v69 w70 =>
 ∃ (y71 : Option Addr) (l72 c73 : Nat), v69 = (.slice y71 l72 c73) ∧
 (withSome y71 fun (a74 : Addr) =>
 (0 ≤ ((l39 : Nat) : Int) ∧ ((l39 : Nat) : Int) < ((l72 : Nat) : Int)) ∧
 (withSome s_0 fun (a75 : Addr) =>
 ((St w70 (a74.add ((((l39 : Nat) : Int)).toNat * 6)) (.int .i64 y55) fun w76 =>
 (St w76 ((a74.add ((((l39 : Nat) : Int)).toNat * 6)).add 1) (.int .i64 y56) fun w77 =>
 (St w77 ((a74.add ((((l39 : Nat) : Int)).toNat * 6)).add 2) (.string y57) fun w78 =>
 (St w78 ((a74.add ((((l39 : Nat) : Int)).toNat * 6)).add 3) (.slice y58 l59 c60) fun w79 =>
 (St w79 ((a74.add ((((l39 : Nat) : Int)).toNat * 6)).add 4) (.slice y61 l62 c63) fun w80 =>
 (St w80 ((a74.add ((((l39 : Nat) : Int)).toNat * 6)).add 5) (.slice y64 l65 c66) fun w81 =>
 (St w81 ((a75.add 2).add 5) (.slice y71 l72 c73) fun w82 =>
 R (.returned (.int .i64 (0 : Int))) w82)))))))) ∧
 ((St w70 ((a75.add 2).add 5) (.slice y71 l72 c73) fun w83 =>
 (St w83 (a74.add ((((l39 : Nat) : Int)).toNat * 6)) (.int .i64 y55) fun w84 =>
 (St w84 ((a74.add ((((l39 : Nat) : Int)).toNat * 6)).add 1) (.int .i64 y56) fun w85 =>
 (St w85 ((a74.add ((((l39 : Nat) : Int)).toNat * 6)).add 2) (.string y57) fun w86 =>
 (St w86 ((a74.add ((((l39 : Nat) : Int)).toNat * 6)).add 3) (.slice y58 l59 c60) fun w87 =>
 (St w87 ((a74.add ((((l39 : Nat) : Int)).toNat * 6)).add 4) (.slice y61 l62 c63) fun w88 =>
 (St w88 ((a74.add ((((l39 : Nat) : Int)).toNat * 6)).add 5) (.slice y64 l65 c66) fun w89 =>
 R (.returned (.int .i64 (0 : Int))) w89)))))))))))))) ∧
 ((New w36 (.cells #[(.int .i64 (0 : Int)), (.int .i64 (0 : Int)), (.string (⟨#[]⟩ : ByteArray)), (.slice none 0 0), (.slice none 0 0), (.slice none 0 0)] t_api_Value (0, 0)) fun b90 w91 =>
 (w91.cell? ⟨b0, 0, none⟩ = some (.int .i64 x41) ∧ w91.cell? ⟨b0, 1, none⟩ = some (.int .i64 x42) ∧ w91.cell? ⟨b0, 2, none⟩ = some (.string x43) ∧ w91.cell? ⟨b0, 3, none⟩ = some (.slice x44 l45 c46) ∧ w91.cell? ⟨b0, 4, none⟩ = some (.slice x47 l48 c49) ∧ w91.cell? ⟨b0, 5, none⟩ = some (.slice x50 l51 c52)) ∧ (w91.cell? ((a37.add 2).add 5) = some (.slice x38 l39 c40)) ∧ (CallR pg f_bson_Copy [(.agg #[(.int .i64 x41), (.int .i64 x42), (.string x43), (.slice x44 l45 c46), (.slice x47 l48 c49), (.slice x50 l51 c52)])] w91 (fun ch w => R (.panicked ch) w) fun v92 w93 =>
 ∃ y94 : Int, ∃ y95 : Int, ∃ y96 : ByteArray, ∃ (y97 : Option Addr) (l98 c99 : Nat), ∃ (y100 : Option Addr) (l101 c102 : Nat), ∃ (y103 : Option Addr) (l104 c105 : Nat), v92 = (.agg #[(.int .i64 y94), (.int .i64 y95), (.string y96), (.slice y97 l98 c99), (.slice y100 l101 c102), (.slice y103 l104 c105)]) ∧
 (w93.cell? ((a37.add 2).add 5) = some (.slice x38 l39 c40)) ∧ (Prim pg (Builtin.append_ #[t_Sapi_Value, t_Sapi_Value] t_Sapi_Value #[(.slice x38 l39 c40), (.slice (some (⟨b90, 0, none⟩ : Addr)) 1 1)]) w93 fun v106 w107 =>
 ∃ (y108 : Option Addr) (l109 c110 : Nat), v106 = (.slice y108 l109 c110) ∧
 (withSome y108 fun (a111 : Addr) =>
 (0 ≤ ((l39 : Nat) : Int) ∧ ((l39 : Nat) : Int) < ((l109 : Nat) : Int)) ∧
 (withSome s_0 fun (a112 : Addr) =>
 ((St w107 (a111.add ((((l39 : Nat) : Int)).toNat * 6)) (.int .i64 y94) fun w113 =>
 (St w113 ((a111.add ((((l39 : Nat) : Int)).toNat * 6)).add 1) (.int .i64 y95) fun w114 =>
 (St w114 ((a111.add ((((l39 : Nat) : Int)).toNat * 6)).add 2) (.string y96) fun w115 =>
 (St w115 ((a111.add ((((l39 : Nat) : Int)).toNat * 6)).add 3) (.slice y97 l98 c99) fun w116 =>
 (St w116 ((a111.add ((((l39 : Nat) : Int)).toNat * 6)).add 4) (.slice y100 l101 c102) fun w117 =>
 (St w117 ((a111.add ((((l39 : Nat) : Int)).toNat * 6)).add 5) (.slice y103 l104 c105) fun w118 =>
 (St w118 ((a112.add 2).add 5) (.slice y108 l109 c110) fun w119 =>
 R (.returned (.int .i64 (0 : Int))) w119)))))))) ∧
 ((St w107 ((a112.add 2).add 5) (.slice y108 l109 c110) fun w120 =>
 (St w120 (a111.add ((((l39 : Nat) : Int)).toNat * 6)) (.int .i64 y94) fun w121 =>
 (St w121 ((a111.add ((((l39 : Nat) : Int)).toNat * 6)).add 1) (.int .i64 y95) fun w122 =>
 (St w122 ((a111.add ((((l39 : Nat) : Int)).toNat * 6)).add 2) (.string y96) fun w123 =>
 (St w123 ((a111.add ((((l39 : Nat) : Int)).toNat * 6)).add 3) (.slice y97 l98 c99) fun w124 =>
 (St w124 ((a111.add ((((l39 : Nat) : Int)).toNat * 6)).add 4) (.slice y100 l101 c102) fun w125 =>
 (St w125 ((a111.add ((((l39 : Nat) : Int)).toNat * 6)).add 5) (.slice y103 l104 c105) fun w126 =>
 R (.returned (.int .i64 (0 : Int))) w126))))))))))))))))))))))))))))))))
theorem e_Paccum_State_push (s_0 : Option Addr) (v_1x0 : Int) (v_1x1 : Int) (v_1x2 : ByteArray) (v_1x3 : Option Addr) (v_1x3l v_1x3c : Nat) (v_1x4 : Option Addr) (v_1x4l v_1x4c : Nat) (v_1x5 : Option Addr) (v_1x5l v_1x5c : Nat) (w : World) (R : Ending → World → Prop) : funcX pg T bl Tryd.f24 [(.pointer s_0), (.agg #[(.int .i64 v_1x0), (.int .i64 v_1x1), (.string v_1x2), (.slice v_1x3 v_1x3l v_1x3c), (.slice v_1x4 v_1x4l v_1x4c), (.slice v_1x5 v_1x5l v_1x5c)])] w R = c_Paccum_State_push s_0  v_1x0  v_1x1  v_1x2  v_1x3 v_1x3l v_1x3c  v_1x4 v_1x4l v_1x4c  v_1x5 v_1x5l v_1x5c  w R := by kernel_rfl
theorem of_Paccum_State_push (s_0 : Option Addr) (v_1x0 : Int) (v_1x1 : Int) (v_1x2 : ByteArray) (v_1x3 : Option Addr) (v_1x3l v_1x3c : Nat) (v_1x4 : Option Addr) (v_1x4l v_1x4c : Nat) (v_1x5 : Option Addr) (v_1x5l v_1x5c : Nat) {w : World} {R : Ending → World → Prop} (h : c_Paccum_State_push s_0  v_1x0  v_1x1  v_1x2  v_1x3 v_1x3l v_1x3c  v_1x4 v_1x4l v_1x4c  v_1x5 v_1x5l v_1x5c  w R) : Calls pg f_Paccum_State_push #[(.pointer s_0), (.agg #[(.int .i64 v_1x0), (.int .i64 v_1x1), (.string v_1x2), (.slice v_1x3 v_1x3l v_1x3c), (.slice v_1x4 v_1x4l v_1x4c), (.slice v_1x5 v_1x5l v_1x5c)])] w R :=
  funcX_of mixed tok blok Tryd.func24 (args := [(.pointer s_0), (.agg #[(.int .i64 v_1x0), (.int .i64 v_1x1), (.string v_1x2), (.slice v_1x3 v_1x3l v_1x3c), (.slice v_1x4 v_1x4l v_1x4c), (.slice v_1x5 v_1x5l v_1x5c)])]) (e_Paccum_State_push s_0  v_1x0  v_1x1  v_1x2  v_1x3 v_1x3l v_1x3c  v_1x4 v_1x4l v_1x4c  v_1x5 v_1x5l v_1x5c  w R) h
/-- aqueduct/accum.own -/
def c_accum_own (v_0x0 : Int) (v_0x1 : Int) (v_0x2 : ByteArray) (v_0x3 : Option Addr) (v_0x3l v_0x3c : Nat) (v_0x4 : Option Addr) (v_0x4l v_0x4c : Nat) (v_0x5 : Option Addr) (v_0x5l v_0x5c : Nat) (w : World) (R : Ending → World → Prop) : Prop :=
 (New w (.cells #[(.int .i64 v_0x0), (.int .i64 v_0x1), (.string v_0x2), (.slice v_0x3 v_0x3l v_0x3c), (.slice v_0x4 v_0x4l v_0x4c), (.slice v_0x5 v_0x5l v_0x5c)] t_api_Value (0, 0)) fun b0 w1 =>
 ∃ x2 : Int, w1.cell? ⟨b0, 0, none⟩ = some (.int .i64 x2) ∧
 ∃ x3 : Int, w1.cell? ⟨b0, 1, none⟩ = some (.int .i64 x3) ∧
 ∃ x4 : ByteArray, w1.cell? ⟨b0, 2, none⟩ = some (.string x4) ∧
 ∃ (x5 : Option Addr) (l6 c7 : Nat), w1.cell? ⟨b0, 3, none⟩ = some (.slice x5 l6 c7) ∧
 ∃ (x8 : Option Addr) (l9 c10 : Nat), w1.cell? ⟨b0, 4, none⟩ = some (.slice x8 l9 c10) ∧
 ∃ (x11 : Option Addr) (l12 c13 : Nat), w1.cell? ⟨b0, 5, none⟩ = some (.slice x11 l12 c13) ∧
 (New w1 (.cells #[(.string (⟨#[]⟩ : ByteArray)), (.int .i64 x2), (.int .i64 x3), (.string x4), (.slice x5 l6 c7), (.slice x8 l9 c10), (.slice x11 l12 c13)] t_api_Field (0, 0)) fun b14 w15 =>
 (CallR pg f_bson_Size [(.agg #[(.int .i64 (6 : Int)), (.int .i64 (0 : Int)), (.string (⟨#[]⟩ : ByteArray)), (.slice none 0 0), (.slice (some (⟨b14, 0, none⟩ : Addr)) 1 1), (.slice none 0 0)])] w15 (fun ch w => R (.panicked ch) w) fun v16 w17 =>
 ∃ y18 : Int, v16 = (.int .i64 y18) ∧
 R (.returned (.int .i64 (IntKind.i64.wrap (y18 - (7 : Int))))) w17)))
theorem e_accum_own (v_0x0 : Int) (v_0x1 : Int) (v_0x2 : ByteArray) (v_0x3 : Option Addr) (v_0x3l v_0x3c : Nat) (v_0x4 : Option Addr) (v_0x4l v_0x4c : Nat) (v_0x5 : Option Addr) (v_0x5l v_0x5c : Nat) (w : World) (R : Ending → World → Prop) : funcX pg T bl Tryd.f25 [(.agg #[(.int .i64 v_0x0), (.int .i64 v_0x1), (.string v_0x2), (.slice v_0x3 v_0x3l v_0x3c), (.slice v_0x4 v_0x4l v_0x4c), (.slice v_0x5 v_0x5l v_0x5c)])] w R = c_accum_own v_0x0  v_0x1  v_0x2  v_0x3 v_0x3l v_0x3c  v_0x4 v_0x4l v_0x4c  v_0x5 v_0x5l v_0x5c  w R := by kernel_rfl
theorem of_accum_own (v_0x0 : Int) (v_0x1 : Int) (v_0x2 : ByteArray) (v_0x3 : Option Addr) (v_0x3l v_0x3c : Nat) (v_0x4 : Option Addr) (v_0x4l v_0x4c : Nat) (v_0x5 : Option Addr) (v_0x5l v_0x5c : Nat) {w : World} {R : Ending → World → Prop} (h : c_accum_own v_0x0  v_0x1  v_0x2  v_0x3 v_0x3l v_0x3c  v_0x4 v_0x4l v_0x4c  v_0x5 v_0x5l v_0x5c  w R) : Calls pg f_accum_own #[(.agg #[(.int .i64 v_0x0), (.int .i64 v_0x1), (.string v_0x2), (.slice v_0x3 v_0x3l v_0x3c), (.slice v_0x4 v_0x4l v_0x4c), (.slice v_0x5 v_0x5l v_0x5c)])] w R :=
  funcX_of mixed tok blok Tryd.func25 (args := [(.agg #[(.int .i64 v_0x0), (.int .i64 v_0x1), (.string v_0x2), (.slice v_0x3 v_0x3l v_0x3c), (.slice v_0x4 v_0x4l v_0x4c), (.slice v_0x5 v_0x5l v_0x5c)])]) (e_accum_own v_0x0  v_0x1  v_0x2  v_0x3 v_0x3l v_0x3c  v_0x4 v_0x4l v_0x4c  v_0x5 v_0x5l v_0x5c  w R) h
/-- aqueduct/aqueductlaw5.Shallow -/
def c_aqueductlaw5_Shallow (v_0x0 : Int) (v_0x1 : Int) (v_0x2 : ByteArray) (v_0x3 : Option Addr) (v_0x3l v_0x3c : Nat) (v_0x4 : Option Addr) (v_0x4l v_0x4c : Nat) (v_0x5 : Option Addr) (v_0x5l v_0x5c : Nat) (most_1 : Int) (w : World) (R : Ending → World → Prop) : Prop :=
 (New w (.cells #[(.int .i64 v_0x0), (.int .i64 v_0x1), (.string v_0x2), (.slice v_0x3 v_0x3l v_0x3c), (.slice v_0x4 v_0x4l v_0x4c), (.slice v_0x5 v_0x5l v_0x5c)] t_api_Value (0, 0)) fun b0 w1 =>
 (Eng.Loop (σ := Bool × Int) (fun X2 s3 w4 =>
 ∀ j5 : Nat → Value, ∃ (x6 : Option Addr) (l7 c8 : Nat), w4.cell? ⟨b0, 4, none⟩ = some (.slice x6 l7 c8) ∧
 (cond (decide (s3.2 < ((l7 : Nat) : Int)))
 ((Meet (σ := Bool) (fun J9 =>
 (cond (most_1 == (0 : Int))
 (J9 true w4)
 (∃ (x12 : Option Addr) (l13 c14 : Nat), w4.cell? ⟨b0, 4, none⟩ = some (.slice x12 l13 c14) ∧
 (withSome x12 fun (a15 : Addr) =>
 (0 ≤ s3.2 ∧ s3.2 < ((l13 : Nat) : Int)) ∧
 ∃ x16 : Int, w4.cell? ((a15.add ((s3.2).toNat * 7)).add 1) = some (.int .i64 x16) ∧
 ∃ x17 : Int, w4.cell? (((a15.add ((s3.2).toNat * 7)).add 1).add 1) = some (.int .i64 x17) ∧
 ∃ x18 : ByteArray, w4.cell? (((a15.add ((s3.2).toNat * 7)).add 1).add 2) = some (.string x18) ∧
 ∃ (x19 : Option Addr) (l20 c21 : Nat), w4.cell? (((a15.add ((s3.2).toNat * 7)).add 1).add 3) = some (.slice x19 l20 c21) ∧
 ∃ (x22 : Option Addr) (l23 c24 : Nat), w4.cell? (((a15.add ((s3.2).toNat * 7)).add 1).add 4) = some (.slice x22 l23 c24) ∧
 ∃ (x25 : Option Addr) (l26 c27 : Nat), w4.cell? (((a15.add ((s3.2).toNat * 7)).add 1).add 5) = some (.slice x25 l26 c27) ∧
 (CallR pg f_aqueductlaw5_Shallow [(.agg #[(.int .i64 x16), (.int .i64 x17), (.string x18), (.slice x19 l20 c21), (.slice x22 l23 c24), (.slice x25 l26 c27)]), (.int .i64 (IntKind.i64.wrap (most_1 - (1 : Int))))] w4 (fun ch w => R (.panicked ch) w) fun v28 w29 =>
 ∃ y30 : Bool, v28 = (.bool y30) ∧
 J9 (!y30) w29)))))
 (fun s10 w11 =>
 ∀ j31 : Nat → Value, (cond s10
 (R (.returned (.bool false)) w11)
 (X2 (s3.1, (IntKind.i64.wrap (s3.2 + (1 : Int)))) w11)))))
 ((Eng.Loop (σ := Bool × Int) (fun X32 s33 w34 =>
 ∀ j35 : Nat → Value, ∃ (x36 : Option Addr) (l37 c38 : Nat), w34.cell? ⟨b0, 5, none⟩ = some (.slice x36 l37 c38) ∧
 (cond (decide (s33.2 < ((l37 : Nat) : Int)))
 ((Meet (σ := Bool) (fun J39 =>
 (cond (most_1 == (0 : Int))
 (J39 true w34)
 (∃ (x42 : Option Addr) (l43 c44 : Nat), w34.cell? ⟨b0, 5, none⟩ = some (.slice x42 l43 c44) ∧
 (withSome x42 fun (a45 : Addr) =>
 (0 ≤ s33.2 ∧ s33.2 < ((l43 : Nat) : Int)) ∧
 ∃ x46 : Int, w34.cell? (a45.add ((s33.2).toNat * 6)) = some (.int .i64 x46) ∧
 ∃ x47 : Int, w34.cell? ((a45.add ((s33.2).toNat * 6)).add 1) = some (.int .i64 x47) ∧
 ∃ x48 : ByteArray, w34.cell? ((a45.add ((s33.2).toNat * 6)).add 2) = some (.string x48) ∧
 ∃ (x49 : Option Addr) (l50 c51 : Nat), w34.cell? ((a45.add ((s33.2).toNat * 6)).add 3) = some (.slice x49 l50 c51) ∧
 ∃ (x52 : Option Addr) (l53 c54 : Nat), w34.cell? ((a45.add ((s33.2).toNat * 6)).add 4) = some (.slice x52 l53 c54) ∧
 ∃ (x55 : Option Addr) (l56 c57 : Nat), w34.cell? ((a45.add ((s33.2).toNat * 6)).add 5) = some (.slice x55 l56 c57) ∧
 (CallR pg f_aqueductlaw5_Shallow [(.agg #[(.int .i64 x46), (.int .i64 x47), (.string x48), (.slice x49 l50 c51), (.slice x52 l53 c54), (.slice x55 l56 c57)]), (.int .i64 (IntKind.i64.wrap (most_1 - (1 : Int))))] w34 (fun ch w => R (.panicked ch) w) fun v58 w59 =>
 ∃ y60 : Bool, v58 = (.bool y60) ∧
 J39 (!y60) w59)))))
 (fun s40 w41 =>
 ∀ j61 : Nat → Value, (cond s40
 (R (.returned (.bool false)) w41)
 (X32 (s33.1, (IntKind.i64.wrap (s33.2 + (1 : Int)))) w41)))))
 (R (.returned (.bool true)) w34))) (s3.1, (0 : Int)) w4)))) (false, (0 : Int)) w1))
theorem e_aqueductlaw5_Shallow (v_0x0 : Int) (v_0x1 : Int) (v_0x2 : ByteArray) (v_0x3 : Option Addr) (v_0x3l v_0x3c : Nat) (v_0x4 : Option Addr) (v_0x4l v_0x4c : Nat) (v_0x5 : Option Addr) (v_0x5l v_0x5c : Nat) (most_1 : Int) (w : World) (R : Ending → World → Prop) : funcX pg T bl Tryd.f28 [(.agg #[(.int .i64 v_0x0), (.int .i64 v_0x1), (.string v_0x2), (.slice v_0x3 v_0x3l v_0x3c), (.slice v_0x4 v_0x4l v_0x4c), (.slice v_0x5 v_0x5l v_0x5c)]), (.int .i64 most_1)] w R = c_aqueductlaw5_Shallow v_0x0  v_0x1  v_0x2  v_0x3 v_0x3l v_0x3c  v_0x4 v_0x4l v_0x4c  v_0x5 v_0x5l v_0x5c  most_1  w R := by kernel_rfl
theorem of_aqueductlaw5_Shallow (v_0x0 : Int) (v_0x1 : Int) (v_0x2 : ByteArray) (v_0x3 : Option Addr) (v_0x3l v_0x3c : Nat) (v_0x4 : Option Addr) (v_0x4l v_0x4c : Nat) (v_0x5 : Option Addr) (v_0x5l v_0x5c : Nat) (most_1 : Int) {w : World} {R : Ending → World → Prop} (h : c_aqueductlaw5_Shallow v_0x0  v_0x1  v_0x2  v_0x3 v_0x3l v_0x3c  v_0x4 v_0x4l v_0x4c  v_0x5 v_0x5l v_0x5c  most_1  w R) : Calls pg f_aqueductlaw5_Shallow #[(.agg #[(.int .i64 v_0x0), (.int .i64 v_0x1), (.string v_0x2), (.slice v_0x3 v_0x3l v_0x3c), (.slice v_0x4 v_0x4l v_0x4c), (.slice v_0x5 v_0x5l v_0x5c)]), (.int .i64 most_1)] w R :=
  funcX_of mixed tok blok Tryd.func28 (args := [(.agg #[(.int .i64 v_0x0), (.int .i64 v_0x1), (.string v_0x2), (.slice v_0x3 v_0x3l v_0x3c), (.slice v_0x4 v_0x4l v_0x4c), (.slice v_0x5 v_0x5l v_0x5c)]), (.int .i64 most_1)]) (e_aqueductlaw5_Shallow v_0x0  v_0x1  v_0x2  v_0x3 v_0x3l v_0x3c  v_0x4 v_0x4l v_0x4c  v_0x5 v_0x5l v_0x5c  most_1  w R) h
/-- aqueduct/order.Compare -/
def c_order_Compare (a_0x0 : Int) (a_0x1 : Int) (a_0x2 : ByteArray) (a_0x3 : Option Addr) (a_0x3l a_0x3c : Nat) (a_0x4 : Option Addr) (a_0x4l a_0x4c : Nat) (a_0x5 : Option Addr) (a_0x5l a_0x5c : Nat) (b_1x0 : Int) (b_1x1 : Int) (b_1x2 : ByteArray) (b_1x3 : Option Addr) (b_1x3l b_1x3c : Nat) (b_1x4 : Option Addr) (b_1x4l b_1x4c : Nat) (b_1x5 : Option Addr) (b_1x5l b_1x5c : Nat) (w : World) (R : Ending → World → Prop) : Prop :=
 (New w (.cells #[(.int .i64 a_0x0), (.int .i64 a_0x1), (.string a_0x2), (.slice a_0x3 a_0x3l a_0x3c), (.slice a_0x4 a_0x4l a_0x4c), (.slice a_0x5 a_0x5l a_0x5c)] t_api_Value (0, 0)) fun b0 w1 =>
 (New w1 (.cells #[(.int .i64 b_1x0), (.int .i64 b_1x1), (.string b_1x2), (.slice b_1x3 b_1x3l b_1x3c), (.slice b_1x4 b_1x4l b_1x4c), (.slice b_1x5 b_1x5l b_1x5c)] t_api_Value (0, 0)) fun b2 w3 =>
 (Drew w3 fun w4 =>
 ∃ x5 : Int, w4.cell? ⟨b0, 0, none⟩ = some (.int .i64 x5) ∧
 ∃ x6 : Int, w4.cell? ⟨b2, 0, none⟩ = some (.int .i64 x6) ∧
 (CallR pg f_order_Class [(.int .i64 x5)] w4 (fun ch w => R (.panicked ch) w) fun v7 w8 =>
 ∃ y9 : Int, v7 = (.int .i64 y9) ∧
 (w8.cell? ⟨b2, 0, none⟩ = some (.int .i64 x6)) ∧ (CallR pg f_order_Class [(.int .i64 x6)] w8 (fun ch w => R (.panicked ch) w) fun v10 w11 =>
 ∃ y12 : Int, v10 = (.int .i64 y12) ∧
 (CallR pg f_cmp_Compare_int [(.int .i64 y9), (.int .i64 y12)] w11 (fun ch w => R (.panicked ch) w) fun v13 w14 =>
 ∃ y15 : Int, v13 = (.int .i64 y15) ∧
 (cond (y15 != (0 : Int))
 (R (.returned (.int .i64 y15)) w14)
 (∃ x16 : Int, w14.cell? ⟨b0, 0, none⟩ = some (.int .i64 x16) ∧
 (CallR pg f_order_way [(.int .i64 x16)] w14 (fun ch w => R (.panicked ch) w) fun v17 w18 =>
 ∃ y19 : Value, v17 = y19 ∧
 ∃ x20 : Int, w18.cell? ⟨b0, 0, none⟩ = some (.int .i64 x20) ∧
 ∃ x21 : Int, w18.cell? ⟨b0, 1, none⟩ = some (.int .i64 x21) ∧
 ∃ x22 : ByteArray, w18.cell? ⟨b0, 2, none⟩ = some (.string x22) ∧
 ∃ (x23 : Option Addr) (l24 c25 : Nat), w18.cell? ⟨b0, 3, none⟩ = some (.slice x23 l24 c25) ∧
 ∃ (x26 : Option Addr) (l27 c28 : Nat), w18.cell? ⟨b0, 4, none⟩ = some (.slice x26 l27 c28) ∧
 ∃ (x29 : Option Addr) (l30 c31 : Nat), w18.cell? ⟨b0, 5, none⟩ = some (.slice x29 l30 c31) ∧
 ∃ x32 : Int, w18.cell? ⟨b2, 0, none⟩ = some (.int .i64 x32) ∧
 ∃ x33 : Int, w18.cell? ⟨b2, 1, none⟩ = some (.int .i64 x33) ∧
 ∃ x34 : ByteArray, w18.cell? ⟨b2, 2, none⟩ = some (.string x34) ∧
 ∃ (x35 : Option Addr) (l36 c37 : Nat), w18.cell? ⟨b2, 3, none⟩ = some (.slice x35 l36 c37) ∧
 ∃ (x38 : Option Addr) (l39 c40 : Nat), w18.cell? ⟨b2, 4, none⟩ = some (.slice x38 l39 c40) ∧
 ∃ (x41 : Option Addr) (l42 c43 : Nat), w18.cell? ⟨b2, 5, none⟩ = some (.slice x41 l42 c43) ∧
 (CallV pg bl y19 [(.agg #[(.int .i64 x20), (.int .i64 x21), (.string x22), (.slice x23 l24 c25), (.slice x26 l27 c28), (.slice x29 l30 c31)]), (.agg #[(.int .i64 x32), (.int .i64 x33), (.string x34), (.slice x35 l36 c37), (.slice x38 l39 c40), (.slice x41 l42 c43)])] w18 (fun ch w => R (.panicked ch) w) fun v44 w45 =>
 ∃ y46 : Int, v44 = (.int .i64 y46) ∧
 R (.returned (.int .i64 y46)) w45))))))))))
theorem e_order_Compare (a_0x0 : Int) (a_0x1 : Int) (a_0x2 : ByteArray) (a_0x3 : Option Addr) (a_0x3l a_0x3c : Nat) (a_0x4 : Option Addr) (a_0x4l a_0x4c : Nat) (a_0x5 : Option Addr) (a_0x5l a_0x5c : Nat) (b_1x0 : Int) (b_1x1 : Int) (b_1x2 : ByteArray) (b_1x3 : Option Addr) (b_1x3l b_1x3c : Nat) (b_1x4 : Option Addr) (b_1x4l b_1x4c : Nat) (b_1x5 : Option Addr) (b_1x5l b_1x5c : Nat) (w : World) (R : Ending → World → Prop) : funcX pg T bl Tryd.f34 [(.agg #[(.int .i64 a_0x0), (.int .i64 a_0x1), (.string a_0x2), (.slice a_0x3 a_0x3l a_0x3c), (.slice a_0x4 a_0x4l a_0x4c), (.slice a_0x5 a_0x5l a_0x5c)]), (.agg #[(.int .i64 b_1x0), (.int .i64 b_1x1), (.string b_1x2), (.slice b_1x3 b_1x3l b_1x3c), (.slice b_1x4 b_1x4l b_1x4c), (.slice b_1x5 b_1x5l b_1x5c)])] w R = c_order_Compare a_0x0  a_0x1  a_0x2  a_0x3 a_0x3l a_0x3c  a_0x4 a_0x4l a_0x4c  a_0x5 a_0x5l a_0x5c  b_1x0  b_1x1  b_1x2  b_1x3 b_1x3l b_1x3c  b_1x4 b_1x4l b_1x4c  b_1x5 b_1x5l b_1x5c  w R := by kernel_rfl
theorem of_order_Compare (a_0x0 : Int) (a_0x1 : Int) (a_0x2 : ByteArray) (a_0x3 : Option Addr) (a_0x3l a_0x3c : Nat) (a_0x4 : Option Addr) (a_0x4l a_0x4c : Nat) (a_0x5 : Option Addr) (a_0x5l a_0x5c : Nat) (b_1x0 : Int) (b_1x1 : Int) (b_1x2 : ByteArray) (b_1x3 : Option Addr) (b_1x3l b_1x3c : Nat) (b_1x4 : Option Addr) (b_1x4l b_1x4c : Nat) (b_1x5 : Option Addr) (b_1x5l b_1x5c : Nat) {w : World} {R : Ending → World → Prop} (h : c_order_Compare a_0x0  a_0x1  a_0x2  a_0x3 a_0x3l a_0x3c  a_0x4 a_0x4l a_0x4c  a_0x5 a_0x5l a_0x5c  b_1x0  b_1x1  b_1x2  b_1x3 b_1x3l b_1x3c  b_1x4 b_1x4l b_1x4c  b_1x5 b_1x5l b_1x5c  w R) : Calls pg f_order_Compare #[(.agg #[(.int .i64 a_0x0), (.int .i64 a_0x1), (.string a_0x2), (.slice a_0x3 a_0x3l a_0x3c), (.slice a_0x4 a_0x4l a_0x4c), (.slice a_0x5 a_0x5l a_0x5c)]), (.agg #[(.int .i64 b_1x0), (.int .i64 b_1x1), (.string b_1x2), (.slice b_1x3 b_1x3l b_1x3c), (.slice b_1x4 b_1x4l b_1x4c), (.slice b_1x5 b_1x5l b_1x5c)])] w R :=
  funcX_of mixed tok blok Tryd.func34 (args := [(.agg #[(.int .i64 a_0x0), (.int .i64 a_0x1), (.string a_0x2), (.slice a_0x3 a_0x3l a_0x3c), (.slice a_0x4 a_0x4l a_0x4c), (.slice a_0x5 a_0x5l a_0x5c)]), (.agg #[(.int .i64 b_1x0), (.int .i64 b_1x1), (.string b_1x2), (.slice b_1x3 b_1x3l b_1x3c), (.slice b_1x4 b_1x4l b_1x4c), (.slice b_1x5 b_1x5l b_1x5c)])]) (e_order_Compare a_0x0  a_0x1  a_0x2  a_0x3 a_0x3l a_0x3c  a_0x4 a_0x4l a_0x4c  a_0x5 a_0x5l a_0x5c  b_1x0  b_1x1  b_1x2  b_1x3 b_1x3l b_1x3c  b_1x4 b_1x4l b_1x4c  b_1x5 b_1x5l b_1x5c  w R) h
/-- aqueduct/aqueductref5.Utf8 -/
def c_aqueductref5_Utf8 (s_0 : ByteArray) (w : World) (R : Ending → World → Prop) : Prop :=
 (Eng.Loop (σ := Bool × Int) (fun X0 s1 w2 =>
 ∀ j3 : Nat → Value, (cond (decide (s1.2 < ((s_0.size : Nat) : Int)))
 ((0 ≤ s1.2 ∧ s1.2 < ((s_0.size : Nat) : Int)) ∧
 (Meet (σ := Int × Int × Int × Int × Bool) (fun J4 =>
 (cond (decide ((byteAt s_0 (s1.2).toNat : Nat) < (128 : Int)))
 (X0 (s1.1, (IntKind.i64.wrap (s1.2 + (1 : Int)))) w2)
 ((Meet (σ := Bool) (fun J7 =>
 (cond (decide ((byteAt s_0 (s1.2).toNat : Nat) ≥ (194 : Int)))
 (J7 (decide ((byteAt s_0 (s1.2).toNat : Nat) ≤ (223 : Int))) w2)
 (J7 false w2)))
 (fun s8 w9 =>
 ∀ j10 : Nat → Value, (cond s8
 (J4 (s1.2, (1 : Int), (128 : Int), (191 : Int), s1.1) w9)
 ((Meet (σ := Bool) (fun J11 =>
 (cond (decide ((byteAt s_0 (s1.2).toNat : Nat) ≥ (224 : Int)))
 (J11 (decide ((byteAt s_0 (s1.2).toNat : Nat) ≤ (239 : Int))) w9)
 (J11 false w9)))
 (fun s12 w13 =>
 ∀ j14 : Nat → Value, (cond s12
 ((Meet (σ := Int) (fun J15 =>
 (cond ((byteAt s_0 (s1.2).toNat : Nat) == (224 : Int))
 (J15 (160 : Int) w13)
 (J15 (128 : Int) w13)))
 (fun s16 w17 =>
 ∀ j18 : Nat → Value, (cond ((byteAt s_0 (s1.2).toNat : Nat) == (237 : Int))
 (J4 (s1.2, (2 : Int), s16, (159 : Int), s1.1) w17)
 (J4 (s1.2, (2 : Int), s16, (191 : Int), s1.1) w17)))))
 ((Meet (σ := Bool) (fun J19 =>
 (cond (decide ((byteAt s_0 (s1.2).toNat : Nat) ≥ (240 : Int)))
 (J19 (decide ((byteAt s_0 (s1.2).toNat : Nat) ≤ (244 : Int))) w13)
 (J19 false w13)))
 (fun s20 w21 =>
 ∀ j22 : Nat → Value, (cond s20
 ((Meet (σ := Int) (fun J23 =>
 (cond ((byteAt s_0 (s1.2).toNat : Nat) == (240 : Int))
 (J23 (144 : Int) w21)
 (J23 (128 : Int) w21)))
 (fun s24 w25 =>
 ∀ j26 : Nat → Value, (cond ((byteAt s_0 (s1.2).toNat : Nat) == (244 : Int))
 (J4 (s1.2, (3 : Int), s24, (143 : Int), s1.1) w25)
 (J4 (s1.2, (3 : Int), s24, (191 : Int), s1.1) w25)))))
 (R (.returned (.bool false)) w21)))))))))))))))
 (fun s5 w6 =>
 ∀ j27 : Nat → Value, (Meet (σ := Bool) (fun J28 =>
 (cond (decide ((IntKind.i64.wrap ((IntKind.i64.wrap (((s_0.size : Nat) : Int) - s5.1)) - (1 : Int))) < s5.2.1))
 (J28 true w6)
 ((0 ≤ (IntKind.i64.wrap (s5.1 + (1 : Int))) ∧ (IntKind.i64.wrap (s5.1 + (1 : Int))) < ((s_0.size : Nat) : Int)) ∧
 (cond (decide ((byteAt s_0 ((IntKind.i64.wrap (s5.1 + (1 : Int)))).toNat : Nat) < s5.2.2.1))
 (J28 true w6)
 ((0 ≤ (IntKind.i64.wrap (s5.1 + (1 : Int))) ∧ (IntKind.i64.wrap (s5.1 + (1 : Int))) < ((s_0.size : Nat) : Int)) ∧
 J28 (decide ((byteAt s_0 ((IntKind.i64.wrap (s5.1 + (1 : Int)))).toNat : Nat) > s5.2.2.2.1)) w6)))))
 (fun s29 w30 =>
 ∀ j31 : Nat → Value, (cond s29
 (R (.returned (.bool false)) w30)
 ((Eng.Loop (σ := Bool × Int) (fun X32 s33 w34 =>
 ∀ j35 : Nat → Value, (cond (decide (s33.2 ≤ s5.2.1))
 ((0 ≤ (IntKind.i64.wrap (s5.1 + s33.2)) ∧ (IntKind.i64.wrap (s5.1 + s33.2)) < ((s_0.size : Nat) : Int)) ∧
 (cond ((IntKind.u8.wrap (BitVec.ofInt IntKind.u8.bits (byteAt s_0 ((IntKind.i64.wrap (s5.1 + s33.2))).toNat : Nat) &&& BitVec.ofInt IntKind.u8.bits (192 : Int)).toNat) != (128 : Int))
 (R (.returned (.bool false)) w34)
 (X32 (s33.1, (IntKind.i64.wrap (s33.2 + (1 : Int)))) w34)))
 (X0 (s33.1, (IntKind.i64.wrap ((IntKind.i64.wrap (s5.1 + s5.2.1)) + (1 : Int)))) w34))) (s5.2.2.2.2, (2 : Int)) w30))))))))
 (R (.returned (.bool true)) w2))) (false, (0 : Int)) w)
theorem e_aqueductref5_Utf8 (s_0 : ByteArray) (w : World) (R : Ending → World → Prop) : funcX pg T bl Tryd.f40 [(.string s_0)] w R = c_aqueductref5_Utf8 s_0  w R := by kernel_rfl
theorem of_aqueductref5_Utf8 (s_0 : ByteArray) {w : World} {R : Ending → World → Prop} (h : c_aqueductref5_Utf8 s_0  w R) : Calls pg f_aqueductref5_Utf8 #[(.string s_0)] w R :=
  funcX_of mixed tok blok Tryd.func40 (args := [(.string s_0)]) (e_aqueductref5_Utf8 s_0  w R) h
/-- aqueduct/aqueductref5.fields -/
def c_aqueductref5_fields (f_0 : Option Addr) (f_0l f_0c : Nat) (depth_1 : Int) (w : World) (R : Ending → World → Prop) : Prop :=
 (Prim pg (Instr.makeSlice t_Suint8 (.int .i64 (4 : Int)) (.int .i64 (4 : Int))) w fun v0 w1 =>
 ∃ (y2 : Option Addr) (l3 c4 : Nat), v0 = (.slice y2 l3 c4) ∧
 (Eng.Loop (σ := (Option Addr × Nat × Nat) × (Option Addr × Nat × Nat) × Bool × Int) (fun X5 s6 w7 =>
 ∀ j8 : Nat → Value, (cond (decide (s6.2.2.2 < ((f_0l : Nat) : Int)))
 ((withSome f_0 fun (a9 : Addr) =>
 (0 ≤ s6.2.2.2 ∧ s6.2.2.2 < ((f_0l : Nat) : Int)) ∧
 ∃ x10 : Int, w7.cell? ((a9.add ((s6.2.2.2).toNat * 7)).add 1) = some (.int .i64 x10) ∧
 ∃ x11 : Int, w7.cell? (((a9.add ((s6.2.2.2).toNat * 7)).add 1).add 1) = some (.int .i64 x11) ∧
 ∃ x12 : ByteArray, w7.cell? (((a9.add ((s6.2.2.2).toNat * 7)).add 1).add 2) = some (.string x12) ∧
 ∃ (x13 : Option Addr) (l14 c15 : Nat), w7.cell? (((a9.add ((s6.2.2.2).toNat * 7)).add 1).add 3) = some (.slice x13 l14 c15) ∧
 ∃ (x16 : Option Addr) (l17 c18 : Nat), w7.cell? (((a9.add ((s6.2.2.2).toNat * 7)).add 1).add 4) = some (.slice x16 l17 c18) ∧
 ∃ (x19 : Option Addr) (l20 c21 : Nat), w7.cell? (((a9.add ((s6.2.2.2).toNat * 7)).add 1).add 5) = some (.slice x19 l20 c21) ∧
 (CallR pg f_aqueductref5_own [(.agg #[(.int .i64 x10), (.int .i64 x11), (.string x12), (.slice x13 l14 c15), (.slice x16 l17 c18), (.slice x19 l20 c21)]), (.int .i64 (IntKind.i64.wrap (depth_1 + (1 : Int))))] w7 (fun ch w => R (.panicked ch) w) fun v22 w23 =>
 ∃ (y24 : Option Addr) (l25 c26 : Nat), ∃ y27 : Bool, v22 = (.tuple #[(.slice y24 l25 c26), (.bool y27)]) ∧
 (Meet (σ := Bool) (fun J28 =>
 (cond (!y27)
 (J28 true w23)
 ((withSome f_0 fun (a31 : Addr) =>
 (0 ≤ s6.2.2.2 ∧ s6.2.2.2 < ((f_0l : Nat) : Int)) ∧
 ∃ x32 : ByteArray, w23.cell? (a31.add ((s6.2.2.2).toNat * 7)) = some (.string x32) ∧
 (CallR pg f_aqueductref5_NameMay [(.string x32)] w23 (fun ch w => R (.panicked ch) w) fun v33 w34 =>
 ∃ y35 : Bool, v33 = (.bool y35) ∧
 J28 (!y35) w34)))))
 (fun s29 w30 =>
 ∀ j36 : Nat → Value, (cond s29
 (R (.returned (.tuple #[(.slice none 0 0), (.bool false)])) w30)
 ((Eng.Loop (σ := (Option Addr × Nat × Nat) × Bool × Int) (fun X37 s38 w39 =>
 ∀ j40 : Nat → Value, (cond (decide (s38.2.2 < s6.2.2.2))
 ((Drew w39 fun w41 =>
 (withSome f_0 fun (a42 : Addr) =>
 (0 ≤ s38.2.2 ∧ s38.2.2 < ((f_0l : Nat) : Int)) ∧
 ∃ x43 : ByteArray, w41.cell? (a42.add ((s38.2.2).toNat * 7)) = some (.string x43) ∧
 (withSome f_0 fun (a44 : Addr) =>
 (0 ≤ s6.2.2.2 ∧ s6.2.2.2 < ((f_0l : Nat) : Int)) ∧
 ∃ x45 : ByteArray, w41.cell? (a44.add ((s6.2.2.2).toNat * 7)) = some (.string x45) ∧
 (cond (x43.toList == x45.toList)
 (R (.returned (.tuple #[(.slice none 0 0), (.bool false)])) w41)
 (X37 ((s38.1.1, s38.1.2.1, s38.1.2.2), s38.2.1, (IntKind.i64.wrap (s38.2.2 + (1 : Int)))) w41))))))
 ((Drew w39 fun w46 =>
 (withSome f_0 fun (a47 : Addr) =>
 (0 ≤ s6.2.2.2 ∧ s6.2.2.2 < ((f_0l : Nat) : Int)) ∧
 ∃ x48 : Int, w46.cell? ((a47.add ((s6.2.2.2).toNat * 7)).add 1) = some (.int .i64 x48) ∧
 (withSome f_0 fun (a49 : Addr) =>
 (0 ≤ s6.2.2.2 ∧ s6.2.2.2 < ((f_0l : Nat) : Int)) ∧
 ∃ x50 : ByteArray, w46.cell? (a49.add ((s6.2.2.2).toNat * 7)) = some (.string x50) ∧
 ((CallR pg f_aqueductref5_code [(.int .i64 x48)] w46 (fun ch w => R (.panicked ch) w) fun v51 w52 =>
 ∃ y53 : Int, v51 = (.int .u8 y53) ∧
 (w52.cell? (a49.add ((s6.2.2.2).toNat * 7)) = some (.string x50)) ∧ ((New w52 (.cells #[(.int .u8 y53)] t_uint8 (0, 0)) fun b54 w55 =>
 (w55.cell? (a49.add ((s6.2.2.2).toNat * 7)) = some (.string x50)) ∧ ((Prim pg (Builtin.append_ #[t_Suint8, t_Suint8] t_Suint8 #[(.slice s6.1.1 s6.1.2.1 s6.1.2.2), (.slice (some (⟨b54, 0, none⟩ : Addr)) 1 1)]) w55 fun v56 w57 =>
 ∃ (y58 : Option Addr) (l59 c60 : Nat), v56 = (.slice y58 l59 c60) ∧
 (w57.cell? (a49.add ((s6.2.2.2).toNat * 7)) = some (.string x50)) ∧ ((Prim pg (Builtin.append_ #[t_Suint8, t_string] t_Suint8 #[(.slice y58 l59 c60), (.string x50)]) w57 fun v61 w62 =>
 ∃ (y63 : Option Addr) (l64 c65 : Nat), v61 = (.slice y63 l64 c65) ∧
 (New w62 (.cells #[(.int .u8 (0 : Int))] t_uint8 (0, 0)) fun b66 w67 =>
 (Prim pg (Builtin.append_ #[t_Suint8, t_Suint8] t_Suint8 #[(.slice y63 l64 c65), (.slice (some (⟨b66, 0, none⟩ : Addr)) 1 1)]) w67 fun v68 w69 =>
 ∃ (y70 : Option Addr) (l71 c72 : Nat), v68 = (.slice y70 l71 c72) ∧
 (Prim pg (Builtin.append_ #[t_Suint8, t_Suint8] t_Suint8 #[(.slice y70 l71 c72), (.slice y24 l25 c26)]) w69 fun v73 w74 =>
 ∃ (y75 : Option Addr) (l76 c77 : Nat), v73 = (.slice y75 l76 c77) ∧
 (cond (decide (((l76 : Nat) : Int) > (65536 : Int)))
 (R (.returned (.tuple #[(.slice none 0 0), (.bool false)])) w74)
 (X5 ((y75, l76, c77), (s38.1.1, s38.1.2.1, s38.1.2.2), s38.2.1, (IntKind.i64.wrap (s6.2.2.2 + (1 : Int)))) w74))))))) ∧
 ((New w57 (.cells #[(.int .u8 (0 : Int))] t_uint8 (0, 0)) fun b78 w79 =>
 (w79.cell? (a49.add ((s6.2.2.2).toNat * 7)) = some (.string x50)) ∧ (Prim pg (Builtin.append_ #[t_Suint8, t_string] t_Suint8 #[(.slice y58 l59 c60), (.string x50)]) w79 fun v80 w81 =>
 ∃ (y82 : Option Addr) (l83 c84 : Nat), v80 = (.slice y82 l83 c84) ∧
 (Prim pg (Builtin.append_ #[t_Suint8, t_Suint8] t_Suint8 #[(.slice y82 l83 c84), (.slice (some (⟨b78, 0, none⟩ : Addr)) 1 1)]) w81 fun v85 w86 =>
 ∃ (y87 : Option Addr) (l88 c89 : Nat), v85 = (.slice y87 l88 c89) ∧
 (Prim pg (Builtin.append_ #[t_Suint8, t_Suint8] t_Suint8 #[(.slice y87 l88 c89), (.slice y24 l25 c26)]) w86 fun v90 w91 =>
 ∃ (y92 : Option Addr) (l93 c94 : Nat), v90 = (.slice y92 l93 c94) ∧
 (cond (decide (((l93 : Nat) : Int) > (65536 : Int)))
 (R (.returned (.tuple #[(.slice none 0 0), (.bool false)])) w91)
 (X5 ((y92, l93, c94), (s38.1.1, s38.1.2.1, s38.1.2.2), s38.2.1, (IntKind.i64.wrap (s6.2.2.2 + (1 : Int)))) w91))))))))) ∧
 ((New w55 (.cells #[(.int .u8 (0 : Int))] t_uint8 (0, 0)) fun b95 w96 =>
 (w96.cell? (a49.add ((s6.2.2.2).toNat * 7)) = some (.string x50)) ∧ (Prim pg (Builtin.append_ #[t_Suint8, t_Suint8] t_Suint8 #[(.slice s6.1.1 s6.1.2.1 s6.1.2.2), (.slice (some (⟨b54, 0, none⟩ : Addr)) 1 1)]) w96 fun v97 w98 =>
 ∃ (y99 : Option Addr) (l100 c101 : Nat), v97 = (.slice y99 l100 c101) ∧
 (w98.cell? (a49.add ((s6.2.2.2).toNat * 7)) = some (.string x50)) ∧ (Prim pg (Builtin.append_ #[t_Suint8, t_string] t_Suint8 #[(.slice y99 l100 c101), (.string x50)]) w98 fun v102 w103 =>
 ∃ (y104 : Option Addr) (l105 c106 : Nat), v102 = (.slice y104 l105 c106) ∧
 (Prim pg (Builtin.append_ #[t_Suint8, t_Suint8] t_Suint8 #[(.slice y104 l105 c106), (.slice (some (⟨b95, 0, none⟩ : Addr)) 1 1)]) w103 fun v107 w108 =>
 ∃ (y109 : Option Addr) (l110 c111 : Nat), v107 = (.slice y109 l110 c111) ∧
 (Prim pg (Builtin.append_ #[t_Suint8, t_Suint8] t_Suint8 #[(.slice y109 l110 c111), (.slice y24 l25 c26)]) w108 fun v112 w113 =>
 ∃ (y114 : Option Addr) (l115 c116 : Nat), v112 = (.slice y114 l115 c116) ∧
 (cond (decide (((l115 : Nat) : Int) > (65536 : Int)))
 (R (.returned (.tuple #[(.slice none 0 0), (.bool false)])) w113)
 (X5 ((y114, l115, c116), (s38.1.1, s38.1.2.1, s38.1.2.2), s38.2.1, (IntKind.i64.wrap (s6.2.2.2 + (1 : Int)))) w113)))))))))) ∧
 ((New w52 (.cells #[(.int .u8 (0 : Int))] t_uint8 (0, 0)) fun b117 w118 =>
 (w118.cell? (a49.add ((s6.2.2.2).toNat * 7)) = some (.string x50)) ∧ (New w118 (.cells #[(.int .u8 y53)] t_uint8 (0, 0)) fun b119 w120 =>
 (w120.cell? (a49.add ((s6.2.2.2).toNat * 7)) = some (.string x50)) ∧ (Prim pg (Builtin.append_ #[t_Suint8, t_Suint8] t_Suint8 #[(.slice s6.1.1 s6.1.2.1 s6.1.2.2), (.slice (some (⟨b119, 0, none⟩ : Addr)) 1 1)]) w120 fun v121 w122 =>
 ∃ (y123 : Option Addr) (l124 c125 : Nat), v121 = (.slice y123 l124 c125) ∧
 (w122.cell? (a49.add ((s6.2.2.2).toNat * 7)) = some (.string x50)) ∧ (Prim pg (Builtin.append_ #[t_Suint8, t_string] t_Suint8 #[(.slice y123 l124 c125), (.string x50)]) w122 fun v126 w127 =>
 ∃ (y128 : Option Addr) (l129 c130 : Nat), v126 = (.slice y128 l129 c130) ∧
 (Prim pg (Builtin.append_ #[t_Suint8, t_Suint8] t_Suint8 #[(.slice y128 l129 c130), (.slice (some (⟨b117, 0, none⟩ : Addr)) 1 1)]) w127 fun v131 w132 =>
 ∃ (y133 : Option Addr) (l134 c135 : Nat), v131 = (.slice y133 l134 c135) ∧
 (Prim pg (Builtin.append_ #[t_Suint8, t_Suint8] t_Suint8 #[(.slice y133 l134 c135), (.slice y24 l25 c26)]) w132 fun v136 w137 =>
 ∃ (y138 : Option Addr) (l139 c140 : Nat), v136 = (.slice y138 l139 c140) ∧
 (cond (decide (((l139 : Nat) : Int) > (65536 : Int)))
 (R (.returned (.tuple #[(.slice none 0 0), (.bool false)])) w137)
 (X5 ((y138, l139, c140), (s38.1.1, s38.1.2.1, s38.1.2.2), s38.2.1, (IntKind.i64.wrap (s6.2.2.2 + (1 : Int)))) w137))))))))))) ∧
 ((New w46 (.cells #[(.int .u8 (0 : Int))] t_uint8 (0, 0)) fun b141 w142 =>
 (w142.cell? (a49.add ((s6.2.2.2).toNat * 7)) = some (.string x50)) ∧ (w142.cell? ((a47.add ((s6.2.2.2).toNat * 7)).add 1) = some (.int .i64 x48)) ∧ (CallR pg f_aqueductref5_code [(.int .i64 x48)] w142 (fun ch w => R (.panicked ch) w) fun v143 w144 =>
 ∃ y145 : Int, v143 = (.int .u8 y145) ∧
 (w144.cell? (a49.add ((s6.2.2.2).toNat * 7)) = some (.string x50)) ∧ (New w144 (.cells #[(.int .u8 y145)] t_uint8 (0, 0)) fun b146 w147 =>
 (w147.cell? (a49.add ((s6.2.2.2).toNat * 7)) = some (.string x50)) ∧ (Prim pg (Builtin.append_ #[t_Suint8, t_Suint8] t_Suint8 #[(.slice s6.1.1 s6.1.2.1 s6.1.2.2), (.slice (some (⟨b146, 0, none⟩ : Addr)) 1 1)]) w147 fun v148 w149 =>
 ∃ (y150 : Option Addr) (l151 c152 : Nat), v148 = (.slice y150 l151 c152) ∧
 (w149.cell? (a49.add ((s6.2.2.2).toNat * 7)) = some (.string x50)) ∧ (Prim pg (Builtin.append_ #[t_Suint8, t_string] t_Suint8 #[(.slice y150 l151 c152), (.string x50)]) w149 fun v153 w154 =>
 ∃ (y155 : Option Addr) (l156 c157 : Nat), v153 = (.slice y155 l156 c157) ∧
 (Prim pg (Builtin.append_ #[t_Suint8, t_Suint8] t_Suint8 #[(.slice y155 l156 c157), (.slice (some (⟨b141, 0, none⟩ : Addr)) 1 1)]) w154 fun v158 w159 =>
 ∃ (y160 : Option Addr) (l161 c162 : Nat), v158 = (.slice y160 l161 c162) ∧
 (Prim pg (Builtin.append_ #[t_Suint8, t_Suint8] t_Suint8 #[(.slice y160 l161 c162), (.slice y24 l25 c26)]) w159 fun v163 w164 =>
 ∃ (y165 : Option Addr) (l166 c167 : Nat), v163 = (.slice y165 l166 c167) ∧
 (cond (decide (((l166 : Nat) : Int) > (65536 : Int)))
 (R (.returned (.tuple #[(.slice none 0 0), (.bool false)])) w164)
 (X5 ((y165, l166, c167), (s38.1.1, s38.1.2.1, s38.1.2.2), s38.2.1, (IntKind.i64.wrap (s6.2.2.2 + (1 : Int)))) w164)))))))))))))))) ((s6.2.1.1, s6.2.1.2.1, s6.2.1.2.2), s6.2.2.1, (0 : Int)) w30))))))))
 ((New w7 (.cells #[(.int .u8 (0 : Int))] t_uint8 (0, 0)) fun b168 w169 =>
 (Prim pg (Builtin.append_ #[t_Suint8, t_Suint8] t_Suint8 #[(.slice s6.1.1 s6.1.2.1 s6.1.2.2), (.slice (some (⟨b168, 0, none⟩ : Addr)) 1 1)]) w169 fun v170 w171 =>
 ∃ (y172 : Option Addr) (l173 c174 : Nat), v170 = (.slice y172 l173 c174) ∧
 (CallR pg f_aqueductref5_num [(.int .i64 ((l173 : Nat) : Int)), (.int .i64 (4 : Int))] w171 (fun ch w => R (.panicked ch) w) fun v175 w176 =>
 ∃ (y177 : Option Addr) (l178 c179 : Nat), v175 = (.slice y177 l178 c179) ∧
 (Prim pg (Builtin.copy_ #[t_Suint8, t_Suint8] t_int #[(.slice y172 l173 c174), (.slice y177 l178 c179)]) w176 fun v180 w181 =>
 ∃ y182 : Int, v180 = (.int .i64 y182) ∧
 R (.returned (.tuple #[(.slice y172 l173 c174), (.bool (decide (((l173 : Nat) : Int) ≤ (65536 : Int))))])) w181))))))) ((y2, l3, c4), (none, 0, 0), false, (0 : Int)) w1))
theorem e_aqueductref5_fields (f_0 : Option Addr) (f_0l f_0c : Nat) (depth_1 : Int) (w : World) (R : Ending → World → Prop) : funcX pg T bl Tryd.f41 [(.slice f_0 f_0l f_0c), (.int .i64 depth_1)] w R = c_aqueductref5_fields f_0 f_0l f_0c  depth_1  w R := by kernel_rfl
theorem of_aqueductref5_fields (f_0 : Option Addr) (f_0l f_0c : Nat) (depth_1 : Int) {w : World} {R : Ending → World → Prop} (h : c_aqueductref5_fields f_0 f_0l f_0c  depth_1  w R) : Calls pg f_aqueductref5_fields #[(.slice f_0 f_0l f_0c), (.int .i64 depth_1)] w R :=
  funcX_of mixed tok blok Tryd.func41 (args := [(.slice f_0 f_0l f_0c), (.int .i64 depth_1)]) (e_aqueductref5_fields f_0 f_0l f_0c  depth_1  w R) h
/-- aqueduct/aqueductref5.digits -/
def c_aqueductref5_digits (n_0 : Int) (w : World) (R : Ending → World → Prop) : Prop :=
 (Eng.Loop (σ := ByteArray × Int) (fun X0 s1 w2 =>
 ∀ j3 : Nat → Value, (cond ((10 : Int) == 0)
 (False)
 ((New w2 (.cells #[(.int .u8 (IntKind.u8.wrap ((48 : Int) + (IntKind.u8.wrap (s1.2.tmod (10 : Int))))))] t_uint8 (0, 0)) fun b4 w5 =>
 (Prim pg (Go.convert t_Suint8 t_string (.slice (some (⟨b4, 0, none⟩ : Addr)) 1 1)) w5 fun v6 w7 =>
 ∃ y8 : ByteArray, v6 = (.string y8) ∧
 (y8.size + s1.1.size ≤ 9223372036854775807) ∧
 (cond ((10 : Int) == 0)
 (False)
 ((cond ((IntKind.i64.wrap (s1.2.tdiv (10 : Int))) == (0 : Int))
 (R (.returned (.string (y8 ++ s1.1))) w7)
 (X0 ((y8 ++ s1.1), (IntKind.i64.wrap (s1.2.tdiv (10 : Int)))) w7))))))))) ((⟨#[]⟩ : ByteArray), n_0) w)
theorem e_aqueductref5_digits (n_0 : Int) (w : World) (R : Ending → World → Prop) : funcX pg T bl Tryd.f42 [(.int .i64 n_0)] w R = c_aqueductref5_digits n_0  w R := by kernel_rfl
theorem of_aqueductref5_digits (n_0 : Int) {w : World} {R : Ending → World → Prop} (h : c_aqueductref5_digits n_0  w R) : Calls pg f_aqueductref5_digits #[(.int .i64 n_0)] w R :=
  funcX_of mixed tok blok Tryd.func42 (args := [(.int .i64 n_0)]) (e_aqueductref5_digits n_0  w R) h
/-- aqueduct/num.reckoned -/
def c_num_reckoned (a_0x0 : Int) (a_0x1 : Int) (a_0x2 : ByteArray) (a_0x3 : Option Addr) (a_0x3l a_0x3c : Nat) (a_0x4 : Option Addr) (a_0x4l a_0x4c : Nat) (a_0x5 : Option Addr) (a_0x5l a_0x5c : Nat) (b_1x0 : Int) (b_1x1 : Int) (b_1x2 : ByteArray) (b_1x3 : Option Addr) (b_1x3l b_1x3c : Nat) (b_1x4 : Option Addr) (b_1x4l b_1x4c : Nat) (b_1x5 : Option Addr) (b_1x5l b_1x5c : Nat) (do_2 : Value) (w : World) (R : Ending → World → Prop) : Prop :=
 (New w (.cells #[(.int .i64 a_0x0), (.int .i64 a_0x1), (.string a_0x2), (.slice a_0x3 a_0x3l a_0x3c), (.slice a_0x4 a_0x4l a_0x4c), (.slice a_0x5 a_0x5l a_0x5c)] t_api_Value (0, 0)) fun b0 w1 =>
 (New w1 (.cells #[(.int .i64 b_1x0), (.int .i64 b_1x1), (.string b_1x2), (.slice b_1x3 b_1x3l b_1x3c), (.slice b_1x4 b_1x4l b_1x4c), (.slice b_1x5 b_1x5l b_1x5c)] t_api_Value (0, 0)) fun b2 w3 =>
 (New w3 (.cells #[(.int .i64 (0 : Int)), (.int .i64 (0 : Int)), (.string (⟨#[]⟩ : ByteArray)), (.slice none 0 0), (.slice none 0 0), (.slice none 0 0)] t_api_Value (0, 0)) fun b4 w5 =>
 (Meet (σ := Bool) (fun J6 =>
 ∃ x9 : Int, w5.cell? ⟨b0, 0, none⟩ = some (.int .i64 x9) ∧
 ∃ x10 : Int, w5.cell? ⟨b0, 1, none⟩ = some (.int .i64 x10) ∧
 ∃ x11 : ByteArray, w5.cell? ⟨b0, 2, none⟩ = some (.string x11) ∧
 ∃ (x12 : Option Addr) (l13 c14 : Nat), w5.cell? ⟨b0, 3, none⟩ = some (.slice x12 l13 c14) ∧
 ∃ (x15 : Option Addr) (l16 c17 : Nat), w5.cell? ⟨b0, 4, none⟩ = some (.slice x15 l16 c17) ∧
 ∃ (x18 : Option Addr) (l19 c20 : Nat), w5.cell? ⟨b0, 5, none⟩ = some (.slice x18 l19 c20) ∧
 (CallR pg f_num_none [(.agg #[(.int .i64 x9), (.int .i64 x10), (.string x11), (.slice x12 l13 c14), (.slice x15 l16 c17), (.slice x18 l19 c20)])] w5 (fun ch w => R (.panicked ch) w) fun v21 w22 =>
 ∃ y23 : Bool, v21 = (.bool y23) ∧
 (cond y23
 (J6 true w22)
 (∃ x24 : Int, w22.cell? ⟨b2, 0, none⟩ = some (.int .i64 x24) ∧
 ∃ x25 : Int, w22.cell? ⟨b2, 1, none⟩ = some (.int .i64 x25) ∧
 ∃ x26 : ByteArray, w22.cell? ⟨b2, 2, none⟩ = some (.string x26) ∧
 ∃ (x27 : Option Addr) (l28 c29 : Nat), w22.cell? ⟨b2, 3, none⟩ = some (.slice x27 l28 c29) ∧
 ∃ (x30 : Option Addr) (l31 c32 : Nat), w22.cell? ⟨b2, 4, none⟩ = some (.slice x30 l31 c32) ∧
 ∃ (x33 : Option Addr) (l34 c35 : Nat), w22.cell? ⟨b2, 5, none⟩ = some (.slice x33 l34 c35) ∧
 (CallR pg f_num_none [(.agg #[(.int .i64 x24), (.int .i64 x25), (.string x26), (.slice x27 l28 c29), (.slice x30 l31 c32), (.slice x33 l34 c35)])] w22 (fun ch w => R (.panicked ch) w) fun v36 w37 =>
 ∃ y38 : Bool, v36 = (.bool y38) ∧
 J6 y38 w37)))))
 (fun s7 w8 =>
 ∀ j39 : Nat → Value, (cond s7
 ((St w8 ⟨b4, 0, none⟩ (.int .i64 (2 : Int)) fun w40 =>
 (St w40 ⟨b4, 1, none⟩ (.int .i64 (0 : Int)) fun w41 =>
 (St w41 ⟨b4, 2, none⟩ (.string (⟨#[]⟩ : ByteArray)) fun w42 =>
 (St w42 ⟨b4, 3, none⟩ (.slice none 0 0) fun w43 =>
 (St w43 ⟨b4, 4, none⟩ (.slice none 0 0) fun w44 =>
 (St w44 ⟨b4, 5, none⟩ (.slice none 0 0) fun w45 =>
 ∃ x46 : Int, w45.cell? ⟨b4, 0, none⟩ = some (.int .i64 x46) ∧
 ∃ x47 : Int, w45.cell? ⟨b4, 1, none⟩ = some (.int .i64 x47) ∧
 ∃ x48 : ByteArray, w45.cell? ⟨b4, 2, none⟩ = some (.string x48) ∧
 ∃ (x49 : Option Addr) (l50 c51 : Nat), w45.cell? ⟨b4, 3, none⟩ = some (.slice x49 l50 c51) ∧
 ∃ (x52 : Option Addr) (l53 c54 : Nat), w45.cell? ⟨b4, 4, none⟩ = some (.slice x52 l53 c54) ∧
 ∃ (x55 : Option Addr) (l56 c57 : Nat), w45.cell? ⟨b4, 5, none⟩ = some (.slice x55 l56 c57) ∧
 R (.returned (.tuple #[(.agg #[(.int .i64 x46), (.int .i64 x47), (.string x48), (.slice x49 l50 c51), (.slice x52 l53 c54), (.slice x55 l56 c57)]), (.int .i64 (0 : Int))])) w45)))))))
 ((Meet (σ := Bool) (fun J58 =>
 ∃ x61 : Int, w8.cell? ⟨b0, 0, none⟩ = some (.int .i64 x61) ∧
 ∃ x62 : Int, w8.cell? ⟨b0, 1, none⟩ = some (.int .i64 x62) ∧
 ∃ x63 : ByteArray, w8.cell? ⟨b0, 2, none⟩ = some (.string x63) ∧
 ∃ (x64 : Option Addr) (l65 c66 : Nat), w8.cell? ⟨b0, 3, none⟩ = some (.slice x64 l65 c66) ∧
 ∃ (x67 : Option Addr) (l68 c69 : Nat), w8.cell? ⟨b0, 4, none⟩ = some (.slice x67 l68 c69) ∧
 ∃ (x70 : Option Addr) (l71 c72 : Nat), w8.cell? ⟨b0, 5, none⟩ = some (.slice x70 l71 c72) ∧
 (CallR pg f_num_number [(.agg #[(.int .i64 x61), (.int .i64 x62), (.string x63), (.slice x64 l65 c66), (.slice x67 l68 c69), (.slice x70 l71 c72)])] w8 (fun ch w => R (.panicked ch) w) fun v73 w74 =>
 ∃ y75 : Bool, v73 = (.bool y75) ∧
 (cond (!y75)
 (J58 true w74)
 (∃ x76 : Int, w74.cell? ⟨b2, 0, none⟩ = some (.int .i64 x76) ∧
 ∃ x77 : Int, w74.cell? ⟨b2, 1, none⟩ = some (.int .i64 x77) ∧
 ∃ x78 : ByteArray, w74.cell? ⟨b2, 2, none⟩ = some (.string x78) ∧
 ∃ (x79 : Option Addr) (l80 c81 : Nat), w74.cell? ⟨b2, 3, none⟩ = some (.slice x79 l80 c81) ∧
 ∃ (x82 : Option Addr) (l83 c84 : Nat), w74.cell? ⟨b2, 4, none⟩ = some (.slice x82 l83 c84) ∧
 ∃ (x85 : Option Addr) (l86 c87 : Nat), w74.cell? ⟨b2, 5, none⟩ = some (.slice x85 l86 c87) ∧
 (CallR pg f_num_number [(.agg #[(.int .i64 x76), (.int .i64 x77), (.string x78), (.slice x79 l80 c81), (.slice x82 l83 c84), (.slice x85 l86 c87)])] w74 (fun ch w => R (.panicked ch) w) fun v88 w89 =>
 ∃ y90 : Bool, v88 = (.bool y90) ∧
 J58 (!y90) w89)))))
 (fun s59 w60 =>
 ∀ j91 : Nat → Value, (cond s59
 ((St w60 ⟨b4, 0, none⟩ (.int .i64 (0 : Int)) fun w92 =>
 (St w92 ⟨b4, 1, none⟩ (.int .i64 (0 : Int)) fun w93 =>
 (St w93 ⟨b4, 2, none⟩ (.string (⟨#[]⟩ : ByteArray)) fun w94 =>
 (St w94 ⟨b4, 3, none⟩ (.slice none 0 0) fun w95 =>
 (St w95 ⟨b4, 4, none⟩ (.slice none 0 0) fun w96 =>
 (St w96 ⟨b4, 5, none⟩ (.slice none 0 0) fun w97 =>
 ∃ x98 : Int, w97.cell? ⟨b4, 0, none⟩ = some (.int .i64 x98) ∧
 ∃ x99 : Int, w97.cell? ⟨b4, 1, none⟩ = some (.int .i64 x99) ∧
 ∃ x100 : ByteArray, w97.cell? ⟨b4, 2, none⟩ = some (.string x100) ∧
 ∃ (x101 : Option Addr) (l102 c103 : Nat), w97.cell? ⟨b4, 3, none⟩ = some (.slice x101 l102 c103) ∧
 ∃ (x104 : Option Addr) (l105 c106 : Nat), w97.cell? ⟨b4, 4, none⟩ = some (.slice x104 l105 c106) ∧
 ∃ (x107 : Option Addr) (l108 c109 : Nat), w97.cell? ⟨b4, 5, none⟩ = some (.slice x107 l108 c109) ∧
 R (.returned (.tuple #[(.agg #[(.int .i64 x98), (.int .i64 x99), (.string x100), (.slice x101 l102 c103), (.slice x104 l105 c106), (.slice x107 l108 c109)]), (.int .i64 (12 : Int))])) w97)))))))
 (∃ x110 : Int, w60.cell? ⟨b0, 1, none⟩ = some (.int .i64 x110) ∧
 ∃ x111 : Int, w60.cell? ⟨b2, 1, none⟩ = some (.int .i64 x111) ∧
 (CallV pg bl do_2 [(.int .i64 x110), (.int .i64 x111)] w60 (fun ch w => R (.panicked ch) w) fun v112 w113 =>
 ∃ y114 : Int, ∃ y115 : Int, v112 = (.tuple #[(.int .i64 y114), (.int .i64 y115)]) ∧
 (cond (y115 != (0 : Int))
 ((St w113 ⟨b4, 0, none⟩ (.int .i64 (0 : Int)) fun w116 =>
 (St w116 ⟨b4, 1, none⟩ (.int .i64 (0 : Int)) fun w117 =>
 (St w117 ⟨b4, 2, none⟩ (.string (⟨#[]⟩ : ByteArray)) fun w118 =>
 (St w118 ⟨b4, 3, none⟩ (.slice none 0 0) fun w119 =>
 (St w119 ⟨b4, 4, none⟩ (.slice none 0 0) fun w120 =>
 (St w120 ⟨b4, 5, none⟩ (.slice none 0 0) fun w121 =>
 ∃ x122 : Int, w121.cell? ⟨b4, 0, none⟩ = some (.int .i64 x122) ∧
 ∃ x123 : Int, w121.cell? ⟨b4, 1, none⟩ = some (.int .i64 x123) ∧
 ∃ x124 : ByteArray, w121.cell? ⟨b4, 2, none⟩ = some (.string x124) ∧
 ∃ (x125 : Option Addr) (l126 c127 : Nat), w121.cell? ⟨b4, 3, none⟩ = some (.slice x125 l126 c127) ∧
 ∃ (x128 : Option Addr) (l129 c130 : Nat), w121.cell? ⟨b4, 4, none⟩ = some (.slice x128 l129 c130) ∧
 ∃ (x131 : Option Addr) (l132 c133 : Nat), w121.cell? ⟨b4, 5, none⟩ = some (.slice x131 l132 c133) ∧
 R (.returned (.tuple #[(.agg #[(.int .i64 x122), (.int .i64 x123), (.string x124), (.slice x125 l126 c127), (.slice x128 l129 c130), (.slice x131 l132 c133)]), (.int .i64 y115)])) w121)))))))
 ((CallR pg f_num_Of [(.int .i64 y114)] w113 (fun ch w => R (.panicked ch) w) fun v134 w135 =>
 ∃ y136 : Int, ∃ y137 : Int, ∃ y138 : ByteArray, ∃ (y139 : Option Addr) (l140 c141 : Nat), ∃ (y142 : Option Addr) (l143 c144 : Nat), ∃ (y145 : Option Addr) (l146 c147 : Nat), v134 = (.agg #[(.int .i64 y136), (.int .i64 y137), (.string y138), (.slice y139 l140 c141), (.slice y142 l143 c144), (.slice y145 l146 c147)]) ∧
 (New w135 (.cells #[(.int .i64 (0 : Int)), (.int .i64 (0 : Int)), (.string (⟨#[]⟩ : ByteArray)), (.slice none 0 0), (.slice none 0 0), (.slice none 0 0)] t_api_Value (0, 0)) fun b148 w149 =>
 (St w149 ⟨b148, 0, none⟩ (.int .i64 y136) fun w150 =>
 (St w150 ⟨b148, 1, none⟩ (.int .i64 y137) fun w151 =>
 (St w151 ⟨b148, 2, none⟩ (.string y138) fun w152 =>
 (St w152 ⟨b148, 3, none⟩ (.slice y139 l140 c141) fun w153 =>
 (St w153 ⟨b148, 4, none⟩ (.slice y142 l143 c144) fun w154 =>
 (St w154 ⟨b148, 5, none⟩ (.slice y145 l146 c147) fun w155 =>
 (Meet (σ := Unit) (fun J156 =>
 (Meet (σ := Bool) (fun J159 =>
 ∃ x162 : Int, w155.cell? ⟨b0, 0, none⟩ = some (.int .i64 x162) ∧
 (cond (x162 == (4 : Int))
 (J159 true w155)
 (∃ x163 : Int, w155.cell? ⟨b2, 0, none⟩ = some (.int .i64 x163) ∧
 J159 (x163 == (4 : Int)) w155)))
 (fun s160 w161 =>
 ∀ j164 : Nat → Value, (cond s160
 ((St w161 ⟨b148, 0, none⟩ (.int .i64 (4 : Int)) fun w165 =>
 J156 () w165))
 (J156 () w161)))))
 (fun s157 w158 =>
 ∀ j166 : Nat → Value, ∃ x167 : Int, w158.cell? ⟨b148, 0, none⟩ = some (.int .i64 x167) ∧
 ∃ x168 : Int, w158.cell? ⟨b148, 1, none⟩ = some (.int .i64 x168) ∧
 ∃ x169 : ByteArray, w158.cell? ⟨b148, 2, none⟩ = some (.string x169) ∧
 ∃ (x170 : Option Addr) (l171 c172 : Nat), w158.cell? ⟨b148, 3, none⟩ = some (.slice x170 l171 c172) ∧
 ∃ (x173 : Option Addr) (l174 c175 : Nat), w158.cell? ⟨b148, 4, none⟩ = some (.slice x173 l174 c175) ∧
 ∃ (x176 : Option Addr) (l177 c178 : Nat), w158.cell? ⟨b148, 5, none⟩ = some (.slice x176 l177 c178) ∧
 (St w158 ⟨b4, 0, none⟩ (.int .i64 x167) fun w179 =>
 (St w179 ⟨b4, 1, none⟩ (.int .i64 x168) fun w180 =>
 (St w180 ⟨b4, 2, none⟩ (.string x169) fun w181 =>
 (St w181 ⟨b4, 3, none⟩ (.slice x170 l171 c172) fun w182 =>
 (St w182 ⟨b4, 4, none⟩ (.slice x173 l174 c175) fun w183 =>
 (St w183 ⟨b4, 5, none⟩ (.slice x176 l177 c178) fun w184 =>
 ∃ x185 : Int, w184.cell? ⟨b4, 0, none⟩ = some (.int .i64 x185) ∧
 ∃ x186 : Int, w184.cell? ⟨b4, 1, none⟩ = some (.int .i64 x186) ∧
 ∃ x187 : ByteArray, w184.cell? ⟨b4, 2, none⟩ = some (.string x187) ∧
 ∃ (x188 : Option Addr) (l189 c190 : Nat), w184.cell? ⟨b4, 3, none⟩ = some (.slice x188 l189 c190) ∧
 ∃ (x191 : Option Addr) (l192 c193 : Nat), w184.cell? ⟨b4, 4, none⟩ = some (.slice x191 l192 c193) ∧
 ∃ (x194 : Option Addr) (l195 c196 : Nat), w184.cell? ⟨b4, 5, none⟩ = some (.slice x194 l195 c196) ∧
 R (.returned (.tuple #[(.agg #[(.int .i64 x185), (.int .i64 x186), (.string x187), (.slice x188 l189 c190), (.slice x191 l192 c193), (.slice x194 l195 c196)]), (.int .i64 (0 : Int))])) w184))))))))))))))))))))))))))))))
theorem e_num_reckoned (a_0x0 : Int) (a_0x1 : Int) (a_0x2 : ByteArray) (a_0x3 : Option Addr) (a_0x3l a_0x3c : Nat) (a_0x4 : Option Addr) (a_0x4l a_0x4c : Nat) (a_0x5 : Option Addr) (a_0x5l a_0x5c : Nat) (b_1x0 : Int) (b_1x1 : Int) (b_1x2 : ByteArray) (b_1x3 : Option Addr) (b_1x3l b_1x3c : Nat) (b_1x4 : Option Addr) (b_1x4l b_1x4c : Nat) (b_1x5 : Option Addr) (b_1x5l b_1x5c : Nat) (do_2 : Value) (w : World) (R : Ending → World → Prop) : funcX pg T bl Tryd.f43 [(.agg #[(.int .i64 a_0x0), (.int .i64 a_0x1), (.string a_0x2), (.slice a_0x3 a_0x3l a_0x3c), (.slice a_0x4 a_0x4l a_0x4c), (.slice a_0x5 a_0x5l a_0x5c)]), (.agg #[(.int .i64 b_1x0), (.int .i64 b_1x1), (.string b_1x2), (.slice b_1x3 b_1x3l b_1x3c), (.slice b_1x4 b_1x4l b_1x4c), (.slice b_1x5 b_1x5l b_1x5c)]), do_2] w R = c_num_reckoned a_0x0  a_0x1  a_0x2  a_0x3 a_0x3l a_0x3c  a_0x4 a_0x4l a_0x4c  a_0x5 a_0x5l a_0x5c  b_1x0  b_1x1  b_1x2  b_1x3 b_1x3l b_1x3c  b_1x4 b_1x4l b_1x4c  b_1x5 b_1x5l b_1x5c  do_2  w R := by kernel_rfl
theorem of_num_reckoned (a_0x0 : Int) (a_0x1 : Int) (a_0x2 : ByteArray) (a_0x3 : Option Addr) (a_0x3l a_0x3c : Nat) (a_0x4 : Option Addr) (a_0x4l a_0x4c : Nat) (a_0x5 : Option Addr) (a_0x5l a_0x5c : Nat) (b_1x0 : Int) (b_1x1 : Int) (b_1x2 : ByteArray) (b_1x3 : Option Addr) (b_1x3l b_1x3c : Nat) (b_1x4 : Option Addr) (b_1x4l b_1x4c : Nat) (b_1x5 : Option Addr) (b_1x5l b_1x5c : Nat) (do_2 : Value) {w : World} {R : Ending → World → Prop} (h : c_num_reckoned a_0x0  a_0x1  a_0x2  a_0x3 a_0x3l a_0x3c  a_0x4 a_0x4l a_0x4c  a_0x5 a_0x5l a_0x5c  b_1x0  b_1x1  b_1x2  b_1x3 b_1x3l b_1x3c  b_1x4 b_1x4l b_1x4c  b_1x5 b_1x5l b_1x5c  do_2  w R) : Calls pg f_num_reckoned #[(.agg #[(.int .i64 a_0x0), (.int .i64 a_0x1), (.string a_0x2), (.slice a_0x3 a_0x3l a_0x3c), (.slice a_0x4 a_0x4l a_0x4c), (.slice a_0x5 a_0x5l a_0x5c)]), (.agg #[(.int .i64 b_1x0), (.int .i64 b_1x1), (.string b_1x2), (.slice b_1x3 b_1x3l b_1x3c), (.slice b_1x4 b_1x4l b_1x4c), (.slice b_1x5 b_1x5l b_1x5c)]), do_2] w R :=
  funcX_of mixed tok blok Tryd.func43 (args := [(.agg #[(.int .i64 a_0x0), (.int .i64 a_0x1), (.string a_0x2), (.slice a_0x3 a_0x3l a_0x3c), (.slice a_0x4 a_0x4l a_0x4c), (.slice a_0x5 a_0x5l a_0x5c)]), (.agg #[(.int .i64 b_1x0), (.int .i64 b_1x1), (.string b_1x2), (.slice b_1x3 b_1x3l b_1x3c), (.slice b_1x4 b_1x4l b_1x4c), (.slice b_1x5 b_1x5l b_1x5c)]), do_2]) (e_num_reckoned a_0x0  a_0x1  a_0x2  a_0x3 a_0x3l a_0x3c  a_0x4 a_0x4l a_0x4c  a_0x5 a_0x5l a_0x5c  b_1x0  b_1x1  b_1x2  b_1x3 b_1x3l b_1x3c  b_1x4 b_1x4l b_1x4c  b_1x5 b_1x5l b_1x5c  do_2  w R) h
/-- aqueduct/num.add -/
def c_num_add (x_0 : Int) (y_1 : Int) (w : World) (R : Ending → World → Prop) : Prop :=
 (CallR pg f_num_within [(.int .i64 (IntKind.i64.wrap (x_0 + y_1))), (.bool ((decide ((IntKind.i64.wrap (x_0 + y_1)) > x_0)) == (decide (y_1 > (0 : Int)))))] w (fun ch w => R (.panicked ch) w) fun v0 w1 =>
 ∃ y2 : Int, ∃ y3 : Int, v0 = (.tuple #[(.int .i64 y2), (.int .i64 y3)]) ∧
 R (.returned (.tuple #[(.int .i64 y2), (.int .i64 y3)])) w1)
theorem e_num_add (x_0 : Int) (y_1 : Int) (w : World) (R : Ending → World → Prop) : funcX pg T bl Tryd.f44 [(.int .i64 x_0), (.int .i64 y_1)] w R = c_num_add x_0  y_1  w R := by kernel_rfl
theorem of_num_add (x_0 : Int) (y_1 : Int) {w : World} {R : Ending → World → Prop} (h : c_num_add x_0  y_1  w R) : Calls pg f_num_add #[(.int .i64 x_0), (.int .i64 y_1)] w R :=
  funcX_of mixed tok blok Tryd.func44 (args := [(.int .i64 x_0), (.int .i64 y_1)]) (e_num_add x_0  y_1  w R) h
/-- aqueduct/bson.tried -/
def c_bson_tried (f_0 : Value) (w : World) (R : Ending → World → Prop) : Prop :=
 (New w (.cells #[(.int .i64 (0 : Int))] t_api_Errno (0, 0)) fun b0 w1 =>
 False)
theorem e_bson_tried (f_0 : Value) (w : World) (R : Ending → World → Prop) : funcX pg T bl Tryd.f47 [f_0] w R = c_bson_tried f_0  w R := by kernel_rfl
theorem of_bson_tried (f_0 : Value) {w : World} {R : Ending → World → Prop} (h : c_bson_tried f_0  w R) : Calls pg f_bson_tried #[f_0] w R :=
  funcX_of mixed tok blok Tryd.func47 (args := [f_0]) (e_bson_tried f_0  w R) h
/-- aqueduct/bson.Size$1 -/
def c_bson_Size_1 (p_0 : Option Addr) (p_1 : Option Addr) (w : World) (R : Ending → World → Prop) : Prop :=
 (withSome p_0 fun (a0 : Addr) =>
 ∃ x1 : Option Addr, w.cell? a0 = some (.pointer x1) ∧
 (withSome p_1 fun (a2 : Addr) =>
 ∃ (x3 : Option Addr) (l4 c5 : Nat), w.cell? (a2.add 4) = some (.slice x3 l4 c5) ∧
 (CallR pg f_Pbson_weigher_fields [(.pointer x1), (.slice x3 l4 c5), (.int .i64 (1 : Int))] w (fun ch w => R (.panicked ch) w) fun v6 w7 =>
 v6 = (.tuple #[]) ∧
 R (.returned (.tuple #[])) w7)))
theorem e_bson_Size_1 (p_0 : Option Addr) (p_1 : Option Addr) (w : World) (R : Ending → World → Prop) : funcX pg T bl Tryd.f48 [(.pointer p_0), (.pointer p_1)] w R = c_bson_Size_1 p_0  p_1  w R := by kernel_rfl
theorem of_bson_Size_1 (p_0 : Option Addr) (p_1 : Option Addr) {w : World} {R : Ending → World → Prop} (h : c_bson_Size_1 p_0  p_1  w R) : Calls pg f_bson_Size_1 #[(.pointer p_0), (.pointer p_1)] w R :=
  funcX_of mixed tok blok Tryd.func48 (args := [(.pointer p_0), (.pointer p_1)]) (e_bson_Size_1 p_0  p_1  w R) h
/-- aqueduct/order.way -/
def c_order_way (kind_0 : Int) (w : World) (R : Ending → World → Prop) : Prop :=
 (Meet (σ := Bool) (fun J0 =>
 (cond (kind_0 == (3 : Int))
 (J0 true w)
 ((cond (kind_0 == (4 : Int))
 (J0 true w)
 ((cond (kind_0 == (10 : Int))
 (J0 true w)
 (J0 (kind_0 == (11 : Int)) w)))))))
 (fun s1 w2 =>
 ∀ j3 : Nat → Value, (cond s1
 (R (.returned (.func (.func f_order_way_1) #[] #[])) w2)
 ((cond (kind_0 == (5 : Int))
 (R (.returned (.func (.func f_order_way_2) #[] #[])) w2)
 ((cond (kind_0 == (6 : Int))
 (R (.returned (.func (.func f_order_way_3) #[] #[])) w2)
 ((cond (kind_0 == (7 : Int))
 (R (.returned (.func (.func f_order_way_4) #[] #[])) w2)
 ((cond (kind_0 == (8 : Int))
 (R (.returned (.func (.func f_order_way_5) #[] #[])) w2)
 ((cond (kind_0 == (9 : Int))
 (R (.returned (.func (.func f_order_way_6) #[] #[])) w2)
 (R (.returned (.func (.func f_order_way_7) #[] #[])) w2))))))))))))))
theorem e_order_way (kind_0 : Int) (w : World) (R : Ending → World → Prop) : funcX pg T bl Tryd.f52 [(.int .i64 kind_0)] w R = c_order_way kind_0  w R := by kernel_rfl
theorem of_order_way (kind_0 : Int) {w : World} {R : Ending → World → Prop} (h : c_order_way kind_0  w R) : Calls pg f_order_way #[(.int .i64 kind_0)] w R :=
  funcX_of mixed tok blok Tryd.func52 (args := [(.int .i64 kind_0)]) (e_order_way kind_0  w R) h
/-- aqueduct/aqueductref5.NameMay -/
def c_aqueductref5_NameMay (s_0 : ByteArray) (w : World) (R : Ending → World → Prop) : Prop :=
 (Eng.Loop (σ := Bool × Int) (fun X0 s1 w2 =>
 ∀ j3 : Nat → Value, (cond (decide (s1.2 < ((s_0.size : Nat) : Int)))
 ((0 ≤ s1.2 ∧ s1.2 < ((s_0.size : Nat) : Int)) ∧
 (cond ((byteAt s_0 (s1.2).toNat : Nat) == (0 : Int))
 (R (.returned (.bool false)) w2)
 (X0 (s1.1, (IntKind.i64.wrap (s1.2 + (1 : Int)))) w2)))
 ((Meet (σ := Bool) (fun J4 =>
 (cond (decide (((s_0.size : Nat) : Int) ≤ (120 : Int)))
 ((CallR pg f_aqueductref5_Utf8 [(.string s_0)] w2 (fun ch w => R (.panicked ch) w) fun v7 w8 =>
 ∃ y9 : Bool, v7 = (.bool y9) ∧
 J4 y9 w8))
 (J4 false w2)))
 (fun s5 w6 =>
 ∀ j10 : Nat → Value, R (.returned (.bool s5)) w6))))) (false, (0 : Int)) w)
theorem e_aqueductref5_NameMay (s_0 : ByteArray) (w : World) (R : Ending → World → Prop) : funcX pg T bl Tryd.f53 [(.string s_0)] w R = c_aqueductref5_NameMay s_0  w R := by kernel_rfl
theorem of_aqueductref5_NameMay (s_0 : ByteArray) {w : World} {R : Ending → World → Prop} (h : c_aqueductref5_NameMay s_0  w R) : Calls pg f_aqueductref5_NameMay #[(.string s_0)] w R :=
  funcX_of mixed tok blok Tryd.func53 (args := [(.string s_0)]) (e_aqueductref5_NameMay s_0  w R) h
/-- aqueduct/aqueductref5.code -/
def c_aqueductref5_code (kind_0 : Int) (w : World) (R : Ending → World → Prop) : Prop :=
 (cond (kind_0 == (1 : Int))
 (R (.returned (.int .u8 (255 : Int))) w)
 ((cond (kind_0 == (2 : Int))
 (R (.returned (.int .u8 (10 : Int))) w)
 ((cond (kind_0 == (3 : Int))
 (R (.returned (.int .u8 (16 : Int))) w)
 ((cond (kind_0 == (4 : Int))
 (R (.returned (.int .u8 (18 : Int))) w)
 ((cond (kind_0 == (5 : Int))
 (R (.returned (.int .u8 (2 : Int))) w)
 ((cond (kind_0 == (6 : Int))
 (R (.returned (.int .u8 (3 : Int))) w)
 ((cond (kind_0 == (7 : Int))
 (R (.returned (.int .u8 (4 : Int))) w)
 ((cond (kind_0 == (8 : Int))
 (R (.returned (.int .u8 (5 : Int))) w)
 ((cond (kind_0 == (9 : Int))
 (R (.returned (.int .u8 (7 : Int))) w)
 ((cond (kind_0 == (10 : Int))
 (R (.returned (.int .u8 (8 : Int))) w)
 ((cond (kind_0 == (11 : Int))
 (R (.returned (.int .u8 (9 : Int))) w)
 ((cond (kind_0 == (12 : Int))
 (R (.returned (.int .u8 (127 : Int))) w)
 (R (.returned (.int .u8 (0 : Int))) w))))))))))))))))))))))))
theorem e_aqueductref5_code (kind_0 : Int) (w : World) (R : Ending → World → Prop) : funcX pg T bl Tryd.f54 [(.int .i64 kind_0)] w R = c_aqueductref5_code kind_0  w R := by kernel_rfl
theorem of_aqueductref5_code (kind_0 : Int) {w : World} {R : Ending → World → Prop} (h : c_aqueductref5_code kind_0  w R) : Calls pg f_aqueductref5_code #[(.int .i64 kind_0)] w R :=
  funcX_of mixed tok blok Tryd.func54 (args := [(.int .i64 kind_0)]) (e_aqueductref5_code kind_0  w R) h
/-- (*aqueduct/bson.weigher).value -/
def c_Pbson_weigher_value (w_0 : Option Addr) (v_1x0 : Int) (v_1x1 : Int) (v_1x2 : ByteArray) (v_1x3 : Option Addr) (v_1x3l v_1x3c : Nat) (v_1x4 : Option Addr) (v_1x4l v_1x4c : Nat) (v_1x5 : Option Addr) (v_1x5l v_1x5c : Nat) (deep_2 : Int) (w : World) (R : Ending → World → Prop) : Prop :=
 (New w (.cells #[(.int .i64 v_1x0), (.int .i64 v_1x1), (.string v_1x2), (.slice v_1x3 v_1x3l v_1x3c), (.slice v_1x4 v_1x4l v_1x4c), (.slice v_1x5 v_1x5l v_1x5c)] t_api_Value (0, 0)) fun b0 w1 =>
 (Meet (σ := Unit) (fun J2 =>
 ∃ x5 : Int, w1.cell? ⟨b0, 0, none⟩ = some (.int .i64 x5) ∧
 (CallR pg f_bson_code [(.int .i64 x5)] w1 (fun ch w => R (.panicked ch) w) fun v6 w7 =>
 ∃ y8 : Int, v6 = (.int .u8 y8) ∧
 (cond (y8 != (0 : Int))
 (∃ x9 : Int, w7.cell? ⟨b0, 0, none⟩ = some (.int .i64 x9) ∧
 ∃ x10 : Int, w7.cell? ⟨b0, 1, none⟩ = some (.int .i64 x10) ∧
 ∃ x11 : ByteArray, w7.cell? ⟨b0, 2, none⟩ = some (.string x11) ∧
 ∃ (x12 : Option Addr) (l13 c14 : Nat), w7.cell? ⟨b0, 3, none⟩ = some (.slice x12 l13 c14) ∧
 ∃ (x15 : Option Addr) (l16 c17 : Nat), w7.cell? ⟨b0, 4, none⟩ = some (.slice x15 l16 c17) ∧
 ∃ (x18 : Option Addr) (l19 c20 : Nat), w7.cell? ⟨b0, 5, none⟩ = some (.slice x18 l19 c20) ∧
 (CallR pg f_bson_plain [(.agg #[(.int .i64 x9), (.int .i64 x10), (.string x11), (.slice x12 l13 c14), (.slice x15 l16 c17), (.slice x18 l19 c20)])] w7 (fun ch w => R (.panicked ch) w) fun v21 w22 =>
 ∃ y23 : Bool, v21 = (.bool y23) ∧
 (CallR pg f_bson_must [(.bool y23), (.int .i64 (1 : Int))] w22 (fun ch w => R (.panicked ch) w) fun v24 w25 =>
 v24 = (.tuple #[]) ∧
 J2 () w25)))
 ((CallR pg f_bson_must [(.bool false), (.int .i64 (1 : Int))] w7 (fun ch w => R (.panicked ch) w) fun v26 w27 =>
 v26 = (.tuple #[]) ∧
 J2 () w27)))))
 (fun s3 w4 =>
 ∀ j28 : Nat → Value, ∃ x29 : Int, w4.cell? ⟨b0, 0, none⟩ = some (.int .i64 x29) ∧
 (cond (x29 == (3 : Int))
 (∃ x30 : Int, w4.cell? ⟨b0, 1, none⟩ = some (.int .i64 x30) ∧
 ∃ x31 : Int, w4.cell? ⟨b0, 1, none⟩ = some (.int .i64 x31) ∧
 (CallR pg f_bson_must [(.bool (x30 == (IntKind.i64.wrap (IntKind.i32.wrap x31)))), (.int .i64 (1 : Int))] w4 (fun ch w => R (.panicked ch) w) fun v32 w33 =>
 v32 = (.tuple #[]) ∧
 (CallR pg f_Pbson_weigher_add [(.pointer w_0), (.int .i64 (4 : Int))] w33 (fun ch w => R (.panicked ch) w) fun v34 w35 =>
 v34 = (.tuple #[]) ∧
 R (.returned (.tuple #[])) w35)))
 ((Meet (σ := Bool) (fun J36 =>
 (cond (x29 == (4 : Int))
 (J36 true w4)
 (J36 (x29 == (11 : Int)) w4)))
 (fun s37 w38 =>
 ∀ j39 : Nat → Value, (cond s37
 ((CallR pg f_Pbson_weigher_add [(.pointer w_0), (.int .i64 (8 : Int))] w38 (fun ch w => R (.panicked ch) w) fun v40 w41 =>
 v40 = (.tuple #[]) ∧
 R (.returned (.tuple #[])) w41))
 ((cond (x29 == (10 : Int))
 ((Meet (σ := Unit) (fun J42 =>
 ∃ x45 : Int, w38.cell? ⟨b0, 1, none⟩ = some (.int .i64 x45) ∧
 (cond (x45 == (0 : Int))
 ((CallR pg f_bson_must [(.bool true), (.int .i64 (1 : Int))] w38 (fun ch w => R (.panicked ch) w) fun v46 w47 =>
 v46 = (.tuple #[]) ∧
 J42 () w47))
 (∃ x48 : Int, w38.cell? ⟨b0, 1, none⟩ = some (.int .i64 x48) ∧
 (CallR pg f_bson_must [(.bool (x48 == (1 : Int))), (.int .i64 (1 : Int))] w38 (fun ch w => R (.panicked ch) w) fun v49 w50 =>
 v49 = (.tuple #[]) ∧
 J42 () w50))))
 (fun s43 w44 =>
 ∀ j51 : Nat → Value, (CallR pg f_Pbson_weigher_add [(.pointer w_0), (.int .i64 (1 : Int))] w44 (fun ch w => R (.panicked ch) w) fun v52 w53 =>
 v52 = (.tuple #[]) ∧
 R (.returned (.tuple #[])) w53))))
 ((cond (x29 == (5 : Int))
 (∃ x54 : ByteArray, w38.cell? ⟨b0, 2, none⟩ = some (.string x54) ∧
 (CallR pg f_unicode_utf8_ValidString [(.string x54)] w38 (fun ch w => R (.panicked ch) w) fun v55 w56 =>
 ∃ y57 : Bool, v55 = (.bool y57) ∧
 (CallR pg f_bson_must [(.bool y57), (.int .i64 (1 : Int))] w56 (fun ch w => R (.panicked ch) w) fun v58 w59 =>
 v58 = (.tuple #[]) ∧
 ∃ x60 : ByteArray, w59.cell? ⟨b0, 2, none⟩ = some (.string x60) ∧
 (CallR pg f_Pbson_weigher_add [(.pointer w_0), (.int .i64 (IntKind.i64.wrap ((5 : Int) + (if (65536 : Int) < ((x60.size : Nat) : Int) then (65536 : Int) else ((x60.size : Nat) : Int)))))] w59 (fun ch w => R (.panicked ch) w) fun v61 w62 =>
 v61 = (.tuple #[]) ∧
 R (.returned (.tuple #[])) w62))))
 ((cond (x29 == (6 : Int))
 (∃ (x63 : Option Addr) (l64 c65 : Nat), w38.cell? ⟨b0, 4, none⟩ = some (.slice x63 l64 c65) ∧
 (CallR pg f_Pbson_weigher_fields [(.pointer w_0), (.slice x63 l64 c65), (.int .i64 (IntKind.i64.wrap (deep_2 + (1 : Int))))] w38 (fun ch w => R (.panicked ch) w) fun v66 w67 =>
 v66 = (.tuple #[]) ∧
 R (.returned (.tuple #[])) w67))
 ((cond (x29 == (7 : Int))
 (∃ (x68 : Option Addr) (l69 c70 : Nat), w38.cell? ⟨b0, 5, none⟩ = some (.slice x68 l69 c70) ∧
 (CallR pg f_bson_must [(.bool (decide (((l69 : Nat) : Int) ≤ (65536 : Int)))), (.int .i64 (1 : Int))] w38 (fun ch w => R (.panicked ch) w) fun v71 w72 =>
 v71 = (.tuple #[]) ∧
 ∃ (x73 : Option Addr) (l74 c75 : Nat), w72.cell? ⟨b0, 5, none⟩ = some (.slice x73 l74 c75) ∧
 (CallR pg f_bson_named [(.slice x73 l74 c75)] w72 (fun ch w => R (.panicked ch) w) fun v76 w77 =>
 ∃ (y78 : Option Addr) (l79 c80 : Nat), v76 = (.slice y78 l79 c80) ∧
 (CallR pg f_Pbson_weigher_fields [(.pointer w_0), (.slice y78 l79 c80), (.int .i64 (IntKind.i64.wrap (deep_2 + (1 : Int))))] w77 (fun ch w => R (.panicked ch) w) fun v81 w82 =>
 v81 = (.tuple #[]) ∧
 R (.returned (.tuple #[])) w82))))
 ((cond (x29 == (8 : Int))
 (∃ (x83 : Option Addr) (l84 c85 : Nat), w38.cell? ⟨b0, 3, none⟩ = some (.slice x83 l84 c85) ∧
 (CallR pg f_Pbson_weigher_add [(.pointer w_0), (.int .i64 (IntKind.i64.wrap ((5 : Int) + (if (65536 : Int) < ((l84 : Nat) : Int) then (65536 : Int) else ((l84 : Nat) : Int)))))] w38 (fun ch w => R (.panicked ch) w) fun v86 w87 =>
 v86 = (.tuple #[]) ∧
 R (.returned (.tuple #[])) w87))
 ((cond (x29 == (9 : Int))
 (∃ (x88 : Option Addr) (l89 c90 : Nat), w38.cell? ⟨b0, 3, none⟩ = some (.slice x88 l89 c90) ∧
 (CallR pg f_bson_must [(.bool (((l89 : Nat) : Int) == (12 : Int))), (.int .i64 (1 : Int))] w38 (fun ch w => R (.panicked ch) w) fun v91 w92 =>
 v91 = (.tuple #[]) ∧
 (CallR pg f_Pbson_weigher_add [(.pointer w_0), (.int .i64 (12 : Int))] w92 (fun ch w => R (.panicked ch) w) fun v93 w94 =>
 v93 = (.tuple #[]) ∧
 R (.returned (.tuple #[])) w94)))
 (R (.returned (.tuple #[])) w38)))))))))))))))))))))
theorem e_Pbson_weigher_value (w_0 : Option Addr) (v_1x0 : Int) (v_1x1 : Int) (v_1x2 : ByteArray) (v_1x3 : Option Addr) (v_1x3l v_1x3c : Nat) (v_1x4 : Option Addr) (v_1x4l v_1x4c : Nat) (v_1x5 : Option Addr) (v_1x5l v_1x5c : Nat) (deep_2 : Int) (w : World) (R : Ending → World → Prop) : funcX pg T bl Tryd.f64 [(.pointer w_0), (.agg #[(.int .i64 v_1x0), (.int .i64 v_1x1), (.string v_1x2), (.slice v_1x3 v_1x3l v_1x3c), (.slice v_1x4 v_1x4l v_1x4c), (.slice v_1x5 v_1x5l v_1x5c)]), (.int .i64 deep_2)] w R = c_Pbson_weigher_value w_0  v_1x0  v_1x1  v_1x2  v_1x3 v_1x3l v_1x3c  v_1x4 v_1x4l v_1x4c  v_1x5 v_1x5l v_1x5c  deep_2  w R := by kernel_rfl
theorem of_Pbson_weigher_value (w_0 : Option Addr) (v_1x0 : Int) (v_1x1 : Int) (v_1x2 : ByteArray) (v_1x3 : Option Addr) (v_1x3l v_1x3c : Nat) (v_1x4 : Option Addr) (v_1x4l v_1x4c : Nat) (v_1x5 : Option Addr) (v_1x5l v_1x5c : Nat) (deep_2 : Int) {w : World} {R : Ending → World → Prop} (h : c_Pbson_weigher_value w_0  v_1x0  v_1x1  v_1x2  v_1x3 v_1x3l v_1x3c  v_1x4 v_1x4l v_1x4c  v_1x5 v_1x5l v_1x5c  deep_2  w R) : Calls pg f_Pbson_weigher_value #[(.pointer w_0), (.agg #[(.int .i64 v_1x0), (.int .i64 v_1x1), (.string v_1x2), (.slice v_1x3 v_1x3l v_1x3c), (.slice v_1x4 v_1x4l v_1x4c), (.slice v_1x5 v_1x5l v_1x5c)]), (.int .i64 deep_2)] w R :=
  funcX_of mixed tok blok Tryd.func64 (args := [(.pointer w_0), (.agg #[(.int .i64 v_1x0), (.int .i64 v_1x1), (.string v_1x2), (.slice v_1x3 v_1x3l v_1x3c), (.slice v_1x4 v_1x4l v_1x4c), (.slice v_1x5 v_1x5l v_1x5c)]), (.int .i64 deep_2)]) (e_Pbson_weigher_value w_0  v_1x0  v_1x1  v_1x2  v_1x3 v_1x3l v_1x3c  v_1x4 v_1x4l v_1x4c  v_1x5 v_1x5l v_1x5c  deep_2  w R) h
/-- aqueduct/order.way$2 -/
def c_order_way_2 (a_0x0 : Int) (a_0x1 : Int) (a_0x2 : ByteArray) (a_0x3 : Option Addr) (a_0x3l a_0x3c : Nat) (a_0x4 : Option Addr) (a_0x4l a_0x4c : Nat) (a_0x5 : Option Addr) (a_0x5l a_0x5c : Nat) (b_1x0 : Int) (b_1x1 : Int) (b_1x2 : ByteArray) (b_1x3 : Option Addr) (b_1x3l b_1x3c : Nat) (b_1x4 : Option Addr) (b_1x4l b_1x4c : Nat) (b_1x5 : Option Addr) (b_1x5l b_1x5c : Nat) (w : World) (R : Ending → World → Prop) : Prop :=
 (New w (.cells #[(.int .i64 a_0x0), (.int .i64 a_0x1), (.string a_0x2), (.slice a_0x3 a_0x3l a_0x3c), (.slice a_0x4 a_0x4l a_0x4c), (.slice a_0x5 a_0x5l a_0x5c)] t_api_Value (0, 0)) fun b0 w1 =>
 (New w1 (.cells #[(.int .i64 b_1x0), (.int .i64 b_1x1), (.string b_1x2), (.slice b_1x3 b_1x3l b_1x3c), (.slice b_1x4 b_1x4l b_1x4c), (.slice b_1x5 b_1x5l b_1x5c)] t_api_Value (0, 0)) fun b2 w3 =>
 ∃ x4 : ByteArray, w3.cell? ⟨b0, 2, none⟩ = some (.string x4) ∧
 ∃ x5 : ByteArray, w3.cell? ⟨b2, 2, none⟩ = some (.string x5) ∧
 (CallR pg f_cmp_Compare_string [(.string x4), (.string x5)] w3 (fun ch w => R (.panicked ch) w) fun v6 w7 =>
 ∃ y8 : Int, v6 = (.int .i64 y8) ∧
 R (.returned (.int .i64 y8)) w7)))
theorem e_order_way_2 (a_0x0 : Int) (a_0x1 : Int) (a_0x2 : ByteArray) (a_0x3 : Option Addr) (a_0x3l a_0x3c : Nat) (a_0x4 : Option Addr) (a_0x4l a_0x4c : Nat) (a_0x5 : Option Addr) (a_0x5l a_0x5c : Nat) (b_1x0 : Int) (b_1x1 : Int) (b_1x2 : ByteArray) (b_1x3 : Option Addr) (b_1x3l b_1x3c : Nat) (b_1x4 : Option Addr) (b_1x4l b_1x4c : Nat) (b_1x5 : Option Addr) (b_1x5l b_1x5c : Nat) (w : World) (R : Ending → World → Prop) : funcX pg T bl Tryd.f68 [(.agg #[(.int .i64 a_0x0), (.int .i64 a_0x1), (.string a_0x2), (.slice a_0x3 a_0x3l a_0x3c), (.slice a_0x4 a_0x4l a_0x4c), (.slice a_0x5 a_0x5l a_0x5c)]), (.agg #[(.int .i64 b_1x0), (.int .i64 b_1x1), (.string b_1x2), (.slice b_1x3 b_1x3l b_1x3c), (.slice b_1x4 b_1x4l b_1x4c), (.slice b_1x5 b_1x5l b_1x5c)])] w R = c_order_way_2 a_0x0  a_0x1  a_0x2  a_0x3 a_0x3l a_0x3c  a_0x4 a_0x4l a_0x4c  a_0x5 a_0x5l a_0x5c  b_1x0  b_1x1  b_1x2  b_1x3 b_1x3l b_1x3c  b_1x4 b_1x4l b_1x4c  b_1x5 b_1x5l b_1x5c  w R := by kernel_rfl
theorem of_order_way_2 (a_0x0 : Int) (a_0x1 : Int) (a_0x2 : ByteArray) (a_0x3 : Option Addr) (a_0x3l a_0x3c : Nat) (a_0x4 : Option Addr) (a_0x4l a_0x4c : Nat) (a_0x5 : Option Addr) (a_0x5l a_0x5c : Nat) (b_1x0 : Int) (b_1x1 : Int) (b_1x2 : ByteArray) (b_1x3 : Option Addr) (b_1x3l b_1x3c : Nat) (b_1x4 : Option Addr) (b_1x4l b_1x4c : Nat) (b_1x5 : Option Addr) (b_1x5l b_1x5c : Nat) {w : World} {R : Ending → World → Prop} (h : c_order_way_2 a_0x0  a_0x1  a_0x2  a_0x3 a_0x3l a_0x3c  a_0x4 a_0x4l a_0x4c  a_0x5 a_0x5l a_0x5c  b_1x0  b_1x1  b_1x2  b_1x3 b_1x3l b_1x3c  b_1x4 b_1x4l b_1x4c  b_1x5 b_1x5l b_1x5c  w R) : Calls pg f_order_way_2 #[(.agg #[(.int .i64 a_0x0), (.int .i64 a_0x1), (.string a_0x2), (.slice a_0x3 a_0x3l a_0x3c), (.slice a_0x4 a_0x4l a_0x4c), (.slice a_0x5 a_0x5l a_0x5c)]), (.agg #[(.int .i64 b_1x0), (.int .i64 b_1x1), (.string b_1x2), (.slice b_1x3 b_1x3l b_1x3c), (.slice b_1x4 b_1x4l b_1x4c), (.slice b_1x5 b_1x5l b_1x5c)])] w R :=
  funcX_of mixed tok blok Tryd.func68 (args := [(.agg #[(.int .i64 a_0x0), (.int .i64 a_0x1), (.string a_0x2), (.slice a_0x3 a_0x3l a_0x3c), (.slice a_0x4 a_0x4l a_0x4c), (.slice a_0x5 a_0x5l a_0x5c)]), (.agg #[(.int .i64 b_1x0), (.int .i64 b_1x1), (.string b_1x2), (.slice b_1x3 b_1x3l b_1x3c), (.slice b_1x4 b_1x4l b_1x4c), (.slice b_1x5 b_1x5l b_1x5c)])]) (e_order_way_2 a_0x0  a_0x1  a_0x2  a_0x3 a_0x3l a_0x3c  a_0x4 a_0x4l a_0x4c  a_0x5 a_0x5l a_0x5c  b_1x0  b_1x1  b_1x2  b_1x3 b_1x3l b_1x3c  b_1x4 b_1x4l b_1x4c  b_1x5 b_1x5l b_1x5c  w R) h
/-- cmp.Or[int] -/
def c_cmp_Or_int (vals_0 : Option Addr) (vals_0l vals_0c : Nat) (w : World) (R : Ending → World → Prop) : Prop :=
 (Eng.Loop (σ := Int × Int) (fun X0 s1 w2 =>
 ∀ j3 : Nat → Value, (cond (decide (s1.2 < ((vals_0l : Nat) : Int)))
 ((withSome vals_0 fun (a4 : Addr) =>
 (0 ≤ s1.2 ∧ s1.2 < ((vals_0l : Nat) : Int)) ∧
 ∃ x5 : Int, w2.cell? (a4.add ((s1.2).toNat * 1)) = some (.int .i64 x5) ∧
 (cond (x5 != (0 : Int))
 (R (.returned (.int .i64 x5)) w2)
 (X0 (s1.1, (IntKind.i64.wrap (s1.2 + (1 : Int)))) w2))))
 (R (.returned (.int .i64 (0 : Int))) w2))) ((0 : Int), (0 : Int)) w)
theorem e_cmp_Or_int (vals_0 : Option Addr) (vals_0l vals_0c : Nat) (w : World) (R : Ending → World → Prop) : funcX pg T bl Tryd.f76 [(.slice vals_0 vals_0l vals_0c)] w R = c_cmp_Or_int vals_0 vals_0l vals_0c  w R := by kernel_rfl
theorem of_cmp_Or_int (vals_0 : Option Addr) (vals_0l vals_0c : Nat) {w : World} {R : Ending → World → Prop} (h : c_cmp_Or_int vals_0 vals_0l vals_0c  w R) : Calls pg f_cmp_Or_int #[(.slice vals_0 vals_0l vals_0c)] w R :=
  funcX_of mixed tok blok Tryd.func76 (args := [(.slice vals_0 vals_0l vals_0c)]) (e_cmp_Or_int vals_0 vals_0l vals_0c  w R) h
/-- aqueduct/order.way$6 -/
def c_order_way_6 (a_0x0 : Int) (a_0x1 : Int) (a_0x2 : ByteArray) (a_0x3 : Option Addr) (a_0x3l a_0x3c : Nat) (a_0x4 : Option Addr) (a_0x4l a_0x4c : Nat) (a_0x5 : Option Addr) (a_0x5l a_0x5c : Nat) (b_1x0 : Int) (b_1x1 : Int) (b_1x2 : ByteArray) (b_1x3 : Option Addr) (b_1x3l b_1x3c : Nat) (b_1x4 : Option Addr) (b_1x4l b_1x4c : Nat) (b_1x5 : Option Addr) (b_1x5l b_1x5c : Nat) (w : World) (R : Ending → World → Prop) : Prop :=
 (New w (.cells #[(.int .i64 a_0x0), (.int .i64 a_0x1), (.string a_0x2), (.slice a_0x3 a_0x3l a_0x3c), (.slice a_0x4 a_0x4l a_0x4c), (.slice a_0x5 a_0x5l a_0x5c)] t_api_Value (0, 0)) fun b0 w1 =>
 (New w1 (.cells #[(.int .i64 b_1x0), (.int .i64 b_1x1), (.string b_1x2), (.slice b_1x3 b_1x3l b_1x3c), (.slice b_1x4 b_1x4l b_1x4c), (.slice b_1x5 b_1x5l b_1x5c)] t_api_Value (0, 0)) fun b2 w3 =>
 ∃ (x4 : Option Addr) (l5 c6 : Nat), w3.cell? ⟨b0, 3, none⟩ = some (.slice x4 l5 c6) ∧
 ∃ (x7 : Option Addr) (l8 c9 : Nat), w3.cell? ⟨b2, 3, none⟩ = some (.slice x7 l8 c9) ∧
 (CallR pg f_bytes_Compare [(.slice x4 l5 c6), (.slice x7 l8 c9)] w3 (fun ch w => R (.panicked ch) w) fun v10 w11 =>
 ∃ y12 : Int, v10 = (.int .i64 y12) ∧
 R (.returned (.int .i64 y12)) w11)))
theorem e_order_way_6 (a_0x0 : Int) (a_0x1 : Int) (a_0x2 : ByteArray) (a_0x3 : Option Addr) (a_0x3l a_0x3c : Nat) (a_0x4 : Option Addr) (a_0x4l a_0x4c : Nat) (a_0x5 : Option Addr) (a_0x5l a_0x5c : Nat) (b_1x0 : Int) (b_1x1 : Int) (b_1x2 : ByteArray) (b_1x3 : Option Addr) (b_1x3l b_1x3c : Nat) (b_1x4 : Option Addr) (b_1x4l b_1x4c : Nat) (b_1x5 : Option Addr) (b_1x5l b_1x5c : Nat) (w : World) (R : Ending → World → Prop) : funcX pg T bl Tryd.f78 [(.agg #[(.int .i64 a_0x0), (.int .i64 a_0x1), (.string a_0x2), (.slice a_0x3 a_0x3l a_0x3c), (.slice a_0x4 a_0x4l a_0x4c), (.slice a_0x5 a_0x5l a_0x5c)]), (.agg #[(.int .i64 b_1x0), (.int .i64 b_1x1), (.string b_1x2), (.slice b_1x3 b_1x3l b_1x3c), (.slice b_1x4 b_1x4l b_1x4c), (.slice b_1x5 b_1x5l b_1x5c)])] w R = c_order_way_6 a_0x0  a_0x1  a_0x2  a_0x3 a_0x3l a_0x3c  a_0x4 a_0x4l a_0x4c  a_0x5 a_0x5l a_0x5c  b_1x0  b_1x1  b_1x2  b_1x3 b_1x3l b_1x3c  b_1x4 b_1x4l b_1x4c  b_1x5 b_1x5l b_1x5c  w R := by kernel_rfl
theorem of_order_way_6 (a_0x0 : Int) (a_0x1 : Int) (a_0x2 : ByteArray) (a_0x3 : Option Addr) (a_0x3l a_0x3c : Nat) (a_0x4 : Option Addr) (a_0x4l a_0x4c : Nat) (a_0x5 : Option Addr) (a_0x5l a_0x5c : Nat) (b_1x0 : Int) (b_1x1 : Int) (b_1x2 : ByteArray) (b_1x3 : Option Addr) (b_1x3l b_1x3c : Nat) (b_1x4 : Option Addr) (b_1x4l b_1x4c : Nat) (b_1x5 : Option Addr) (b_1x5l b_1x5c : Nat) {w : World} {R : Ending → World → Prop} (h : c_order_way_6 a_0x0  a_0x1  a_0x2  a_0x3 a_0x3l a_0x3c  a_0x4 a_0x4l a_0x4c  a_0x5 a_0x5l a_0x5c  b_1x0  b_1x1  b_1x2  b_1x3 b_1x3l b_1x3c  b_1x4 b_1x4l b_1x4c  b_1x5 b_1x5l b_1x5c  w R) : Calls pg f_order_way_6 #[(.agg #[(.int .i64 a_0x0), (.int .i64 a_0x1), (.string a_0x2), (.slice a_0x3 a_0x3l a_0x3c), (.slice a_0x4 a_0x4l a_0x4c), (.slice a_0x5 a_0x5l a_0x5c)]), (.agg #[(.int .i64 b_1x0), (.int .i64 b_1x1), (.string b_1x2), (.slice b_1x3 b_1x3l b_1x3c), (.slice b_1x4 b_1x4l b_1x4c), (.slice b_1x5 b_1x5l b_1x5c)])] w R :=
  funcX_of mixed tok blok Tryd.func78 (args := [(.agg #[(.int .i64 a_0x0), (.int .i64 a_0x1), (.string a_0x2), (.slice a_0x3 a_0x3l a_0x3c), (.slice a_0x4 a_0x4l a_0x4c), (.slice a_0x5 a_0x5l a_0x5c)]), (.agg #[(.int .i64 b_1x0), (.int .i64 b_1x1), (.string b_1x2), (.slice b_1x3 b_1x3l b_1x3c), (.slice b_1x4 b_1x4l b_1x4c), (.slice b_1x5 b_1x5l b_1x5c)])]) (e_order_way_6 a_0x0  a_0x1  a_0x2  a_0x3 a_0x3l a_0x3c  a_0x4 a_0x4l a_0x4c  a_0x5 a_0x5l a_0x5c  b_1x0  b_1x1  b_1x2  b_1x3 b_1x3l b_1x3c  b_1x4 b_1x4l b_1x4c  b_1x5 b_1x5l b_1x5c  w R) h
/-- internal/strconv.formatBits -/
def c_internal_strconv_formatBits (dst_0 : Option Addr) (dst_0l dst_0c : Nat) (u_1 : Int) (base_2 : Int) (neg_3 : Bool) (append_4 : Bool) (w : World) (R : Ending → World → Prop) : Prop :=
 (Meet (σ := Unit) (fun J0 =>
 (Meet (σ := Bool) (fun J3 =>
 (cond (decide (base_2 < (2 : Int)))
 (J3 true w)
 ((cond (base_2 == (10 : Int))
 (J3 true w)
 (J3 (decide (base_2 > (36 : Int))) w)))))
 (fun s4 w5 =>
 ∀ j6 : Nat → Value, (cond s4
 (R (.panicked [{ v := (.iface t_string (.string (⟨#[115, 116, 114, 99, 111, 110, 118, 58, 32, 105, 108, 108, 101, 103, 97, 108, 32, 65, 112, 112, 101, 110, 100, 73, 110, 116, 47, 70, 111, 114, 109, 97, 116, 73, 110, 116, 32, 98, 97, 115, 101]⟩ : ByteArray))), recovered := false }]) w5)
 (J0 () w5)))))
 (fun s1 w2 =>
 ∀ j7 : Nat → Value, False))
theorem e_internal_strconv_formatBits (dst_0 : Option Addr) (dst_0l dst_0c : Nat) (u_1 : Int) (base_2 : Int) (neg_3 : Bool) (append_4 : Bool) (w : World) (R : Ending → World → Prop) : funcX pg T bl Tryd.f83 [(.slice dst_0 dst_0l dst_0c), (.int .u64 u_1), (.int .i64 base_2), (.bool neg_3), (.bool append_4)] w R = c_internal_strconv_formatBits dst_0 dst_0l dst_0c  u_1  base_2  neg_3  append_4  w R := by kernel_rfl
theorem of_internal_strconv_formatBits (dst_0 : Option Addr) (dst_0l dst_0c : Nat) (u_1 : Int) (base_2 : Int) (neg_3 : Bool) (append_4 : Bool) {w : World} {R : Ending → World → Prop} (h : c_internal_strconv_formatBits dst_0 dst_0l dst_0c  u_1  base_2  neg_3  append_4  w R) : Calls pg f_internal_strconv_formatBits #[(.slice dst_0 dst_0l dst_0c), (.int .u64 u_1), (.int .i64 base_2), (.bool neg_3), (.bool append_4)] w R :=
  funcX_of mixed tok blok Tryd.func83 (args := [(.slice dst_0 dst_0l dst_0c), (.int .u64 u_1), (.int .i64 base_2), (.bool neg_3), (.bool append_4)]) (e_internal_strconv_formatBits dst_0 dst_0l dst_0c  u_1  base_2  neg_3  append_4  w R) h
/-- aqueduct/bson.named -/
def c_bson_named (l_0 : Option Addr) (l_0l l_0c : Nat) (w : World) (R : Ending → World → Prop) : Prop :=
 (Eng.Loop (σ := (Option Addr × Nat × Nat) × Int) (fun X0 s1 w2 =>
 ∀ j3 : Nat → Value, (cond (decide (s1.2 < ((l_0l : Nat) : Int)))
 ((withSome l_0 fun (a4 : Addr) =>
 (0 ≤ s1.2 ∧ s1.2 < ((l_0l : Nat) : Int)) ∧
 ∃ x5 : Int, w2.cell? (a4.add ((s1.2).toNat * 6)) = some (.int .i64 x5) ∧
 ∃ x6 : Int, w2.cell? ((a4.add ((s1.2).toNat * 6)).add 1) = some (.int .i64 x6) ∧
 ∃ x7 : ByteArray, w2.cell? ((a4.add ((s1.2).toNat * 6)).add 2) = some (.string x7) ∧
 ∃ (x8 : Option Addr) (l9 c10 : Nat), w2.cell? ((a4.add ((s1.2).toNat * 6)).add 3) = some (.slice x8 l9 c10) ∧
 ∃ (x11 : Option Addr) (l12 c13 : Nat), w2.cell? ((a4.add ((s1.2).toNat * 6)).add 4) = some (.slice x11 l12 c13) ∧
 ∃ (x14 : Option Addr) (l15 c16 : Nat), w2.cell? ((a4.add ((s1.2).toNat * 6)).add 5) = some (.slice x14 l15 c16) ∧
 (New w2 (.cells #[(.int .i64 (0 : Int)), (.int .i64 (0 : Int)), (.string (⟨#[]⟩ : ByteArray)), (.slice none 0 0), (.slice none 0 0), (.slice none 0 0)] t_api_Value (0, 0)) fun b17 w18 =>
 (St w18 ⟨b17, 0, none⟩ (.int .i64 x5) fun w19 =>
 (St w19 ⟨b17, 1, none⟩ (.int .i64 x6) fun w20 =>
 (St w20 ⟨b17, 2, none⟩ (.string x7) fun w21 =>
 (St w21 ⟨b17, 3, none⟩ (.slice x8 l9 c10) fun w22 =>
 (St w22 ⟨b17, 4, none⟩ (.slice x11 l12 c13) fun w23 =>
 (St w23 ⟨b17, 5, none⟩ (.slice x14 l15 c16) fun w24 =>
 (Drew w24 fun w25 =>
 ∃ x26 : Int, w25.cell? ⟨b17, 0, none⟩ = some (.int .i64 x26) ∧
 ∃ x27 : Int, w25.cell? ⟨b17, 1, none⟩ = some (.int .i64 x27) ∧
 ∃ x28 : ByteArray, w25.cell? ⟨b17, 2, none⟩ = some (.string x28) ∧
 ∃ (x29 : Option Addr) (l30 c31 : Nat), w25.cell? ⟨b17, 3, none⟩ = some (.slice x29 l30 c31) ∧
 ∃ (x32 : Option Addr) (l33 c34 : Nat), w25.cell? ⟨b17, 4, none⟩ = some (.slice x32 l33 c34) ∧
 ∃ (x35 : Option Addr) (l36 c37 : Nat), w25.cell? ⟨b17, 5, none⟩ = some (.slice x35 l36 c37) ∧
 (CallR pg f_strconv_Itoa [(.int .i64 s1.2)] w25 (fun ch w => R (.panicked ch) w) fun v38 w39 =>
 ∃ y40 : ByteArray, v38 = (.string y40) ∧
 (w39.cell? ⟨b17, 0, none⟩ = some (.int .i64 x26) ∧ w39.cell? ⟨b17, 1, none⟩ = some (.int .i64 x27) ∧ w39.cell? ⟨b17, 2, none⟩ = some (.string x28) ∧ w39.cell? ⟨b17, 3, none⟩ = some (.slice x29 l30 c31) ∧ w39.cell? ⟨b17, 4, none⟩ = some (.slice x32 l33 c34) ∧ w39.cell? ⟨b17, 5, none⟩ = some (.slice x35 l36 c37)) ∧ (New w39 (.cells #[(.string y40), (.int .i64 x26), (.int .i64 x27), (.string x28), (.slice x29 l30 c31), (.slice x32 l33 c34), (.slice x35 l36 c37)] t_api_Field (0, 0)) fun b41 w42 =>
 (Prim pg (Builtin.append_ #[t_Sapi_Field, t_Sapi_Field] t_Sapi_Field #[(.slice s1.1.1 s1.1.2.1 s1.1.2.2), (.slice (some (⟨b41, 0, none⟩ : Addr)) 1 1)]) w42 fun v43 w44 =>
 ∃ (y45 : Option Addr) (l46 c47 : Nat), v43 = (.slice y45 l46 c47) ∧
 X0 ((y45, l46, c47), (IntKind.i64.wrap (s1.2 + (1 : Int)))) w44)))))))))))))
 (R (.returned (.slice s1.1.1 s1.1.2.1 s1.1.2.2)) w2))) ((none, 0, 0), (0 : Int)) w)
theorem e_bson_named (l_0 : Option Addr) (l_0l l_0c : Nat) (w : World) (R : Ending → World → Prop) : funcX pg T bl Tryd.f87 [(.slice l_0 l_0l l_0c)] w R = c_bson_named l_0 l_0l l_0c  w R := by kernel_rfl
theorem of_bson_named (l_0 : Option Addr) (l_0l l_0c : Nat) {w : World} {R : Ending → World → Prop} (h : c_bson_named l_0 l_0l l_0c  w R) : Calls pg f_bson_named #[(.slice l_0 l_0l l_0c)] w R :=
  funcX_of mixed tok blok Tryd.func87 (args := [(.slice l_0 l_0l l_0c)]) (e_bson_named l_0 l_0l l_0c  w R) h
/-- cmp.isNaN[string] -/
def c_cmp_isNaN_string (x_0 : ByteArray) (w : World) (R : Ending → World → Prop) : Prop :=
 R (.returned (.bool (!(x_0.toList == x_0.toList)))) w
theorem e_cmp_isNaN_string (x_0 : ByteArray) (w : World) (R : Ending → World → Prop) : funcX pg T bl Tryd.f89 [(.string x_0)] w R = c_cmp_isNaN_string x_0  w R := by kernel_rfl
theorem of_cmp_isNaN_string (x_0 : ByteArray) {w : World} {R : Ending → World → Prop} (h : c_cmp_isNaN_string x_0  w R) : Calls pg f_cmp_isNaN_string #[(.string x_0)] w R :=
  funcX_of mixed tok blok Tryd.func89 (args := [(.string x_0)]) (e_cmp_isNaN_string x_0  w R) h
/-- math/bits.Len64 -/
def c_math_bits_Len64 (x_0 : Int) (w : World) (R : Ending → World → Prop) : Prop :=
 (Meet (σ := Int × Int) (fun J0 =>
 (cond (decide (x_0 ≥ (4294967296 : Int)))
 ((cond (decide ((32 : Int) < 0))
 (False)
 (J0 ((x_0.fdiv (2 ^ (min ((32 : Int)).toNat IntKind.u64.bits))), (32 : Int)) w)))
 (J0 (x_0, (0 : Int)) w)))
 (fun s1 w2 =>
 ∀ j3 : Nat → Value, (Meet (σ := Int × Int) (fun J4 =>
 (cond (decide (s1.1 ≥ (65536 : Int)))
 ((cond (decide ((16 : Int) < 0))
 (False)
 (J4 ((s1.1.fdiv (2 ^ (min ((16 : Int)).toNat IntKind.u64.bits))), (IntKind.i64.wrap (s1.2 + (16 : Int)))) w2)))
 (J4 (s1.1, s1.2) w2)))
 (fun s5 w6 =>
 ∀ j7 : Nat → Value, (Meet (σ := Int × Int) (fun J8 =>
 (cond (decide (s5.1 ≥ (256 : Int)))
 ((cond (decide ((8 : Int) < 0))
 (False)
 (J8 ((s5.1.fdiv (2 ^ (min ((8 : Int)).toNat IntKind.u64.bits))), (IntKind.i64.wrap (s5.2 + (8 : Int)))) w6)))
 (J8 (s5.1, s5.2) w6)))
 (fun s9 w10 =>
 ∀ j11 : Nat → Value, (0 ≤ (IntKind.u8.wrap s9.1) ∧ (IntKind.u8.wrap s9.1) < (((⟨#[0, 1, 2, 2, 3, 3, 3, 3, 4, 4, 4, 4, 4, 4, 4, 4, 5, 5, 5, 5, 5, 5, 5, 5, 5, 5, 5, 5, 5, 5, 5, 5, 6, 6, 6, 6, 6, 6, 6, 6, 6, 6, 6, 6, 6, 6, 6, 6, 6, 6, 6, 6, 6, 6, 6, 6, 6, 6, 6, 6, 6, 6, 6, 6, 7, 7, 7, 7, 7, 7, 7, 7, 7, 7, 7, 7, 7, 7, 7, 7, 7, 7, 7, 7, 7, 7, 7, 7, 7, 7, 7, 7, 7, 7, 7, 7, 7, 7, 7, 7, 7, 7, 7, 7, 7, 7, 7, 7, 7, 7, 7, 7, 7, 7, 7, 7, 7, 7, 7, 7, 7, 7, 7, 7, 7, 7, 7, 7, 8, 8, 8, 8, 8, 8, 8, 8, 8, 8, 8, 8, 8, 8, 8, 8, 8, 8, 8, 8, 8, 8, 8, 8, 8, 8, 8, 8, 8, 8, 8, 8, 8, 8, 8, 8, 8, 8, 8, 8, 8, 8, 8, 8, 8, 8, 8, 8, 8, 8, 8, 8, 8, 8, 8, 8, 8, 8, 8, 8, 8, 8, 8, 8, 8, 8, 8, 8, 8, 8, 8, 8, 8, 8, 8, 8, 8, 8, 8, 8, 8, 8, 8, 8, 8, 8, 8, 8, 8, 8, 8, 8, 8, 8, 8, 8, 8, 8, 8, 8, 8, 8, 8, 8, 8, 8, 8, 8, 8, 8, 8, 8, 8, 8, 8, 8, 8, 8, 8, 8, 8, 8, 8, 8, 8, 8, 8, 8]⟩ : ByteArray).size : Nat) : Int)) ∧
 R (.returned (.int .i64 (IntKind.i64.wrap (s9.2 + (IntKind.i64.wrap (byteAt (⟨#[0, 1, 2, 2, 3, 3, 3, 3, 4, 4, 4, 4, 4, 4, 4, 4, 5, 5, 5, 5, 5, 5, 5, 5, 5, 5, 5, 5, 5, 5, 5, 5, 6, 6, 6, 6, 6, 6, 6, 6, 6, 6, 6, 6, 6, 6, 6, 6, 6, 6, 6, 6, 6, 6, 6, 6, 6, 6, 6, 6, 6, 6, 6, 6, 7, 7, 7, 7, 7, 7, 7, 7, 7, 7, 7, 7, 7, 7, 7, 7, 7, 7, 7, 7, 7, 7, 7, 7, 7, 7, 7, 7, 7, 7, 7, 7, 7, 7, 7, 7, 7, 7, 7, 7, 7, 7, 7, 7, 7, 7, 7, 7, 7, 7, 7, 7, 7, 7, 7, 7, 7, 7, 7, 7, 7, 7, 7, 7, 8, 8, 8, 8, 8, 8, 8, 8, 8, 8, 8, 8, 8, 8, 8, 8, 8, 8, 8, 8, 8, 8, 8, 8, 8, 8, 8, 8, 8, 8, 8, 8, 8, 8, 8, 8, 8, 8, 8, 8, 8, 8, 8, 8, 8, 8, 8, 8, 8, 8, 8, 8, 8, 8, 8, 8, 8, 8, 8, 8, 8, 8, 8, 8, 8, 8, 8, 8, 8, 8, 8, 8, 8, 8, 8, 8, 8, 8, 8, 8, 8, 8, 8, 8, 8, 8, 8, 8, 8, 8, 8, 8, 8, 8, 8, 8, 8, 8, 8, 8, 8, 8, 8, 8, 8, 8, 8, 8, 8, 8, 8, 8, 8, 8, 8, 8, 8, 8, 8, 8, 8, 8, 8, 8, 8, 8, 8, 8]⟩ : ByteArray) ((IntKind.u8.wrap s9.1)).toNat : Nat)))))) w10))))))
theorem e_math_bits_Len64 (x_0 : Int) (w : World) (R : Ending → World → Prop) : funcX pg T bl Tryd.f92 [(.int .u64 x_0)] w R = c_math_bits_Len64 x_0  w R := by kernel_rfl
theorem of_math_bits_Len64 (x_0 : Int) {w : World} {R : Ending → World → Prop} (h : c_math_bits_Len64 x_0  w R) : Calls pg f_math_bits_Len64 #[(.int .u64 x_0)] w R :=
  funcX_of mixed tok blok Tryd.func92 (args := [(.int .u64 x_0)]) (e_math_bits_Len64 x_0  w R) h
/-- internal/strconv.bool2[int] -/
def c_internal_strconv_bool2_int (b_0 : Bool) (w : World) (R : Ending → World → Prop) : Prop :=
 (cond b_0
 (R (.returned (.int .i64 (1 : Int))) w)
 (R (.returned (.int .i64 (0 : Int))) w))
theorem e_internal_strconv_bool2_int (b_0 : Bool) (w : World) (R : Ending → World → Prop) : funcX pg T bl Tryd.f93 [(.bool b_0)] w R = c_internal_strconv_bool2_int b_0  w R := by kernel_rfl
theorem of_internal_strconv_bool2_int (b_0 : Bool) {w : World} {R : Ending → World → Prop} (h : c_internal_strconv_bool2_int b_0  w R) : Calls pg f_internal_strconv_bool2_int #[(.bool b_0)] w R :=
  funcX_of mixed tok blok Tryd.func93 (args := [(.bool b_0)]) (e_internal_strconv_bool2_int b_0  w R) h
/-- math/bits.TrailingZeros -/
def c_math_bits_TrailingZeros (x_0 : Int) (w : World) (R : Ending → World → Prop) : Prop :=
 (CallR pg f_math_bits_TrailingZeros64 [(.int .u64 x_0)] w (fun ch w => R (.panicked ch) w) fun v0 w1 =>
 ∃ y2 : Int, v0 = (.int .i64 y2) ∧
 R (.returned (.int .i64 y2)) w1)
theorem e_math_bits_TrailingZeros (x_0 : Int) (w : World) (R : Ending → World → Prop) : funcX pg T bl Tryd.f95 [(.int .u64 x_0)] w R = c_math_bits_TrailingZeros x_0  w R := by kernel_rfl
theorem of_math_bits_TrailingZeros (x_0 : Int) {w : World} {R : Ending → World → Prop} (h : c_math_bits_TrailingZeros x_0  w R) : Calls pg f_math_bits_TrailingZeros #[(.int .u64 x_0)] w R :=
  funcX_of mixed tok blok Tryd.func95 (args := [(.int .u64 x_0)]) (e_math_bits_TrailingZeros x_0  w R) h
end Go.Proofs.Sd
