/- By a program of mine (Gen): the conditions of the functions, part 1. -/
import Derived.Test.YtpbmnjmagdacbaaSwTab
set_option linter.unusedVariables false
set_option maxRecDepth 100000
namespace Go.Proofs.Sw
open Go Go.Eng
open Go.Proofs
/-- aqueduct/aqueductlaw20.WindowBrings -/
def c_aqueductlaw20_WindowBrings (l_0 : Option Addr) (l_0l l_0c : Nat) (n_1 : Int) (e_2 : Int) (w : World) (R : Ending → World → Prop) : Prop :=
 (CallR pg f_aqueductlaw20_awake [] w (fun ch w => R (.panicked ch) w) fun v0 w1 =>
 ∃ y2 : Bool, v0 = (.bool y2) ∧
 (cond (!y2)
 (R (.returned (.bool false)) w1)
 ((CallR pg f_aqueductlaw17_Docs [(.slice l_0 l_0l l_0c), (.int .i64 (30 : Int))] w1 (fun ch w => R (.panicked ch) w) fun v3 w4 =>
 ∃ y5 : Bool, v3 = (.bool y5) ∧
 (cond (!y5)
 (R (.returned (.bool true)) w4)
 ((cond ((22 : Int) == 0)
 (False)
 ((New w4 (.cells #[(.int .i64 (0 : Int)), (.int .i64 (0 : Int)), (.string (⟨#[]⟩ : ByteArray)), (.slice none 0 0), (.slice none 0 0), (.slice none 0 0)] t_api_Value (0, 0)) fun b6 w7 =>
 (St w7 ⟨b6, 0, none⟩ (.int .i64 (4 : Int)) fun w8 =>
 (St w8 ⟨b6, 1, none⟩ (.int .i64 (if (0 : Int) > n_1 then (0 : Int) else n_1)) fun w9 =>
 (St w9 ⟨b6, 2, none⟩ (.string (⟨#[]⟩ : ByteArray)) fun w10 =>
 (St w10 ⟨b6, 3, none⟩ (.slice none 0 0) fun w11 =>
 (St w11 ⟨b6, 4, none⟩ (.slice none 0 0) fun w12 =>
 (St w12 ⟨b6, 5, none⟩ (.slice none 0 0) fun w13 =>
 (CallR pg f_source_Of [(.slice l_0 l_0l l_0c), (.int .i64 (IntKind.i64.wrap (e_2.tmod (22 : Int))))] w13 (fun ch w => R (.panicked ch) w) fun v14 w15 =>
 ∃ y16 : Value, v14 = y16 ∧
 (CallR pg f_window_Limit [y16, (.int .i64 n_1)] w15 (fun ch w => R (.panicked ch) w) fun v17 w18 =>
 ∃ y19 : Value, v17 = y19 ∧
 (CallR pg f_source_Of [(.slice l_0 l_0l l_0c), (.int .i64 (IntKind.i64.wrap (e_2.tmod (22 : Int))))] w18 (fun ch w => R (.panicked ch) w) fun v20 w21 =>
 ∃ y22 : Value, v20 = y22 ∧
 (CallR pg f_window_Skip [y22, (.int .i64 n_1)] w21 (fun ch w => R (.panicked ch) w) fun v23 w24 =>
 ∃ y25 : Value, v23 = y25 ∧
 (CallR pg f_source_Of [(.slice l_0 l_0l l_0c), (.int .i64 (IntKind.i64.wrap (e_2.tmod (22 : Int))))] w24 (fun ch w => R (.panicked ch) w) fun v26 w27 =>
 ∃ y28 : Value, v26 = y28 ∧
 (CallR pg f_window_Count [y28, (.string (⟨#[110]⟩ : ByteArray))] w27 (fun ch w => R (.panicked ch) w) fun v29 w30 =>
 ∃ y31 : Value, v29 = y31 ∧
 (CallR pg f_aqueductlaw17_Told [y19, (.int .i64 ((l_0l : Nat) : Int))] w30 (fun ch w => R (.panicked ch) w) fun v32 w33 =>
 ∃ (y34 : Option Addr) (l35 c36 : Nat), ∃ y37 : Int, v32 = (.tuple #[(.slice y34 l35 c36), (.int .i64 y37)]) ∧
 ∃ x38 : Int, w33.cell? ⟨b6, 0, none⟩ = some (.int .i64 x38) ∧
 ∃ x39 : Int, w33.cell? ⟨b6, 1, none⟩ = some (.int .i64 x39) ∧
 ∃ x40 : ByteArray, w33.cell? ⟨b6, 2, none⟩ = some (.string x40) ∧
 ∃ (x41 : Option Addr) (l42 c43 : Nat), w33.cell? ⟨b6, 3, none⟩ = some (.slice x41 l42 c43) ∧
 ∃ (x44 : Option Addr) (l45 c46 : Nat), w33.cell? ⟨b6, 4, none⟩ = some (.slice x44 l45 c46) ∧
 ∃ (x47 : Option Addr) (l48 c49 : Nat), w33.cell? ⟨b6, 5, none⟩ = some (.slice x47 l48 c49) ∧
 (CallR pg f_aqueductref16_Stage [(.string (⟨#[36, 108, 105, 109, 105, 116]⟩ : ByteArray)), (.agg #[(.int .i64 x38), (.int .i64 x39), (.string x40), (.slice x41 l42 c43), (.slice x44 l45 c46), (.slice x47 l48 c49)]), (.slice l_0 l_0l l_0c), (.int .i64 (IntKind.i64.wrap (e_2.tmod (22 : Int)))), (.slice none 0 0)] w33 (fun ch w => R (.panicked ch) w) fun v50 w51 =>
 ∃ (y52 : Option Addr) (l53 c54 : Nat), ∃ y55 : Int, v50 = (.tuple #[(.slice y52 l53 c54), (.int .i64 y55)]) ∧
 (Meet (σ := (Option Addr × Nat × Nat) × Int) (fun J56 =>
 (cond (decide (n_1 < (1 : Int)))
 (J56 ((none, 0, 0), (0 : Int)) w51)
 (J56 ((y52, l53, c54), y55) w51)))
 (fun s57 w58 =>
 ∀ j59 : Nat → Value, (CallR pg f_aqueductlaw17_Told [y25, (.int .i64 ((l_0l : Nat) : Int))] w58 (fun ch w => R (.panicked ch) w) fun v60 w61 =>
 ∃ (y62 : Option Addr) (l63 c64 : Nat), ∃ y65 : Int, v60 = (.tuple #[(.slice y62 l63 c64), (.int .i64 y65)]) ∧
 ∃ x66 : Int, w61.cell? ⟨b6, 0, none⟩ = some (.int .i64 x66) ∧
 ∃ x67 : Int, w61.cell? ⟨b6, 1, none⟩ = some (.int .i64 x67) ∧
 ∃ x68 : ByteArray, w61.cell? ⟨b6, 2, none⟩ = some (.string x68) ∧
 ∃ (x69 : Option Addr) (l70 c71 : Nat), w61.cell? ⟨b6, 3, none⟩ = some (.slice x69 l70 c71) ∧
 ∃ (x72 : Option Addr) (l73 c74 : Nat), w61.cell? ⟨b6, 4, none⟩ = some (.slice x72 l73 c74) ∧
 ∃ (x75 : Option Addr) (l76 c77 : Nat), w61.cell? ⟨b6, 5, none⟩ = some (.slice x75 l76 c77) ∧
 (CallR pg f_aqueductref16_Stage [(.string (⟨#[36, 115, 107, 105, 112]⟩ : ByteArray)), (.agg #[(.int .i64 x66), (.int .i64 x67), (.string x68), (.slice x69 l70 c71), (.slice x72 l73 c74), (.slice x75 l76 c77)]), (.slice l_0 l_0l l_0c), (.int .i64 (IntKind.i64.wrap (e_2.tmod (22 : Int)))), (.slice none 0 0)] w61 (fun ch w => R (.panicked ch) w) fun v78 w79 =>
 ∃ (y80 : Option Addr) (l81 c82 : Nat), ∃ y83 : Int, v78 = (.tuple #[(.slice y80 l81 c82), (.int .i64 y83)]) ∧
 (Meet (σ := (Option Addr × Nat × Nat) × Int) (fun J84 =>
 (cond (decide (n_1 < (1 : Int)))
 (J84 ((l_0, l_0l, l_0c), (IntKind.i64.wrap (e_2.tmod (22 : Int)))) w79)
 (J84 ((y80, l81, c82), y83) w79)))
 (fun s85 w86 =>
 ∀ j87 : Nat → Value, (CallR pg f_aqueductlaw17_Told [y31, (.int .i64 (2 : Int))] w86 (fun ch w => R (.panicked ch) w) fun v88 w89 =>
 ∃ (y90 : Option Addr) (l91 c92 : Nat), ∃ y93 : Int, v88 = (.tuple #[(.slice y90 l91 c92), (.int .i64 y93)]) ∧
 (CallR pg f_aqueductref16_Stage [(.string (⟨#[36, 99, 111, 117, 110, 116]⟩ : ByteArray)), (.agg #[(.int .i64 (5 : Int)), (.int .i64 (0 : Int)), (.string (⟨#[110]⟩ : ByteArray)), (.slice none 0 0), (.slice none 0 0), (.slice none 0 0)]), (.slice l_0 l_0l l_0c), (.int .i64 (IntKind.i64.wrap (e_2.tmod (22 : Int)))), (.slice none 0 0)] w89 (fun ch w => R (.panicked ch) w) fun v94 w95 =>
 ∃ (y96 : Option Addr) (l97 c98 : Nat), ∃ y99 : Int, v94 = (.tuple #[(.slice y96 l97 c98), (.int .i64 y99)]) ∧
 (Meet (σ := Bool) (fun J100 =>
 (CallR pg f_aqueductref5_SameAll [(.slice y34 l35 c36), (.slice s57.1.1 s57.1.2.1 s57.1.2.2)] w95 (fun ch w => R (.panicked ch) w) fun v103 w104 =>
 ∃ y105 : Bool, v103 = (.bool y105) ∧
 (cond y105
 ((cond (y37 == s57.2)
 ((CallR pg f_aqueductref5_SameAll [(.slice y62 l63 c64), (.slice s85.1.1 s85.1.2.1 s85.1.2.2)] w104 (fun ch w => R (.panicked ch) w) fun v106 w107 =>
 ∃ y108 : Bool, v106 = (.bool y108) ∧
 (cond y108
 ((cond (y65 == s85.2)
 ((CallR pg f_aqueductref5_SameAll [(.slice y90 l91 c92), (.slice y96 l97 c98)] w107 (fun ch w => R (.panicked ch) w) fun v109 w110 =>
 ∃ y111 : Bool, v109 = (.bool y111) ∧
 (cond y111
 ((cond (y93 == y99)
 ((CallR pg f_aqueductlaw17_Ends [y19] w110 (fun ch w => R (.panicked ch) w) fun v112 w113 =>
 ∃ y114 : Bool, v112 = (.bool y114) ∧
 (cond y114
 ((CallR pg f_aqueductlaw17_Ends [y25] w113 (fun ch w => R (.panicked ch) w) fun v115 w116 =>
 ∃ y117 : Bool, v115 = (.bool y117) ∧
 (cond y117
 ((CallR pg f_aqueductlaw17_Ends [y31] w116 (fun ch w => R (.panicked ch) w) fun v118 w119 =>
 ∃ y120 : Bool, v118 = (.bool y120) ∧
 J100 y120 w119))
 (J100 false w116))))
 (J100 false w113))))
 (J100 false w110)))
 (J100 false w110))))
 (J100 false w107)))
 (J100 false w107))))
 (J100 false w104)))
 (J100 false w104))))
 (fun s101 w102 =>
 ∀ j121 : Nat → Value, R (.returned (.bool s101)) w102)))))))))))))))))))))))))))))))))
theorem e_aqueductlaw20_WindowBrings (l_0 : Option Addr) (l_0l l_0c : Nat) (n_1 : Int) (e_2 : Int) (w : World) (R : Ending → World → Prop) : funcX pg T bl Try.f3 [(.slice l_0 l_0l l_0c), (.int .i64 n_1), (.int .u8 e_2)] w R = c_aqueductlaw20_WindowBrings l_0 l_0l l_0c  n_1  e_2  w R := by kernel_rfl
theorem of_aqueductlaw20_WindowBrings (l_0 : Option Addr) (l_0l l_0c : Nat) (n_1 : Int) (e_2 : Int) {w : World} {R : Ending → World → Prop} (h : c_aqueductlaw20_WindowBrings l_0 l_0l l_0c  n_1  e_2  w R) : Calls pg f_aqueductlaw20_WindowBrings #[(.slice l_0 l_0l l_0c), (.int .i64 n_1), (.int .u8 e_2)] w R :=
  funcX_of mixed tok blok Try.func3 (args := [(.slice l_0 l_0l l_0c), (.int .i64 n_1), (.int .u8 e_2)]) (e_aqueductlaw20_WindowBrings l_0 l_0l l_0c  n_1  e_2  w R) h
/-- aqueduct/aqueductlaw20.WindowParts -/
def c_aqueductlaw20_WindowParts (l_0 : Option Addr) (l_0l l_0c : Nat) (n_1x0 : Int) (n_1x1 : Int) (w : World) (R : Ending → World → Prop) : Prop :=
 (New w (.cells #[(.int .u8 n_1x0), (.int .u8 n_1x1)] t_2_uint8 (0, 0)) fun b0 w1 =>
 (CallR pg f_aqueductlaw20_awake [] w1 (fun ch w => R (.panicked ch) w) fun v2 w3 =>
 ∃ y4 : Bool, v2 = (.bool y4) ∧
 (cond (!y4)
 (R (.returned (.bool false)) w3)
 ((CallR pg f_aqueductlaw17_Docs [(.slice l_0 l_0l l_0c), (.int .i64 (30 : Int))] w3 (fun ch w => R (.panicked ch) w) fun v5 w6 =>
 ∃ y7 : Bool, v5 = (.bool y7) ∧
 (cond (!y7)
 (R (.returned (.bool true)) w6)
 ((Drew w6 fun w8 =>
 (0 ≤ (0 : Int) ∧ (0 : Int) < ((2 : Nat) : Int)) ∧
 ∃ x9 : Int, w8.cell? ((⟨b0, 0, none⟩ : Addr).add (((0 : Int)).toNat * 1)) = some (.int .u8 x9) ∧
 (cond ((12 : Int) == 0)
 (False)
 ((0 ≤ (1 : Int) ∧ (1 : Int) < ((2 : Nat) : Int)) ∧
 ∃ x10 : Int, w8.cell? ((⟨b0, 0, none⟩ : Addr).add (((1 : Int)).toNat * 1)) = some (.int .u8 x10) ∧
 (cond ((12 : Int) == 0)
 (False)
 ((CallR pg f_source_Of [(.slice l_0 l_0l l_0c), (.int .i64 (0 : Int))] w8 (fun ch w => R (.panicked ch) w) fun v11 w12 =>
 ∃ y13 : Value, v11 = y13 ∧
 (CallR pg f_window_Limit [y13, (.int .i64 (IntKind.i64.wrap (x9.tmod (12 : Int))))] w12 (fun ch w => R (.panicked ch) w) fun v14 w15 =>
 ∃ y16 : Value, v14 = y16 ∧
 (CallR pg f_aqueductlaw17_Told [y16, (.int .i64 ((l_0l : Nat) : Int))] w15 (fun ch w => R (.panicked ch) w) fun v17 w18 =>
 ∃ (y19 : Option Addr) (l20 c21 : Nat), ∃ y22 : Int, v17 = (.tuple #[(.slice y19 l20 c21), (.int .i64 y22)]) ∧
 (CallR pg f_source_Of [(.slice l_0 l_0l l_0c), (.int .i64 (0 : Int))] w18 (fun ch w => R (.panicked ch) w) fun v23 w24 =>
 ∃ y25 : Value, v23 = y25 ∧
 (CallR pg f_window_Skip [y25, (.int .i64 (IntKind.i64.wrap (x9.tmod (12 : Int))))] w24 (fun ch w => R (.panicked ch) w) fun v26 w27 =>
 ∃ y28 : Value, v26 = y28 ∧
 (CallR pg f_aqueductlaw17_Told [y28, (.int .i64 ((l_0l : Nat) : Int))] w27 (fun ch w => R (.panicked ch) w) fun v29 w30 =>
 ∃ (y31 : Option Addr) (l32 c33 : Nat), ∃ y34 : Int, v29 = (.tuple #[(.slice y31 l32 c33), (.int .i64 y34)]) ∧
 (CallR pg f_source_Of [(.slice l_0 l_0l l_0c), (.int .i64 (0 : Int))] w30 (fun ch w => R (.panicked ch) w) fun v35 w36 =>
 ∃ y37 : Value, v35 = y37 ∧
 (CallR pg f_window_Limit [y37, (.int .i64 (IntKind.i64.wrap (x9.tmod (12 : Int))))] w36 (fun ch w => R (.panicked ch) w) fun v38 w39 =>
 ∃ y40 : Value, v38 = y40 ∧
 (CallR pg f_window_Limit [y40, (.int .i64 (IntKind.i64.wrap (x10.tmod (12 : Int))))] w39 (fun ch w => R (.panicked ch) w) fun v41 w42 =>
 ∃ y43 : Value, v41 = y43 ∧
 (CallR pg f_aqueductlaw17_Told [y43, (.int .i64 ((l_0l : Nat) : Int))] w42 (fun ch w => R (.panicked ch) w) fun v44 w45 =>
 ∃ (y46 : Option Addr) (l47 c48 : Nat), ∃ y49 : Int, v44 = (.tuple #[(.slice y46 l47 c48), (.int .i64 y49)]) ∧
 (CallR pg f_source_Of [(.slice l_0 l_0l l_0c), (.int .i64 (0 : Int))] w45 (fun ch w => R (.panicked ch) w) fun v50 w51 =>
 ∃ y52 : Value, v50 = y52 ∧
 (CallR pg f_window_Skip [y52, (.int .i64 (IntKind.i64.wrap (x9.tmod (12 : Int))))] w51 (fun ch w => R (.panicked ch) w) fun v53 w54 =>
 ∃ y55 : Value, v53 = y55 ∧
 (CallR pg f_window_Skip [y55, (.int .i64 (IntKind.i64.wrap (x10.tmod (12 : Int))))] w54 (fun ch w => R (.panicked ch) w) fun v56 w57 =>
 ∃ y58 : Value, v56 = y58 ∧
 (CallR pg f_aqueductlaw17_Told [y58, (.int .i64 ((l_0l : Nat) : Int))] w57 (fun ch w => R (.panicked ch) w) fun v59 w60 =>
 ∃ (y61 : Option Addr) (l62 c63 : Nat), ∃ y64 : Int, v59 = (.tuple #[(.slice y61 l62 c63), (.int .i64 y64)]) ∧
 (CallR pg f_source_Of [(.slice l_0 l_0l l_0c), (.int .i64 (0 : Int))] w60 (fun ch w => R (.panicked ch) w) fun v65 w66 =>
 ∃ y67 : Value, v65 = y67 ∧
 (CallR pg f_window_Skip [y67, (.int .i64 (IntKind.i64.wrap ((IntKind.i64.wrap (x9.tmod (12 : Int))) + (IntKind.i64.wrap (x10.tmod (12 : Int))))))] w66 (fun ch w => R (.panicked ch) w) fun v68 w69 =>
 ∃ y70 : Value, v68 = y70 ∧
 (CallR pg f_aqueductlaw17_Told [y70, (.int .i64 ((l_0l : Nat) : Int))] w69 (fun ch w => R (.panicked ch) w) fun v71 w72 =>
 ∃ (y73 : Option Addr) (l74 c75 : Nat), ∃ y76 : Int, v71 = (.tuple #[(.slice y73 l74 c75), (.int .i64 y76)]) ∧
 (CallR pg f_source_Of [(.slice l_0 l_0l l_0c), (.int .i64 (0 : Int))] w72 (fun ch w => R (.panicked ch) w) fun v77 w78 =>
 ∃ y79 : Value, v77 = y79 ∧
 (CallR pg f_window_Limit [y79, (.int .i64 (if (IntKind.i64.wrap (x10.tmod (12 : Int))) < (IntKind.i64.wrap (x9.tmod (12 : Int))) then (IntKind.i64.wrap (x10.tmod (12 : Int))) else (IntKind.i64.wrap (x9.tmod (12 : Int)))))] w78 (fun ch w => R (.panicked ch) w) fun v80 w81 =>
 ∃ y82 : Value, v80 = y82 ∧
 (CallR pg f_aqueductlaw17_Told [y82, (.int .i64 ((l_0l : Nat) : Int))] w81 (fun ch w => R (.panicked ch) w) fun v83 w84 =>
 ∃ (y85 : Option Addr) (l86 c87 : Nat), ∃ y88 : Int, v83 = (.tuple #[(.slice y85 l86 c87), (.int .i64 y88)]) ∧
 (Meet (σ := Bool) (fun J89 =>
 (cond (y22 == (0 : Int))
 ((cond (y34 == (0 : Int))
 ((cond (y49 == (0 : Int))
 ((cond (y64 == (0 : Int))
 ((cond (y76 == (0 : Int))
 ((cond (y88 == (0 : Int))
 ((New w84 (.cells #[] t_api_Value (0, 0)) fun b92 w93 =>
 (Prim pg (Builtin.append_ #[t_Sapi_Value, t_Sapi_Value] t_Sapi_Value #[(.slice (some (⟨b92, 0, none⟩ : Addr)) 0 0), (.slice y19 l20 c21)]) w93 fun v94 w95 =>
 ∃ (y96 : Option Addr) (l97 c98 : Nat), v94 = (.slice y96 l97 c98) ∧
 (Prim pg (Builtin.append_ #[t_Sapi_Value, t_Sapi_Value] t_Sapi_Value #[(.slice y96 l97 c98), (.slice y31 l32 c33)]) w95 fun v99 w100 =>
 ∃ (y101 : Option Addr) (l102 c103 : Nat), v99 = (.slice y101 l102 c103) ∧
 (CallR pg f_aqueductref5_SameAll [(.slice y101 l102 c103), (.slice l_0 l_0l l_0c)] w100 (fun ch w => R (.panicked ch) w) fun v104 w105 =>
 ∃ y106 : Bool, v104 = (.bool y106) ∧
 (cond y106
 ((CallR pg f_aqueductref5_SameAll [(.slice y46 l47 c48), (.slice y85 l86 c87)] w105 (fun ch w => R (.panicked ch) w) fun v107 w108 =>
 ∃ y109 : Bool, v107 = (.bool y109) ∧
 (cond y109
 ((CallR pg f_aqueductref5_SameAll [(.slice y61 l62 c63), (.slice y73 l74 c75)] w108 (fun ch w => R (.panicked ch) w) fun v110 w111 =>
 ∃ y112 : Bool, v110 = (.bool y112) ∧
 J89 y112 w111))
 (J89 false w108))))
 (J89 false w105)))))))
 (J89 false w84)))
 (J89 false w84)))
 (J89 false w84)))
 (J89 false w84)))
 (J89 false w84)))
 (J89 false w84)))
 (fun s90 w91 =>
 ∀ j113 : Nat → Value, R (.returned (.bool s90)) w91))))))))))))))))))))))))))))))))))
theorem e_aqueductlaw20_WindowParts (l_0 : Option Addr) (l_0l l_0c : Nat) (n_1x0 : Int) (n_1x1 : Int) (w : World) (R : Ending → World → Prop) : funcX pg T bl Try.f4 [(.slice l_0 l_0l l_0c), (.agg #[(.int .u8 n_1x0), (.int .u8 n_1x1)])] w R = c_aqueductlaw20_WindowParts l_0 l_0l l_0c  n_1x0  n_1x1  w R := by kernel_rfl
theorem of_aqueductlaw20_WindowParts (l_0 : Option Addr) (l_0l l_0c : Nat) (n_1x0 : Int) (n_1x1 : Int) {w : World} {R : Ending → World → Prop} (h : c_aqueductlaw20_WindowParts l_0 l_0l l_0c  n_1x0  n_1x1  w R) : Calls pg f_aqueductlaw20_WindowParts #[(.slice l_0 l_0l l_0c), (.agg #[(.int .u8 n_1x0), (.int .u8 n_1x1)])] w R :=
  funcX_of mixed tok blok Try.func4 (args := [(.slice l_0 l_0l l_0c), (.agg #[(.int .u8 n_1x0), (.int .u8 n_1x1)])]) (e_aqueductlaw20_WindowParts l_0 l_0l l_0c  n_1x0  n_1x1  w R) h
/-- aqueduct/aqueductlaw17.Docs -/
def c_aqueductlaw17_Docs (l_0 : Option Addr) (l_0l l_0c : Nat) (most_1 : Int) (w : World) (R : Ending → World → Prop) : Prop :=
 (Eng.Loop (σ := Bool × Int × Int) (fun X0 s1 w2 =>
 ∀ j3 : Nat → Value, (cond (decide (s1.2.2 < ((l_0l : Nat) : Int)))
 ((Meet (σ := Bool) (fun J4 =>
 (withSome l_0 fun (a7 : Addr) =>
 (0 ≤ s1.2.2 ∧ s1.2.2 < ((l_0l : Nat) : Int)) ∧
 ∃ x8 : Int, w2.cell? (a7.add ((s1.2.2).toNat * 6)) = some (.int .i64 x8) ∧
 ∃ x9 : Int, w2.cell? ((a7.add ((s1.2.2).toNat * 6)).add 1) = some (.int .i64 x9) ∧
 ∃ x10 : ByteArray, w2.cell? ((a7.add ((s1.2.2).toNat * 6)).add 2) = some (.string x10) ∧
 ∃ (x11 : Option Addr) (l12 c13 : Nat), w2.cell? ((a7.add ((s1.2.2).toNat * 6)).add 3) = some (.slice x11 l12 c13) ∧
 ∃ (x14 : Option Addr) (l15 c16 : Nat), w2.cell? ((a7.add ((s1.2.2).toNat * 6)).add 4) = some (.slice x14 l15 c16) ∧
 ∃ (x17 : Option Addr) (l18 c19 : Nat), w2.cell? ((a7.add ((s1.2.2).toNat * 6)).add 5) = some (.slice x17 l18 c19) ∧
 (CallR pg f_aqueductlaw5_Small [(.agg #[(.int .i64 x8), (.int .i64 x9), (.string x10), (.slice x11 l12 c13), (.slice x14 l15 c16), (.slice x17 l18 c19)])] w2 (fun ch w => R (.panicked ch) w) fun v20 w21 =>
 ∃ y22 : Bool, v20 = (.bool y22) ∧
 (cond (!y22)
 (J4 true w21)
 ((withSome l_0 fun (a23 : Addr) =>
 (0 ≤ s1.2.2 ∧ s1.2.2 < ((l_0l : Nat) : Int)) ∧
 ∃ x24 : Int, w21.cell? (a23.add ((s1.2.2).toNat * 6)) = some (.int .i64 x24) ∧
 ∃ x25 : Int, w21.cell? ((a23.add ((s1.2.2).toNat * 6)).add 1) = some (.int .i64 x25) ∧
 ∃ x26 : ByteArray, w21.cell? ((a23.add ((s1.2.2).toNat * 6)).add 2) = some (.string x26) ∧
 ∃ (x27 : Option Addr) (l28 c29 : Nat), w21.cell? ((a23.add ((s1.2.2).toNat * 6)).add 3) = some (.slice x27 l28 c29) ∧
 ∃ (x30 : Option Addr) (l31 c32 : Nat), w21.cell? ((a23.add ((s1.2.2).toNat * 6)).add 4) = some (.slice x30 l31 c32) ∧
 ∃ (x33 : Option Addr) (l34 c35 : Nat), w21.cell? ((a23.add ((s1.2.2).toNat * 6)).add 5) = some (.slice x33 l34 c35) ∧
 (CallR pg f_aqueductref5_May [(.agg #[(.int .i64 x24), (.int .i64 x25), (.string x26), (.slice x27 l28 c29), (.slice x30 l31 c32), (.slice x33 l34 c35)])] w21 (fun ch w => R (.panicked ch) w) fun v36 w37 =>
 ∃ y38 : Bool, v36 = (.bool y38) ∧
 J4 (!y38) w37)))))))
 (fun s5 w6 =>
 ∀ j39 : Nat → Value, (cond s5
 (R (.returned (.bool false)) w6)
 ((withSome l_0 fun (a40 : Addr) =>
 (0 ≤ s1.2.2 ∧ s1.2.2 < ((l_0l : Nat) : Int)) ∧
 ∃ x41 : Int, w6.cell? (a40.add ((s1.2.2).toNat * 6)) = some (.int .i64 x41) ∧
 ∃ x42 : Int, w6.cell? ((a40.add ((s1.2.2).toNat * 6)).add 1) = some (.int .i64 x42) ∧
 ∃ x43 : ByteArray, w6.cell? ((a40.add ((s1.2.2).toNat * 6)).add 2) = some (.string x43) ∧
 ∃ (x44 : Option Addr) (l45 c46 : Nat), w6.cell? ((a40.add ((s1.2.2).toNat * 6)).add 3) = some (.slice x44 l45 c46) ∧
 ∃ (x47 : Option Addr) (l48 c49 : Nat), w6.cell? ((a40.add ((s1.2.2).toNat * 6)).add 4) = some (.slice x47 l48 c49) ∧
 ∃ (x50 : Option Addr) (l51 c52 : Nat), w6.cell? ((a40.add ((s1.2.2).toNat * 6)).add 5) = some (.slice x50 l51 c52) ∧
 (CallR pg f_aqueductlaw5_Weight [(.agg #[(.int .i64 x41), (.int .i64 x42), (.string x43), (.slice x44 l45 c46), (.slice x47 l48 c49), (.slice x50 l51 c52)]), (.int .i64 (3000 : Int))] w6 (fun ch w => R (.panicked ch) w) fun v53 w54 =>
 ∃ y55 : Int, v53 = (.int .i64 y55) ∧
 X0 (s1.1, (IntKind.i64.wrap (s1.2.1 + y55)), (IntKind.i64.wrap (s1.2.2 + (1 : Int)))) w54)))))))
 ((Meet (σ := Bool) (fun J56 =>
 (cond (decide (((l_0l : Nat) : Int) ≤ most_1))
 (J56 (decide (s1.2.1 ≤ (8000 : Int))) w2)
 (J56 false w2)))
 (fun s57 w58 =>
 ∀ j59 : Nat → Value, R (.returned (.bool s57)) w58))))) (false, (0 : Int), (0 : Int)) w)
theorem e_aqueductlaw17_Docs (l_0 : Option Addr) (l_0l l_0c : Nat) (most_1 : Int) (w : World) (R : Ending → World → Prop) : funcX pg T bl Try.f7 [(.slice l_0 l_0l l_0c), (.int .i64 most_1)] w R = c_aqueductlaw17_Docs l_0 l_0l l_0c  most_1  w R := by kernel_rfl
theorem of_aqueductlaw17_Docs (l_0 : Option Addr) (l_0l l_0c : Nat) (most_1 : Int) {w : World} {R : Ending → World → Prop} (h : c_aqueductlaw17_Docs l_0 l_0l l_0c  most_1  w R) : Calls pg f_aqueductlaw17_Docs #[(.slice l_0 l_0l l_0c), (.int .i64 most_1)] w R :=
  funcX_of mixed tok blok Try.func7 (args := [(.slice l_0 l_0l l_0c), (.int .i64 most_1)]) (e_aqueductlaw17_Docs l_0 l_0l l_0c  most_1  w R) h
/-- aqueduct/window.Limit -/
def c_window_Limit (s_0 : Value) (n_1 : Int) (w : World) (R : Ending → World → Prop) : Prop :=
 (isNilIf s_0 fun q0 =>
 (one s_0
 ((New w (.cells #[s_0, (.int .i64 n_1), (.string (⟨#[]⟩ : ByteArray)), (.bool q0), (.func (.func f_Pwindow_window_first) #[] #[])] t_window_window (0, 0)) fun b1 w2 =>
 R (.returned (.iface t_Pwindow_window (.pointer (some (⟨b1, 0, none⟩ : Addr))))) w2))))
theorem e_window_Limit (s_0 : Value) (n_1 : Int) (w : World) (R : Ending → World → Prop) : funcX pg T bl Try.f8 [s_0, (.int .i64 n_1)] w R = c_window_Limit s_0  n_1  w R := by kernel_rfl
theorem of_window_Limit (s_0 : Value) (n_1 : Int) {w : World} {R : Ending → World → Prop} (h : c_window_Limit s_0  n_1  w R) : Calls pg f_window_Limit #[s_0, (.int .i64 n_1)] w R :=
  funcX_of mixed tok blok Try.func8 (args := [s_0, (.int .i64 n_1)]) (e_window_Limit s_0  n_1  w R) h
/-- aqueduct/aqueductref16.Stage -/
def c_aqueductref16_Stage (op_0 : ByteArray) (x_1x0 : Int) (x_1x1 : Int) (x_1x2 : ByteArray) (x_1x3 : Option Addr) (x_1x3l x_1x3c : Nat) (x_1x4 : Option Addr) (x_1x4l x_1x4c : Nat) (x_1x5 : Option Addr) (x_1x5l x_1x5c : Nat) (docs_2 : Option Addr) (docs_2l docs_2c : Nat) (e_3 : Int) (files_4 : Option Addr) (files_4l files_4c : Nat) (w : World) (R : Ending → World → Prop) : Prop :=
 (New w (.cells #[(.int .i64 x_1x0), (.int .i64 x_1x1), (.string x_1x2), (.slice x_1x3 x_1x3l x_1x3c), (.slice x_1x4 x_1x4l x_1x4c), (.slice x_1x5 x_1x5l x_1x5c)] t_api_Value (0, 0)) fun b0 w1 =>
 (cond (op_0.toList == (⟨#[36, 108, 105, 109, 105, 116]⟩ : ByteArray).toList)
 (∃ x2 : Int, w1.cell? ⟨b0, 1, none⟩ = some (.int .i64 x2) ∧
 (cond (decide (((docs_2l : Nat) : Int) ≥ x2))
 (∃ x3 : Int, w1.cell? ⟨b0, 1, none⟩ = some (.int .i64 x3) ∧
 (0 ≤ x3 ∧ x3 ≤ ((docs_2c : Nat) : Int)) ∧
 R (.returned (.tuple #[(.slice docs_2 (x3).toNat docs_2c), (.int .i64 (0 : Int))])) w1)
 (R (.returned (.tuple #[(.slice docs_2 docs_2l docs_2c), (.int .i64 e_3)])) w1)))
 ((cond (op_0.toList == (⟨#[36, 115, 107, 105, 112]⟩ : ByteArray).toList)
 (∃ x4 : Int, w1.cell? ⟨b0, 1, none⟩ = some (.int .i64 x4) ∧
 (cond (decide (((docs_2l : Nat) : Int) ≤ x4))
 (R (.returned (.tuple #[(.slice none 0 0), (.int .i64 e_3)])) w1)
 (∃ x5 : Int, w1.cell? ⟨b0, 1, none⟩ = some (.int .i64 x5) ∧
 (0 ≤ x5 ∧ x5 ≤ ((docs_2l : Nat) : Int)) ∧
 R (.returned (.tuple #[(.slice (if docs_2c = (x5).toNat then docs_2 else docs_2.map (·.add ((x5).toNat * 6))) (docs_2l - (x5).toNat) (docs_2c - (x5).toNat)), (.int .i64 e_3)])) w1)))
 ((cond (op_0.toList == (⟨#[36, 117, 110, 105, 111, 110, 87, 105, 116, 104]⟩ : ByteArray).toList)
 ((cond (e_3 != (0 : Int))
 (R (.returned (.tuple #[(.slice docs_2 docs_2l docs_2c), (.int .i64 e_3)])) w1)
 (∃ x6 : Int, w1.cell? ⟨b0, 0, none⟩ = some (.int .i64 x6) ∧
 ∃ x7 : Int, w1.cell? ⟨b0, 1, none⟩ = some (.int .i64 x7) ∧
 ∃ x8 : ByteArray, w1.cell? ⟨b0, 2, none⟩ = some (.string x8) ∧
 ∃ (x9 : Option Addr) (l10 c11 : Nat), w1.cell? ⟨b0, 3, none⟩ = some (.slice x9 l10 c11) ∧
 ∃ (x12 : Option Addr) (l13 c14 : Nat), w1.cell? ⟨b0, 4, none⟩ = some (.slice x12 l13 c14) ∧
 ∃ (x15 : Option Addr) (l16 c17 : Nat), w1.cell? ⟨b0, 5, none⟩ = some (.slice x15 l16 c17) ∧
 (CallR pg f_aqueductref16_unite [(.agg #[(.int .i64 x6), (.int .i64 x7), (.string x8), (.slice x9 l10 c11), (.slice x12 l13 c14), (.slice x15 l16 c17)]), (.slice docs_2 docs_2l docs_2c), (.slice files_4 files_4l files_4c)] w1 (fun ch w => R (.panicked ch) w) fun v18 w19 =>
 ∃ (y20 : Option Addr) (l21 c22 : Nat), ∃ y23 : Int, v18 = (.tuple #[(.slice y20 l21 c22), (.int .i64 y23)]) ∧
 R (.returned (.tuple #[(.slice y20 l21 c22), (.int .i64 y23)])) w19))))
 ((Meet (σ := Bool) (fun J24 =>
 (cond (op_0.toList == (⟨#[36, 109, 97, 116, 99, 104]⟩ : ByteArray).toList)
 (J24 true w1)
 ((cond (op_0.toList == (⟨#[36, 112, 114, 111, 106, 101, 99, 116]⟩ : ByteArray).toList)
 (J24 true w1)
 ((cond (op_0.toList == (⟨#[36, 97, 100, 100, 70, 105, 101, 108, 100, 115]⟩ : ByteArray).toList)
 (J24 true w1)
 ((cond (op_0.toList == (⟨#[36, 115, 101, 116]⟩ : ByteArray).toList)
 (J24 true w1)
 ((cond (op_0.toList == (⟨#[36, 117, 110, 115, 101, 116]⟩ : ByteArray).toList)
 (J24 true w1)
 ((cond (op_0.toList == (⟨#[36, 114, 101, 112, 108, 97, 99, 101, 82, 111, 111, 116]⟩ : ByteArray).toList)
 (J24 true w1)
 ((cond (op_0.toList == (⟨#[36, 117, 110, 119, 105, 110, 100]⟩ : ByteArray).toList)
 (J24 true w1)
 (J24 (op_0.toList == (⟨#[36, 108, 111, 111, 107, 117, 112]⟩ : ByteArray).toList) w1)))))))))))))))
 (fun s25 w26 =>
 ∀ j27 : Nat → Value, (cond s25
 ((Eng.Loop (σ := (Option Addr × Nat × Nat) × (Option Addr × Nat × Nat) × Int × Int) (fun X28 s29 w30 =>
 ∀ j31 : Nat → Value, (cond (decide (s29.2.2.2 < ((docs_2l : Nat) : Int)))
 ((Drew w30 fun w32 =>
 ∃ x33 : Int, w32.cell? ⟨b0, 0, none⟩ = some (.int .i64 x33) ∧
 ∃ x34 : Int, w32.cell? ⟨b0, 1, none⟩ = some (.int .i64 x34) ∧
 ∃ x35 : ByteArray, w32.cell? ⟨b0, 2, none⟩ = some (.string x35) ∧
 ∃ (x36 : Option Addr) (l37 c38 : Nat), w32.cell? ⟨b0, 3, none⟩ = some (.slice x36 l37 c38) ∧
 ∃ (x39 : Option Addr) (l40 c41 : Nat), w32.cell? ⟨b0, 4, none⟩ = some (.slice x39 l40 c41) ∧
 ∃ (x42 : Option Addr) (l43 c44 : Nat), w32.cell? ⟨b0, 5, none⟩ = some (.slice x42 l43 c44) ∧
 (withSome docs_2 fun (a45 : Addr) =>
 (0 ≤ s29.2.2.2 ∧ s29.2.2.2 < ((docs_2l : Nat) : Int)) ∧
 ∃ x46 : Int, w32.cell? (a45.add ((s29.2.2.2).toNat * 6)) = some (.int .i64 x46) ∧
 ∃ x47 : Int, w32.cell? ((a45.add ((s29.2.2.2).toNat * 6)).add 1) = some (.int .i64 x47) ∧
 ∃ x48 : ByteArray, w32.cell? ((a45.add ((s29.2.2.2).toNat * 6)).add 2) = some (.string x48) ∧
 ∃ (x49 : Option Addr) (l50 c51 : Nat), w32.cell? ((a45.add ((s29.2.2.2).toNat * 6)).add 3) = some (.slice x49 l50 c51) ∧
 ∃ (x52 : Option Addr) (l53 c54 : Nat), w32.cell? ((a45.add ((s29.2.2.2).toNat * 6)).add 4) = some (.slice x52 l53 c54) ∧
 ∃ (x55 : Option Addr) (l56 c57 : Nat), w32.cell? ((a45.add ((s29.2.2.2).toNat * 6)).add 5) = some (.slice x55 l56 c57) ∧
 (CallR pg f_aqueductref16_each [(.string op_0), (.agg #[(.int .i64 x33), (.int .i64 x34), (.string x35), (.slice x36 l37 c38), (.slice x39 l40 c41), (.slice x42 l43 c44)]), (.agg #[(.int .i64 x46), (.int .i64 x47), (.string x48), (.slice x49 l50 c51), (.slice x52 l53 c54), (.slice x55 l56 c57)]), (.slice files_4 files_4l files_4c)] w32 (fun ch w => R (.panicked ch) w) fun v58 w59 =>
 ∃ (y60 : Option Addr) (l61 c62 : Nat), ∃ y63 : Int, v58 = (.tuple #[(.slice y60 l61 c62), (.int .i64 y63)]) ∧
 (Prim pg (Builtin.append_ #[t_Sapi_Value, t_Sapi_Value] t_Sapi_Value #[(.slice s29.1.1 s29.1.2.1 s29.1.2.2), (.slice y60 l61 c62)]) w59 fun v64 w65 =>
 ∃ (y66 : Option Addr) (l67 c68 : Nat), v64 = (.slice y66 l67 c68) ∧
 (cond (y63 != (0 : Int))
 (R (.returned (.tuple #[(.slice y66 l67 c68), (.int .i64 y63)])) w65)
 (X28 ((y66, l67, c68), (s29.2.1.1, s29.2.1.2.1, s29.2.1.2.2), s29.2.2.1, (IntKind.i64.wrap (s29.2.2.2 + (1 : Int)))) w65)))))))
 (R (.returned (.tuple #[(.slice s29.1.1 s29.1.2.1 s29.1.2.2), (.int .i64 e_3)])) w30))) ((none, 0, 0), (none, 0, 0), (0 : Int), (0 : Int)) w26))
 ((cond (e_3 != (0 : Int))
 (R (.returned (.tuple #[(.slice none 0 0), (.int .i64 e_3)])) w26)
 ((cond (op_0.toList == (⟨#[36, 99, 111, 117, 110, 116]⟩ : ByteArray).toList)
 ((cond (((docs_2l : Nat) : Int) == (0 : Int))
 (R (.returned (.tuple #[(.slice none 0 0), (.int .i64 (0 : Int))])) w26)
 ((Drew w26 fun w69 =>
 ∃ x70 : ByteArray, w69.cell? ⟨b0, 2, none⟩ = some (.string x70) ∧
 (CallR pg f_aqueductref5_Of [(.int .i64 ((docs_2l : Nat) : Int))] w69 (fun ch w => R (.panicked ch) w) fun v71 w72 =>
 ∃ y73 : Int, ∃ y74 : Int, ∃ y75 : ByteArray, ∃ (y76 : Option Addr) (l77 c78 : Nat), ∃ (y79 : Option Addr) (l80 c81 : Nat), ∃ (y82 : Option Addr) (l83 c84 : Nat), v71 = (.agg #[(.int .i64 y73), (.int .i64 y74), (.string y75), (.slice y76 l77 c78), (.slice y79 l80 c81), (.slice y82 l83 c84)]) ∧
 (w72.cell? ⟨b0, 2, none⟩ = some (.string x70)) ∧ (New w72 (.cells #[(.string x70), (.int .i64 y73), (.int .i64 y74), (.string y75), (.slice y76 l77 c78), (.slice y79 l80 c81), (.slice y82 l83 c84)] t_api_Field (0, 0)) fun b85 w86 =>
 (New w86 (.cells #[(.int .i64 (6 : Int)), (.int .i64 (0 : Int)), (.string (⟨#[]⟩ : ByteArray)), (.slice none 0 0), (.slice (some (⟨b85, 0, none⟩ : Addr)) 1 1), (.slice none 0 0)] t_api_Value (0, 0)) fun b87 w88 =>
 R (.returned (.tuple #[(.slice (some (⟨b87, 0, none⟩ : Addr)) 1 1), (.int .i64 (0 : Int))])) w88)))))))
 ((cond (op_0.toList == (⟨#[36, 115, 111, 114, 116]⟩ : ByteArray).toList)
 (∃ x89 : Int, w26.cell? ⟨b0, 0, none⟩ = some (.int .i64 x89) ∧
 ∃ x90 : Int, w26.cell? ⟨b0, 1, none⟩ = some (.int .i64 x90) ∧
 ∃ x91 : ByteArray, w26.cell? ⟨b0, 2, none⟩ = some (.string x91) ∧
 ∃ (x92 : Option Addr) (l93 c94 : Nat), w26.cell? ⟨b0, 3, none⟩ = some (.slice x92 l93 c94) ∧
 ∃ (x95 : Option Addr) (l96 c97 : Nat), w26.cell? ⟨b0, 4, none⟩ = some (.slice x95 l96 c97) ∧
 ∃ (x98 : Option Addr) (l99 c100 : Nat), w26.cell? ⟨b0, 5, none⟩ = some (.slice x98 l99 c100) ∧
 (CallR pg f_aqueductref16_Sort [(.agg #[(.int .i64 x89), (.int .i64 x90), (.string x91), (.slice x92 l93 c94), (.slice x95 l96 c97), (.slice x98 l99 c100)]), (.slice docs_2 docs_2l docs_2c)] w26 (fun ch w => R (.panicked ch) w) fun v101 w102 =>
 ∃ (y103 : Option Addr) (l104 c105 : Nat), v101 = (.slice y103 l104 c105) ∧
 R (.returned (.tuple #[(.slice y103 l104 c105), (.int .i64 (0 : Int))])) w102))
 ((cond (op_0.toList == (⟨#[36, 103, 114, 111, 117, 112]⟩ : ByteArray).toList)
 ((Drew w26 fun w106 =>
 ∃ x107 : Int, w106.cell? ⟨b0, 0, none⟩ = some (.int .i64 x107) ∧
 ∃ x108 : Int, w106.cell? ⟨b0, 1, none⟩ = some (.int .i64 x108) ∧
 ∃ x109 : ByteArray, w106.cell? ⟨b0, 2, none⟩ = some (.string x109) ∧
 ∃ (x110 : Option Addr) (l111 c112 : Nat), w106.cell? ⟨b0, 3, none⟩ = some (.slice x110 l111 c112) ∧
 ∃ (x113 : Option Addr) (l114 c115 : Nat), w106.cell? ⟨b0, 4, none⟩ = some (.slice x113 l114 c115) ∧
 ∃ (x116 : Option Addr) (l117 c118 : Nat), w106.cell? ⟨b0, 5, none⟩ = some (.slice x116 l117 c118) ∧
 ∃ x119 : Int, w106.cell? ⟨b0, 0, none⟩ = some (.int .i64 x119) ∧
 ∃ x120 : Int, w106.cell? ⟨b0, 1, none⟩ = some (.int .i64 x120) ∧
 ∃ x121 : ByteArray, w106.cell? ⟨b0, 2, none⟩ = some (.string x121) ∧
 ∃ (x122 : Option Addr) (l123 c124 : Nat), w106.cell? ⟨b0, 3, none⟩ = some (.slice x122 l123 c124) ∧
 ∃ (x125 : Option Addr) (l126 c127 : Nat), w106.cell? ⟨b0, 4, none⟩ = some (.slice x125 l126 c127) ∧
 ∃ (x128 : Option Addr) (l129 c130 : Nat), w106.cell? ⟨b0, 5, none⟩ = some (.slice x128 l129 c130) ∧
 (CallR pg f_aqueductref5_Field [(.agg #[(.int .i64 x119), (.int .i64 x120), (.string x121), (.slice x122 l123 c124), (.slice x125 l126 c127), (.slice x128 l129 c130)]), (.string (⟨#[95, 105, 100]⟩ : ByteArray))] w106 (fun ch w => R (.panicked ch) w) fun v131 w132 =>
 ∃ y133 : Int, ∃ y134 : Int, ∃ y135 : ByteArray, ∃ (y136 : Option Addr) (l137 c138 : Nat), ∃ (y139 : Option Addr) (l140 c141 : Nat), ∃ (y142 : Option Addr) (l143 c144 : Nat), v131 = (.agg #[(.int .i64 y133), (.int .i64 y134), (.string y135), (.slice y136 l137 c138), (.slice y139 l140 c141), (.slice y142 l143 c144)]) ∧
 (w132.cell? ⟨b0, 0, none⟩ = some (.int .i64 x107) ∧ w132.cell? ⟨b0, 1, none⟩ = some (.int .i64 x108) ∧ w132.cell? ⟨b0, 2, none⟩ = some (.string x109) ∧ w132.cell? ⟨b0, 3, none⟩ = some (.slice x110 l111 c112) ∧ w132.cell? ⟨b0, 4, none⟩ = some (.slice x113 l114 c115) ∧ w132.cell? ⟨b0, 5, none⟩ = some (.slice x116 l117 c118)) ∧ (CallR pg f_aqueductref16_groups [(.agg #[(.int .i64 x107), (.int .i64 x108), (.string x109), (.slice x110 l111 c112), (.slice x113 l114 c115), (.slice x116 l117 c118)]), (.agg #[(.int .i64 y133), (.int .i64 y134), (.string y135), (.slice y136 l137 c138), (.slice y139 l140 c141), (.slice y142 l143 c144)]), (.slice docs_2 docs_2l docs_2c)] w132 (fun ch w => R (.panicked ch) w) fun v145 w146 =>
 ∃ (y147 : Option Addr) (l148 c149 : Nat), ∃ y150 : Int, v145 = (.tuple #[(.slice y147 l148 c149), (.int .i64 y150)]) ∧
 R (.returned (.tuple #[(.slice y147 l148 c149), (.int .i64 y150)])) w146))))
 ((cond (op_0.toList == (⟨#[36, 115, 111, 114, 116, 66, 121, 67, 111, 117, 110, 116]⟩ : ByteArray).toList)
 ((New w26 (.cells #[(.string (⟨#[36, 99, 111, 117, 110, 116]⟩ : ByteArray)), (.int .i64 (6 : Int)), (.int .i64 (0 : Int)), (.string (⟨#[]⟩ : ByteArray)), (.slice none 0 0), (.slice none 0 0), (.slice none 0 0)] t_api_Field (0, 0)) fun b151 w152 =>
 (New w152 (.cells #[(.string (⟨#[99, 111, 117, 110, 116]⟩ : ByteArray)), (.int .i64 (6 : Int)), (.int .i64 (0 : Int)), (.string (⟨#[]⟩ : ByteArray)), (.slice none 0 0), (.slice (some (⟨b151, 0, none⟩ : Addr)) 1 1), (.slice none 0 0)] t_api_Field (0, 0)) fun b153 w154 =>
 (New w154 (.cells #[(.int .i64 (0 : Int)), (.int .i64 (0 : Int)), (.string (⟨#[]⟩ : ByteArray)), (.slice none 0 0), (.slice none 0 0), (.slice none 0 0)] t_api_Value (0, 0)) fun b155 w156 =>
 (St w156 ⟨b155, 0, none⟩ (.int .i64 (6 : Int)) fun w157 =>
 (St w157 ⟨b155, 1, none⟩ (.int .i64 (0 : Int)) fun w158 =>
 (St w158 ⟨b155, 2, none⟩ (.string (⟨#[]⟩ : ByteArray)) fun w159 =>
 (St w159 ⟨b155, 3, none⟩ (.slice none 0 0) fun w160 =>
 (St w160 ⟨b155, 4, none⟩ (.slice (some (⟨b153, 0, none⟩ : Addr)) 1 1) fun w161 =>
 (St w161 ⟨b155, 5, none⟩ (.slice none 0 0) fun w162 =>
 ∃ x163 : Int, w162.cell? ⟨b155, 0, none⟩ = some (.int .i64 x163) ∧
 ∃ x164 : Int, w162.cell? ⟨b155, 1, none⟩ = some (.int .i64 x164) ∧
 ∃ x165 : ByteArray, w162.cell? ⟨b155, 2, none⟩ = some (.string x165) ∧
 ∃ (x166 : Option Addr) (l167 c168 : Nat), w162.cell? ⟨b155, 3, none⟩ = some (.slice x166 l167 c168) ∧
 ∃ (x169 : Option Addr) (l170 c171 : Nat), w162.cell? ⟨b155, 4, none⟩ = some (.slice x169 l170 c171) ∧
 ∃ (x172 : Option Addr) (l173 c174 : Nat), w162.cell? ⟨b155, 5, none⟩ = some (.slice x172 l173 c174) ∧
 ∃ x175 : Int, w162.cell? ⟨b0, 0, none⟩ = some (.int .i64 x175) ∧
 ∃ x176 : Int, w162.cell? ⟨b0, 1, none⟩ = some (.int .i64 x176) ∧
 ∃ x177 : ByteArray, w162.cell? ⟨b0, 2, none⟩ = some (.string x177) ∧
 ∃ (x178 : Option Addr) (l179 c180 : Nat), w162.cell? ⟨b0, 3, none⟩ = some (.slice x178 l179 c180) ∧
 ∃ (x181 : Option Addr) (l182 c183 : Nat), w162.cell? ⟨b0, 4, none⟩ = some (.slice x181 l182 c183) ∧
 ∃ (x184 : Option Addr) (l185 c186 : Nat), w162.cell? ⟨b0, 5, none⟩ = some (.slice x184 l185 c186) ∧
 (CallR pg f_aqueductref16_groups [(.agg #[(.int .i64 x163), (.int .i64 x164), (.string x165), (.slice x166 l167 c168), (.slice x169 l170 c171), (.slice x172 l173 c174)]), (.agg #[(.int .i64 x175), (.int .i64 x176), (.string x177), (.slice x178 l179 c180), (.slice x181 l182 c183), (.slice x184 l185 c186)]), (.slice docs_2 docs_2l docs_2c)] w162 (fun ch w => R (.panicked ch) w) fun v187 w188 =>
 ∃ (y189 : Option Addr) (l190 c191 : Nat), ∃ y192 : Int, v187 = (.tuple #[(.slice y189 l190 c191), (.int .i64 y192)]) ∧
 (cond (y192 != (0 : Int))
 (R (.returned (.tuple #[(.slice none 0 0), (.int .i64 y192)])) w188)
 ((New w188 (.cells #[(.string (⟨#[99, 111, 117, 110, 116]⟩ : ByteArray)), (.int .i64 (3 : Int)), (.int .i64 (-1 : Int)), (.string (⟨#[]⟩ : ByteArray)), (.slice none 0 0), (.slice none 0 0), (.slice none 0 0)] t_api_Field (0, 0)) fun b193 w194 =>
 (CallR pg f_aqueductref16_Sort [(.agg #[(.int .i64 (6 : Int)), (.int .i64 (0 : Int)), (.string (⟨#[]⟩ : ByteArray)), (.slice none 0 0), (.slice (some (⟨b193, 0, none⟩ : Addr)) 1 1), (.slice none 0 0)]), (.slice y189 l190 c191)] w194 (fun ch w => R (.panicked ch) w) fun v195 w196 =>
 ∃ (y197 : Option Addr) (l198 c199 : Nat), v195 = (.slice y197 l198 c199) ∧
 R (.returned (.tuple #[(.slice y197 l198 c199), (.int .i64 (0 : Int))])) w196)))))))))))))))
 ((cond (op_0.toList == (⟨#[36, 98, 117, 99, 107, 101, 116]⟩ : ByteArray).toList)
 (∃ x200 : Int, w26.cell? ⟨b0, 0, none⟩ = some (.int .i64 x200) ∧
 ∃ x201 : Int, w26.cell? ⟨b0, 1, none⟩ = some (.int .i64 x201) ∧
 ∃ x202 : ByteArray, w26.cell? ⟨b0, 2, none⟩ = some (.string x202) ∧
 ∃ (x203 : Option Addr) (l204 c205 : Nat), w26.cell? ⟨b0, 3, none⟩ = some (.slice x203 l204 c205) ∧
 ∃ (x206 : Option Addr) (l207 c208 : Nat), w26.cell? ⟨b0, 4, none⟩ = some (.slice x206 l207 c208) ∧
 ∃ (x209 : Option Addr) (l210 c211 : Nat), w26.cell? ⟨b0, 5, none⟩ = some (.slice x209 l210 c211) ∧
 (CallR pg f_aqueductref16_buckets [(.agg #[(.int .i64 x200), (.int .i64 x201), (.string x202), (.slice x203 l204 c205), (.slice x206 l207 c208), (.slice x209 l210 c211)]), (.slice docs_2 docs_2l docs_2c)] w26 (fun ch w => R (.panicked ch) w) fun v212 w213 =>
 ∃ (y214 : Option Addr) (l215 c216 : Nat), ∃ y217 : Int, v212 = (.tuple #[(.slice y214 l215 c216), (.int .i64 y217)]) ∧
 R (.returned (.tuple #[(.slice y214 l215 c216), (.int .i64 y217)])) w213))
 ((cond (op_0.toList == (⟨#[36, 102, 97, 99, 101, 116]⟩ : ByteArray).toList)
 ((New w26 (.cells #[(.int .i64 (0 : Int)), (.int .i64 (0 : Int)), (.string (⟨#[]⟩ : ByteArray)), (.slice none 0 0), (.slice none 0 0), (.slice none 0 0)] t_api_Value (0, 0)) fun b218 w219 =>
 (St w219 ⟨b218, 0, none⟩ (.int .i64 (6 : Int)) fun w220 =>
 (St w220 ⟨b218, 1, none⟩ (.int .i64 (0 : Int)) fun w221 =>
 (St w221 ⟨b218, 2, none⟩ (.string (⟨#[]⟩ : ByteArray)) fun w222 =>
 (St w222 ⟨b218, 3, none⟩ (.slice none 0 0) fun w223 =>
 (St w223 ⟨b218, 4, none⟩ (.slice none 0 0) fun w224 =>
 (St w224 ⟨b218, 5, none⟩ (.slice none 0 0) fun w225 =>
 (Eng.Loop (σ := (Option Addr × Nat × Nat) × Int × Int) (fun X226 s227 w228 =>
 ∀ j229 : Nat → Value, ∃ (x230 : Option Addr) (l231 c232 : Nat), w228.cell? ⟨b0, 4, none⟩ = some (.slice x230 l231 c232) ∧
 (cond (decide (s227.2.2 < ((l231 : Nat) : Int)))
 (∃ (x233 : Option Addr) (l234 c235 : Nat), w228.cell? ⟨b0, 4, none⟩ = some (.slice x233 l234 c235) ∧
 (withSome x233 fun (a236 : Addr) =>
 (0 ≤ s227.2.2 ∧ s227.2.2 < ((l234 : Nat) : Int)) ∧
 ∃ (x237 : Option Addr) (l238 c239 : Nat), w228.cell? (((a236.add ((s227.2.2).toNat * 7)).add 1).add 5) = some (.slice x237 l238 c239) ∧
 (CallR pg f_aqueductref16_Run [(.slice x237 l238 c239), (.slice docs_2 docs_2l docs_2c), (.int .i64 (0 : Int)), (.slice files_4 files_4l files_4c)] w228 (fun ch w => R (.panicked ch) w) fun v240 w241 =>
 ∃ (y242 : Option Addr) (l243 c244 : Nat), ∃ y245 : Int, v240 = (.tuple #[(.slice y242 l243 c244), (.int .i64 y245)]) ∧
 (cond (y245 != (0 : Int))
 (R (.returned (.tuple #[(.slice none 0 0), (.int .i64 y245)])) w241)
 ((Drew w241 fun w246 =>
 ∃ (x247 : Option Addr) (l248 c249 : Nat), w246.cell? ⟨b218, 4, none⟩ = some (.slice x247 l248 c249) ∧
 ∃ (x250 : Option Addr) (l251 c252 : Nat), w246.cell? ⟨b0, 4, none⟩ = some (.slice x250 l251 c252) ∧
 (withSome x250 fun (a253 : Addr) =>
 (0 ≤ s227.2.2 ∧ s227.2.2 < ((l251 : Nat) : Int)) ∧
 ∃ x254 : ByteArray, w246.cell? (a253.add ((s227.2.2).toNat * 7)) = some (.string x254) ∧
 (New w246 (.cells #[(.string x254), (.int .i64 (7 : Int)), (.int .i64 (0 : Int)), (.string (⟨#[]⟩ : ByteArray)), (.slice none 0 0), (.slice none 0 0), (.slice y242 l243 c244)] t_api_Field (0, 0)) fun b255 w256 =>
 (w256.cell? ⟨b218, 4, none⟩ = some (.slice x247 l248 c249)) ∧ (Prim pg (Builtin.append_ #[t_Sapi_Field, t_Sapi_Field] t_Sapi_Field #[(.slice x247 l248 c249), (.slice (some (⟨b255, 0, none⟩ : Addr)) 1 1)]) w256 fun v257 w258 =>
 ∃ (y259 : Option Addr) (l260 c261 : Nat), v257 = (.slice y259 l260 c261) ∧
 (St w258 ⟨b218, 4, none⟩ (.slice y259 l260 c261) fun w262 =>
 X226 ((s227.1.1, s227.1.2.1, s227.1.2.2), s227.2.1, (IntKind.i64.wrap (s227.2.2 + (1 : Int)))) w262))))))))))
 (∃ x263 : Int, w228.cell? ⟨b218, 0, none⟩ = some (.int .i64 x263) ∧
 ∃ x264 : Int, w228.cell? ⟨b218, 1, none⟩ = some (.int .i64 x264) ∧
 ∃ x265 : ByteArray, w228.cell? ⟨b218, 2, none⟩ = some (.string x265) ∧
 ∃ (x266 : Option Addr) (l267 c268 : Nat), w228.cell? ⟨b218, 3, none⟩ = some (.slice x266 l267 c268) ∧
 ∃ (x269 : Option Addr) (l270 c271 : Nat), w228.cell? ⟨b218, 4, none⟩ = some (.slice x269 l270 c271) ∧
 ∃ (x272 : Option Addr) (l273 c274 : Nat), w228.cell? ⟨b218, 5, none⟩ = some (.slice x272 l273 c274) ∧
 (CallR pg f_aqueductref16_Check [(.agg #[(.int .i64 x263), (.int .i64 x264), (.string x265), (.slice x266 l267 c268), (.slice x269 l270 c271), (.slice x272 l273 c274)])] w228 (fun ch w => R (.panicked ch) w) fun v275 w276 =>
 ∃ y277 : Int, v275 = (.int .i64 y277) ∧
 (cond (y277 != (0 : Int))
 (R (.returned (.tuple #[(.slice none 0 0), (.int .i64 y277)])) w276)
 (∃ x278 : Int, w276.cell? ⟨b218, 0, none⟩ = some (.int .i64 x278) ∧
 ∃ x279 : Int, w276.cell? ⟨b218, 1, none⟩ = some (.int .i64 x279) ∧
 ∃ x280 : ByteArray, w276.cell? ⟨b218, 2, none⟩ = some (.string x280) ∧
 ∃ (x281 : Option Addr) (l282 c283 : Nat), w276.cell? ⟨b218, 3, none⟩ = some (.slice x281 l282 c283) ∧
 ∃ (x284 : Option Addr) (l285 c286 : Nat), w276.cell? ⟨b218, 4, none⟩ = some (.slice x284 l285 c286) ∧
 ∃ (x287 : Option Addr) (l288 c289 : Nat), w276.cell? ⟨b218, 5, none⟩ = some (.slice x287 l288 c289) ∧
 (New w276 (.cells #[(.int .i64 x278), (.int .i64 x279), (.string x280), (.slice x281 l282 c283), (.slice x284 l285 c286), (.slice x287 l288 c289)] t_api_Value (0, 0)) fun b290 w291 =>
 R (.returned (.tuple #[(.slice (some (⟨b290, 0, none⟩ : Addr)) 1 1), (.int .i64 (0 : Int))])) w291))))))) ((none, 0, 0), (0 : Int), (0 : Int)) w225)))))))))
 (R (.returned (.tuple #[(.slice none 0 0), (.int .i64 (14 : Int))])) w26)))))))))))))))))))))))))
theorem e_aqueductref16_Stage (op_0 : ByteArray) (x_1x0 : Int) (x_1x1 : Int) (x_1x2 : ByteArray) (x_1x3 : Option Addr) (x_1x3l x_1x3c : Nat) (x_1x4 : Option Addr) (x_1x4l x_1x4c : Nat) (x_1x5 : Option Addr) (x_1x5l x_1x5c : Nat) (docs_2 : Option Addr) (docs_2l docs_2c : Nat) (e_3 : Int) (files_4 : Option Addr) (files_4l files_4c : Nat) (w : World) (R : Ending → World → Prop) : funcX pg T bl Try.f13 [(.string op_0), (.agg #[(.int .i64 x_1x0), (.int .i64 x_1x1), (.string x_1x2), (.slice x_1x3 x_1x3l x_1x3c), (.slice x_1x4 x_1x4l x_1x4c), (.slice x_1x5 x_1x5l x_1x5c)]), (.slice docs_2 docs_2l docs_2c), (.int .i64 e_3), (.slice files_4 files_4l files_4c)] w R = c_aqueductref16_Stage op_0  x_1x0  x_1x1  x_1x2  x_1x3 x_1x3l x_1x3c  x_1x4 x_1x4l x_1x4c  x_1x5 x_1x5l x_1x5c  docs_2 docs_2l docs_2c  e_3  files_4 files_4l files_4c  w R := by kernel_rfl
theorem of_aqueductref16_Stage (op_0 : ByteArray) (x_1x0 : Int) (x_1x1 : Int) (x_1x2 : ByteArray) (x_1x3 : Option Addr) (x_1x3l x_1x3c : Nat) (x_1x4 : Option Addr) (x_1x4l x_1x4c : Nat) (x_1x5 : Option Addr) (x_1x5l x_1x5c : Nat) (docs_2 : Option Addr) (docs_2l docs_2c : Nat) (e_3 : Int) (files_4 : Option Addr) (files_4l files_4c : Nat) {w : World} {R : Ending → World → Prop} (h : c_aqueductref16_Stage op_0  x_1x0  x_1x1  x_1x2  x_1x3 x_1x3l x_1x3c  x_1x4 x_1x4l x_1x4c  x_1x5 x_1x5l x_1x5c  docs_2 docs_2l docs_2c  e_3  files_4 files_4l files_4c  w R) : Calls pg f_aqueductref16_Stage #[(.string op_0), (.agg #[(.int .i64 x_1x0), (.int .i64 x_1x1), (.string x_1x2), (.slice x_1x3 x_1x3l x_1x3c), (.slice x_1x4 x_1x4l x_1x4c), (.slice x_1x5 x_1x5l x_1x5c)]), (.slice docs_2 docs_2l docs_2c), (.int .i64 e_3), (.slice files_4 files_4l files_4c)] w R :=
  funcX_of mixed tok blok Try.func13 (args := [(.string op_0), (.agg #[(.int .i64 x_1x0), (.int .i64 x_1x1), (.string x_1x2), (.slice x_1x3 x_1x3l x_1x3c), (.slice x_1x4 x_1x4l x_1x4c), (.slice x_1x5 x_1x5l x_1x5c)]), (.slice docs_2 docs_2l docs_2c), (.int .i64 e_3), (.slice files_4 files_4l files_4c)]) (e_aqueductref16_Stage op_0  x_1x0  x_1x1  x_1x2  x_1x3 x_1x3l x_1x3c  x_1x4 x_1x4l x_1x4c  x_1x5 x_1x5l x_1x5c  docs_2 docs_2l docs_2c  e_3  files_4 files_4l files_4c  w R) h
/-- aqueduct/aqueductlaw17.Ends -/
def c_aqueductlaw17_Ends (s_0 : Value) (w : World) (R : Ending → World → Prop) : Prop :=
 (CallI pg s_0 "Next" [] w (fun ch w => R (.panicked ch) w) fun v0 w1 =>
 ∃ y2 : Int, ∃ y3 : Int, ∃ y4 : ByteArray, ∃ (y5 : Option Addr) (l6 c7 : Nat), ∃ (y8 : Option Addr) (l9 c10 : Nat), ∃ (y11 : Option Addr) (l12 c13 : Nat), ∃ y14 : Bool, ∃ y15 : Int, v0 = (.tuple #[(.agg #[(.int .i64 y2), (.int .i64 y3), (.string y4), (.slice y5 l6 c7), (.slice y8 l9 c10), (.slice y11 l12 c13)]), (.bool y14), (.int .i64 y15)]) ∧
 (New w1 (.cells #[(.int .i64 (0 : Int)), (.int .i64 (0 : Int)), (.string (⟨#[]⟩ : ByteArray)), (.slice none 0 0), (.slice none 0 0), (.slice none 0 0)] t_api_Value (0, 0)) fun b16 w17 =>
 (St w17 ⟨b16, 0, none⟩ (.int .i64 y2) fun w18 =>
 (St w18 ⟨b16, 1, none⟩ (.int .i64 y3) fun w19 =>
 (St w19 ⟨b16, 2, none⟩ (.string y4) fun w20 =>
 (St w20 ⟨b16, 3, none⟩ (.slice y5 l6 c7) fun w21 =>
 (St w21 ⟨b16, 4, none⟩ (.slice y8 l9 c10) fun w22 =>
 (St w22 ⟨b16, 5, none⟩ (.slice y11 l12 c13) fun w23 =>
 (CallI pg s_0 "Close" [] w23 (fun ch w => R (.panicked ch) w) fun v24 w25 =>
 v24 = (.tuple #[]) ∧
 (CallI pg s_0 "Next" [] w25 (fun ch w => R (.panicked ch) w) fun v26 w27 =>
 ∃ y28 : Int, ∃ y29 : Int, ∃ y30 : ByteArray, ∃ (y31 : Option Addr) (l32 c33 : Nat), ∃ (y34 : Option Addr) (l35 c36 : Nat), ∃ (y37 : Option Addr) (l38 c39 : Nat), ∃ y40 : Bool, ∃ y41 : Int, v26 = (.tuple #[(.agg #[(.int .i64 y28), (.int .i64 y29), (.string y30), (.slice y31 l32 c33), (.slice y34 l35 c36), (.slice y37 l38 c39)]), (.bool y40), (.int .i64 y41)]) ∧
 (New w27 (.cells #[(.int .i64 (0 : Int)), (.int .i64 (0 : Int)), (.string (⟨#[]⟩ : ByteArray)), (.slice none 0 0), (.slice none 0 0), (.slice none 0 0)] t_api_Value (0, 0)) fun b42 w43 =>
 (St w43 ⟨b42, 0, none⟩ (.int .i64 y28) fun w44 =>
 (St w44 ⟨b42, 1, none⟩ (.int .i64 y29) fun w45 =>
 (St w45 ⟨b42, 2, none⟩ (.string y30) fun w46 =>
 (St w46 ⟨b42, 3, none⟩ (.slice y31 l32 c33) fun w47 =>
 (St w47 ⟨b42, 4, none⟩ (.slice y34 l35 c36) fun w48 =>
 (St w48 ⟨b42, 5, none⟩ (.slice y37 l38 c39) fun w49 =>
 (CallI pg s_0 "Close" [] w49 (fun ch w => R (.panicked ch) w) fun v50 w51 =>
 v50 = (.tuple #[]) ∧
 (Meet (σ := Bool) (fun J52 =>
 (cond (!y14)
 ((cond (!y40)
 ((cond (y15 == (0 : Int))
 (J52 (y41 == (0 : Int)) w51)
 (J52 false w51)))
 (J52 false w51)))
 (J52 false w51)))
 (fun s53 w54 =>
 ∀ j55 : Nat → Value, R (.returned (.bool s53)) w54))))))))))))))))))))
theorem e_aqueductlaw17_Ends (s_0 : Value) (w : World) (R : Ending → World → Prop) : funcX pg T bl Try.f15 [s_0] w R = c_aqueductlaw17_Ends s_0  w R := by kernel_rfl
theorem of_aqueductlaw17_Ends (s_0 : Value) {w : World} {R : Ending → World → Prop} (h : c_aqueductlaw17_Ends s_0  w R) : Calls pg f_aqueductlaw17_Ends #[s_0] w R :=
  funcX_of mixed tok blok Try.func15 (args := [s_0]) (e_aqueductlaw17_Ends s_0  w R) h
/-- aqueduct/aqueductlaw5.Small -/
def c_aqueductlaw5_Small (v_0x0 : Int) (v_0x1 : Int) (v_0x2 : ByteArray) (v_0x3 : Option Addr) (v_0x3l v_0x3c : Nat) (v_0x4 : Option Addr) (v_0x4l v_0x4c : Nat) (v_0x5 : Option Addr) (v_0x5l v_0x5c : Nat) (w : World) (R : Ending → World → Prop) : Prop :=
 (New w (.cells #[(.int .i64 v_0x0), (.int .i64 v_0x1), (.string v_0x2), (.slice v_0x3 v_0x3l v_0x3c), (.slice v_0x4 v_0x4l v_0x4c), (.slice v_0x5 v_0x5l v_0x5c)] t_api_Value (0, 0)) fun b0 w1 =>
 (Meet (σ := Bool) (fun J2 =>
 ∃ x5 : Int, w1.cell? ⟨b0, 0, none⟩ = some (.int .i64 x5) ∧
 ∃ x6 : Int, w1.cell? ⟨b0, 1, none⟩ = some (.int .i64 x6) ∧
 ∃ x7 : ByteArray, w1.cell? ⟨b0, 2, none⟩ = some (.string x7) ∧
 ∃ (x8 : Option Addr) (l9 c10 : Nat), w1.cell? ⟨b0, 3, none⟩ = some (.slice x8 l9 c10) ∧
 ∃ (x11 : Option Addr) (l12 c13 : Nat), w1.cell? ⟨b0, 4, none⟩ = some (.slice x11 l12 c13) ∧
 ∃ (x14 : Option Addr) (l15 c16 : Nat), w1.cell? ⟨b0, 5, none⟩ = some (.slice x14 l15 c16) ∧
 (CallR pg f_aqueductlaw5_Weight [(.agg #[(.int .i64 x5), (.int .i64 x6), (.string x7), (.slice x8 l9 c10), (.slice x11 l12 c13), (.slice x14 l15 c16)]), (.int .i64 (3000 : Int))] w1 (fun ch w => R (.panicked ch) w) fun v17 w18 =>
 ∃ y19 : Int, v17 = (.int .i64 y19) ∧
 (cond (decide (y19 ≤ (3000 : Int)))
 (∃ x20 : Int, w18.cell? ⟨b0, 0, none⟩ = some (.int .i64 x20) ∧
 ∃ x21 : Int, w18.cell? ⟨b0, 1, none⟩ = some (.int .i64 x21) ∧
 ∃ x22 : ByteArray, w18.cell? ⟨b0, 2, none⟩ = some (.string x22) ∧
 ∃ (x23 : Option Addr) (l24 c25 : Nat), w18.cell? ⟨b0, 3, none⟩ = some (.slice x23 l24 c25) ∧
 ∃ (x26 : Option Addr) (l27 c28 : Nat), w18.cell? ⟨b0, 4, none⟩ = some (.slice x26 l27 c28) ∧
 ∃ (x29 : Option Addr) (l30 c31 : Nat), w18.cell? ⟨b0, 5, none⟩ = some (.slice x29 l30 c31) ∧
 (CallR pg f_aqueductlaw5_Shallow [(.agg #[(.int .i64 x20), (.int .i64 x21), (.string x22), (.slice x23 l24 c25), (.slice x26 l27 c28), (.slice x29 l30 c31)]), (.int .i64 (60 : Int))] w18 (fun ch w => R (.panicked ch) w) fun v32 w33 =>
 ∃ y34 : Bool, v32 = (.bool y34) ∧
 J2 y34 w33))
 (J2 false w18))))
 (fun s3 w4 =>
 ∀ j35 : Nat → Value, R (.returned (.bool s3)) w4)))
theorem e_aqueductlaw5_Small (v_0x0 : Int) (v_0x1 : Int) (v_0x2 : ByteArray) (v_0x3 : Option Addr) (v_0x3l v_0x3c : Nat) (v_0x4 : Option Addr) (v_0x4l v_0x4c : Nat) (v_0x5 : Option Addr) (v_0x5l v_0x5c : Nat) (w : World) (R : Ending → World → Prop) : funcX pg T bl Try.f17 [(.agg #[(.int .i64 v_0x0), (.int .i64 v_0x1), (.string v_0x2), (.slice v_0x3 v_0x3l v_0x3c), (.slice v_0x4 v_0x4l v_0x4c), (.slice v_0x5 v_0x5l v_0x5c)])] w R = c_aqueductlaw5_Small v_0x0  v_0x1  v_0x2  v_0x3 v_0x3l v_0x3c  v_0x4 v_0x4l v_0x4c  v_0x5 v_0x5l v_0x5c  w R := by kernel_rfl
theorem of_aqueductlaw5_Small (v_0x0 : Int) (v_0x1 : Int) (v_0x2 : ByteArray) (v_0x3 : Option Addr) (v_0x3l v_0x3c : Nat) (v_0x4 : Option Addr) (v_0x4l v_0x4c : Nat) (v_0x5 : Option Addr) (v_0x5l v_0x5c : Nat) {w : World} {R : Ending → World → Prop} (h : c_aqueductlaw5_Small v_0x0  v_0x1  v_0x2  v_0x3 v_0x3l v_0x3c  v_0x4 v_0x4l v_0x4c  v_0x5 v_0x5l v_0x5c  w R) : Calls pg f_aqueductlaw5_Small #[(.agg #[(.int .i64 v_0x0), (.int .i64 v_0x1), (.string v_0x2), (.slice v_0x3 v_0x3l v_0x3c), (.slice v_0x4 v_0x4l v_0x4c), (.slice v_0x5 v_0x5l v_0x5c)])] w R :=
  funcX_of mixed tok blok Try.func17 (args := [(.agg #[(.int .i64 v_0x0), (.int .i64 v_0x1), (.string v_0x2), (.slice v_0x3 v_0x3l v_0x3c), (.slice v_0x4 v_0x4l v_0x4c), (.slice v_0x5 v_0x5l v_0x5c)])]) (e_aqueductlaw5_Small v_0x0  v_0x1  v_0x2  v_0x3 v_0x3l v_0x3c  v_0x4 v_0x4l v_0x4c  v_0x5 v_0x5l v_0x5c  w R) h
/-- aqueduct/aqueductref5.May -/
def c_aqueductref5_May (v_0x0 : Int) (v_0x1 : Int) (v_0x2 : ByteArray) (v_0x3 : Option Addr) (v_0x3l v_0x3c : Nat) (v_0x4 : Option Addr) (v_0x4l v_0x4c : Nat) (v_0x5 : Option Addr) (v_0x5l v_0x5c : Nat) (w : World) (R : Ending → World → Prop) : Prop :=
 (New w (.cells #[(.int .i64 v_0x0), (.int .i64 v_0x1), (.string v_0x2), (.slice v_0x3 v_0x3l v_0x3c), (.slice v_0x4 v_0x4l v_0x4c), (.slice v_0x5 v_0x5l v_0x5c)] t_api_Value (0, 0)) fun b0 w1 =>
 ∃ x2 : Int, w1.cell? ⟨b0, 0, none⟩ = some (.int .i64 x2) ∧
 ∃ x3 : Int, w1.cell? ⟨b0, 1, none⟩ = some (.int .i64 x3) ∧
 ∃ x4 : ByteArray, w1.cell? ⟨b0, 2, none⟩ = some (.string x4) ∧
 ∃ (x5 : Option Addr) (l6 c7 : Nat), w1.cell? ⟨b0, 3, none⟩ = some (.slice x5 l6 c7) ∧
 ∃ (x8 : Option Addr) (l9 c10 : Nat), w1.cell? ⟨b0, 4, none⟩ = some (.slice x8 l9 c10) ∧
 ∃ (x11 : Option Addr) (l12 c13 : Nat), w1.cell? ⟨b0, 5, none⟩ = some (.slice x11 l12 c13) ∧
 (CallR pg f_aqueductref5_Encode [(.agg #[(.int .i64 x2), (.int .i64 x3), (.string x4), (.slice x5 l6 c7), (.slice x8 l9 c10), (.slice x11 l12 c13)])] w1 (fun ch w => R (.panicked ch) w) fun v14 w15 =>
 ∃ (y16 : Option Addr) (l17 c18 : Nat), ∃ y19 : Int, v14 = (.tuple #[(.slice y16 l17 c18), (.int .i64 y19)]) ∧
 R (.returned (.bool (y19 == (0 : Int)))) w15))
theorem e_aqueductref5_May (v_0x0 : Int) (v_0x1 : Int) (v_0x2 : ByteArray) (v_0x3 : Option Addr) (v_0x3l v_0x3c : Nat) (v_0x4 : Option Addr) (v_0x4l v_0x4c : Nat) (v_0x5 : Option Addr) (v_0x5l v_0x5c : Nat) (w : World) (R : Ending → World → Prop) : funcX pg T bl Try.f18 [(.agg #[(.int .i64 v_0x0), (.int .i64 v_0x1), (.string v_0x2), (.slice v_0x3 v_0x3l v_0x3c), (.slice v_0x4 v_0x4l v_0x4c), (.slice v_0x5 v_0x5l v_0x5c)])] w R = c_aqueductref5_May v_0x0  v_0x1  v_0x2  v_0x3 v_0x3l v_0x3c  v_0x4 v_0x4l v_0x4c  v_0x5 v_0x5l v_0x5c  w R := by kernel_rfl
theorem of_aqueductref5_May (v_0x0 : Int) (v_0x1 : Int) (v_0x2 : ByteArray) (v_0x3 : Option Addr) (v_0x3l v_0x3c : Nat) (v_0x4 : Option Addr) (v_0x4l v_0x4c : Nat) (v_0x5 : Option Addr) (v_0x5l v_0x5c : Nat) {w : World} {R : Ending → World → Prop} (h : c_aqueductref5_May v_0x0  v_0x1  v_0x2  v_0x3 v_0x3l v_0x3c  v_0x4 v_0x4l v_0x4c  v_0x5 v_0x5l v_0x5c  w R) : Calls pg f_aqueductref5_May #[(.agg #[(.int .i64 v_0x0), (.int .i64 v_0x1), (.string v_0x2), (.slice v_0x3 v_0x3l v_0x3c), (.slice v_0x4 v_0x4l v_0x4c), (.slice v_0x5 v_0x5l v_0x5c)])] w R :=
  funcX_of mixed tok blok Try.func18 (args := [(.agg #[(.int .i64 v_0x0), (.int .i64 v_0x1), (.string v_0x2), (.slice v_0x3 v_0x3l v_0x3c), (.slice v_0x4 v_0x4l v_0x4c), (.slice v_0x5 v_0x5l v_0x5c)])]) (e_aqueductref5_May v_0x0  v_0x1  v_0x2  v_0x3 v_0x3l v_0x3c  v_0x4 v_0x4l v_0x4c  v_0x5 v_0x5l v_0x5c  w R) h
/-- (*aqueduct/window.window).rest -/
def c_Pwindow_window_rest (w_0 : Option Addr) (w : World) (R : Ending → World → Prop) : Prop :=
 (New w (.cells #[(.int .i64 (0 : Int)), (.int .i64 (0 : Int)), (.string (⟨#[]⟩ : ByteArray)), (.slice none 0 0), (.slice none 0 0), (.slice none 0 0)] t_api_Value (0, 0)) fun b0 w1 =>
 (Eng.Loop (σ := Bool × Int) (fun X2 s3 w4 =>
 ∀ j5 : Nat → Value, (withSome w_0 fun (a6 : Addr) =>
 ∃ x7 : Int, w4.cell? (a6.add 1) = some (.int .i64 x7) ∧
 (cond (decide (x7 > (0 : Int)))
 ((withSome w_0 fun (a8 : Addr) =>
 ∃ x9 : Value, w4.cell? a8 = some x9 ∧
 (CallI pg x9 "Next" [] w4 (fun ch w => R (.panicked ch) w) fun v10 w11 =>
 ∃ y12 : Int, ∃ y13 : Int, ∃ y14 : ByteArray, ∃ (y15 : Option Addr) (l16 c17 : Nat), ∃ (y18 : Option Addr) (l19 c20 : Nat), ∃ (y21 : Option Addr) (l22 c23 : Nat), ∃ y24 : Bool, ∃ y25 : Int, v10 = (.tuple #[(.agg #[(.int .i64 y12), (.int .i64 y13), (.string y14), (.slice y15 l16 c17), (.slice y18 l19 c20), (.slice y21 l22 c23)]), (.bool y24), (.int .i64 y25)]) ∧
 (New w11 (.cells #[(.int .i64 (0 : Int)), (.int .i64 (0 : Int)), (.string (⟨#[]⟩ : ByteArray)), (.slice none 0 0), (.slice none 0 0), (.slice none 0 0)] t_api_Value (0, 0)) fun b26 w27 =>
 (St w27 ⟨b26, 0, none⟩ (.int .i64 y12) fun w28 =>
 (St w28 ⟨b26, 1, none⟩ (.int .i64 y13) fun w29 =>
 (St w29 ⟨b26, 2, none⟩ (.string y14) fun w30 =>
 (St w30 ⟨b26, 3, none⟩ (.slice y15 l16 c17) fun w31 =>
 (St w31 ⟨b26, 4, none⟩ (.slice y18 l19 c20) fun w32 =>
 (St w32 ⟨b26, 5, none⟩ (.slice y21 l22 c23) fun w33 =>
 (Meet (σ := Bool) (fun J34 =>
 (cond (y25 != (0 : Int))
 (J34 true w33)
 (J34 (!y24) w33)))
 (fun s35 w36 =>
 ∀ j37 : Nat → Value, (cond s35
 ((St w36 ⟨b0, 0, none⟩ (.int .i64 (0 : Int)) fun w38 =>
 (St w38 ⟨b0, 1, none⟩ (.int .i64 (0 : Int)) fun w39 =>
 (St w39 ⟨b0, 2, none⟩ (.string (⟨#[]⟩ : ByteArray)) fun w40 =>
 (St w40 ⟨b0, 3, none⟩ (.slice none 0 0) fun w41 =>
 (St w41 ⟨b0, 4, none⟩ (.slice none 0 0) fun w42 =>
 (St w42 ⟨b0, 5, none⟩ (.slice none 0 0) fun w43 =>
 ∃ x44 : Int, w43.cell? ⟨b0, 0, none⟩ = some (.int .i64 x44) ∧
 ∃ x45 : Int, w43.cell? ⟨b0, 1, none⟩ = some (.int .i64 x45) ∧
 ∃ x46 : ByteArray, w43.cell? ⟨b0, 2, none⟩ = some (.string x46) ∧
 ∃ (x47 : Option Addr) (l48 c49 : Nat), w43.cell? ⟨b0, 3, none⟩ = some (.slice x47 l48 c49) ∧
 ∃ (x50 : Option Addr) (l51 c52 : Nat), w43.cell? ⟨b0, 4, none⟩ = some (.slice x50 l51 c52) ∧
 ∃ (x53 : Option Addr) (l54 c55 : Nat), w43.cell? ⟨b0, 5, none⟩ = some (.slice x53 l54 c55) ∧
 R (.returned (.tuple #[(.agg #[(.int .i64 x44), (.int .i64 x45), (.string x46), (.slice x47 l48 c49), (.slice x50 l51 c52), (.slice x53 l54 c55)]), (.bool false), (.int .i64 y25)])) w43)))))))
 ((withSome w_0 fun (a56 : Addr) =>
 ∃ x57 : Int, w36.cell? (a56.add 1) = some (.int .i64 x57) ∧
 (withSome w_0 fun (a58 : Addr) =>
 (St w36 (a58.add 1) (.int .i64 (IntKind.i64.wrap (x57 - (1 : Int)))) fun w59 =>
 X2 (s3.1, s3.2) w59)))))))))))))))))
 ((withSome w_0 fun (a60 : Addr) =>
 ∃ x61 : Value, w4.cell? a60 = some x61 ∧
 (CallI pg x61 "Next" [] w4 (fun ch w => R (.panicked ch) w) fun v62 w63 =>
 ∃ y64 : Int, ∃ y65 : Int, ∃ y66 : ByteArray, ∃ (y67 : Option Addr) (l68 c69 : Nat), ∃ (y70 : Option Addr) (l71 c72 : Nat), ∃ (y73 : Option Addr) (l74 c75 : Nat), ∃ y76 : Bool, ∃ y77 : Int, v62 = (.tuple #[(.agg #[(.int .i64 y64), (.int .i64 y65), (.string y66), (.slice y67 l68 c69), (.slice y70 l71 c72), (.slice y73 l74 c75)]), (.bool y76), (.int .i64 y77)]) ∧
 (St w63 ⟨b0, 0, none⟩ (.int .i64 y64) fun w78 =>
 (St w78 ⟨b0, 1, none⟩ (.int .i64 y65) fun w79 =>
 (St w79 ⟨b0, 2, none⟩ (.string y66) fun w80 =>
 (St w80 ⟨b0, 3, none⟩ (.slice y67 l68 c69) fun w81 =>
 (St w81 ⟨b0, 4, none⟩ (.slice y70 l71 c72) fun w82 =>
 (St w82 ⟨b0, 5, none⟩ (.slice y73 l74 c75) fun w83 =>
 ∃ x84 : Int, w83.cell? ⟨b0, 0, none⟩ = some (.int .i64 x84) ∧
 ∃ x85 : Int, w83.cell? ⟨b0, 1, none⟩ = some (.int .i64 x85) ∧
 ∃ x86 : ByteArray, w83.cell? ⟨b0, 2, none⟩ = some (.string x86) ∧
 ∃ (x87 : Option Addr) (l88 c89 : Nat), w83.cell? ⟨b0, 3, none⟩ = some (.slice x87 l88 c89) ∧
 ∃ (x90 : Option Addr) (l91 c92 : Nat), w83.cell? ⟨b0, 4, none⟩ = some (.slice x90 l91 c92) ∧
 ∃ (x93 : Option Addr) (l94 c95 : Nat), w83.cell? ⟨b0, 5, none⟩ = some (.slice x93 l94 c95) ∧
 R (.returned (.tuple #[(.agg #[(.int .i64 x84), (.int .i64 x85), (.string x86), (.slice x87 l88 c89), (.slice x90 l91 c92), (.slice x93 l94 c95)]), (.bool y76), (.int .i64 y77)])) w83)))))))))))) (false, (0 : Int)) w1))
theorem e_Pwindow_window_rest (w_0 : Option Addr) (w : World) (R : Ending → World → Prop) : funcX pg T bl Try.f22 [(.pointer w_0)] w R = c_Pwindow_window_rest w_0  w R := by kernel_rfl
theorem of_Pwindow_window_rest (w_0 : Option Addr) {w : World} {R : Ending → World → Prop} (h : c_Pwindow_window_rest w_0  w R) : Calls pg f_Pwindow_window_rest #[(.pointer w_0)] w R :=
  funcX_of mixed tok blok Try.func22 (args := [(.pointer w_0)]) (e_Pwindow_window_rest w_0  w R) h
/-- (*aqueduct/window.window).all -/
def c_Pwindow_window_all (w_0 : Option Addr) (w : World) (R : Ending → World → Prop) : Prop :=
 (New w (.cells #[(.int .i64 (0 : Int)), (.int .i64 (0 : Int)), (.string (⟨#[]⟩ : ByteArray)), (.slice none 0 0), (.slice none 0 0), (.slice none 0 0)] t_api_Value (0, 0)) fun b0 w1 =>
 (Eng.Loop (σ := Bool × Int) (fun X2 s3 w4 =>
 ∀ j5 : Nat → Value, (withSome w_0 fun (a6 : Addr) =>
 ∃ x7 : Value, w4.cell? a6 = some x7 ∧
 (CallI pg x7 "Next" [] w4 (fun ch w => R (.panicked ch) w) fun v8 w9 =>
 ∃ y10 : Int, ∃ y11 : Int, ∃ y12 : ByteArray, ∃ (y13 : Option Addr) (l14 c15 : Nat), ∃ (y16 : Option Addr) (l17 c18 : Nat), ∃ (y19 : Option Addr) (l20 c21 : Nat), ∃ y22 : Bool, ∃ y23 : Int, v8 = (.tuple #[(.agg #[(.int .i64 y10), (.int .i64 y11), (.string y12), (.slice y13 l14 c15), (.slice y16 l17 c18), (.slice y19 l20 c21)]), (.bool y22), (.int .i64 y23)]) ∧
 (New w9 (.cells #[(.int .i64 (0 : Int)), (.int .i64 (0 : Int)), (.string (⟨#[]⟩ : ByteArray)), (.slice none 0 0), (.slice none 0 0), (.slice none 0 0)] t_api_Value (0, 0)) fun b24 w25 =>
 (St w25 ⟨b24, 0, none⟩ (.int .i64 y10) fun w26 =>
 (St w26 ⟨b24, 1, none⟩ (.int .i64 y11) fun w27 =>
 (St w27 ⟨b24, 2, none⟩ (.string y12) fun w28 =>
 (St w28 ⟨b24, 3, none⟩ (.slice y13 l14 c15) fun w29 =>
 (St w29 ⟨b24, 4, none⟩ (.slice y16 l17 c18) fun w30 =>
 (St w30 ⟨b24, 5, none⟩ (.slice y19 l20 c21) fun w31 =>
 (cond (y23 != (0 : Int))
 ((St w31 ⟨b0, 0, none⟩ (.int .i64 (0 : Int)) fun w32 =>
 (St w32 ⟨b0, 1, none⟩ (.int .i64 (0 : Int)) fun w33 =>
 (St w33 ⟨b0, 2, none⟩ (.string (⟨#[]⟩ : ByteArray)) fun w34 =>
 (St w34 ⟨b0, 3, none⟩ (.slice none 0 0) fun w35 =>
 (St w35 ⟨b0, 4, none⟩ (.slice none 0 0) fun w36 =>
 (St w36 ⟨b0, 5, none⟩ (.slice none 0 0) fun w37 =>
 ∃ x38 : Int, w37.cell? ⟨b0, 0, none⟩ = some (.int .i64 x38) ∧
 ∃ x39 : Int, w37.cell? ⟨b0, 1, none⟩ = some (.int .i64 x39) ∧
 ∃ x40 : ByteArray, w37.cell? ⟨b0, 2, none⟩ = some (.string x40) ∧
 ∃ (x41 : Option Addr) (l42 c43 : Nat), w37.cell? ⟨b0, 3, none⟩ = some (.slice x41 l42 c43) ∧
 ∃ (x44 : Option Addr) (l45 c46 : Nat), w37.cell? ⟨b0, 4, none⟩ = some (.slice x44 l45 c46) ∧
 ∃ (x47 : Option Addr) (l48 c49 : Nat), w37.cell? ⟨b0, 5, none⟩ = some (.slice x47 l48 c49) ∧
 R (.returned (.tuple #[(.agg #[(.int .i64 x38), (.int .i64 x39), (.string x40), (.slice x41 l42 c43), (.slice x44 l45 c46), (.slice x47 l48 c49)]), (.bool false), (.int .i64 y23)])) w37)))))))
 ((cond (!y22)
 ((CallR pg f_Pwindow_window_Close [(.pointer w_0)] w31 (fun ch w => R (.panicked ch) w) fun v50 w51 =>
 v50 = (.tuple #[]) ∧
 (Drew w51 fun w52 =>
 (withSome w_0 fun (a53 : Addr) =>
 ∃ x54 : ByteArray, w52.cell? (a53.add 2) = some (.string x54) ∧
 (withSome w_0 fun (a55 : Addr) =>
 ∃ x56 : Int, w52.cell? (a55.add 1) = some (.int .i64 x56) ∧
 (CallR pg f_num_Of [(.int .i64 x56)] w52 (fun ch w => R (.panicked ch) w) fun v57 w58 =>
 ∃ y59 : Int, ∃ y60 : Int, ∃ y61 : ByteArray, ∃ (y62 : Option Addr) (l63 c64 : Nat), ∃ (y65 : Option Addr) (l66 c67 : Nat), ∃ (y68 : Option Addr) (l69 c70 : Nat), v57 = (.agg #[(.int .i64 y59), (.int .i64 y60), (.string y61), (.slice y62 l63 c64), (.slice y65 l66 c67), (.slice y68 l69 c70)]) ∧
 (w58.cell? (a53.add 2) = some (.string x54)) ∧ (New w58 (.cells #[(.string x54), (.int .i64 y59), (.int .i64 y60), (.string y61), (.slice y62 l63 c64), (.slice y65 l66 c67), (.slice y68 l69 c70)] t_api_Field (0, 0)) fun b71 w72 =>
 (Drew w72 fun w73 =>
 (withSome w_0 fun (a74 : Addr) =>
 ∃ x75 : Int, w73.cell? (a74.add 1) = some (.int .i64 x75) ∧
 (St w73 ⟨b0, 0, none⟩ (.int .i64 (6 : Int)) fun w76 =>
 (St w76 ⟨b0, 1, none⟩ (.int .i64 (0 : Int)) fun w77 =>
 (St w77 ⟨b0, 2, none⟩ (.string (⟨#[]⟩ : ByteArray)) fun w78 =>
 (St w78 ⟨b0, 3, none⟩ (.slice none 0 0) fun w79 =>
 (St w79 ⟨b0, 4, none⟩ (.slice (some (⟨b71, 0, none⟩ : Addr)) 1 1) fun w80 =>
 (St w80 ⟨b0, 5, none⟩ (.slice none 0 0) fun w81 =>
 (w81.cell? (a74.add 1) = some (.int .i64 x75)) ∧ ∃ x82 : Int, w81.cell? ⟨b0, 0, none⟩ = some (.int .i64 x82) ∧
 ∃ x83 : Int, w81.cell? ⟨b0, 1, none⟩ = some (.int .i64 x83) ∧
 ∃ x84 : ByteArray, w81.cell? ⟨b0, 2, none⟩ = some (.string x84) ∧
 ∃ (x85 : Option Addr) (l86 c87 : Nat), w81.cell? ⟨b0, 3, none⟩ = some (.slice x85 l86 c87) ∧
 ∃ (x88 : Option Addr) (l89 c90 : Nat), w81.cell? ⟨b0, 4, none⟩ = some (.slice x88 l89 c90) ∧
 ∃ (x91 : Option Addr) (l92 c93 : Nat), w81.cell? ⟨b0, 5, none⟩ = some (.slice x91 l92 c93) ∧
 R (.returned (.tuple #[(.agg #[(.int .i64 x82), (.int .i64 x83), (.string x84), (.slice x85 l86 c87), (.slice x88 l89 c90), (.slice x91 l92 c93)]), (.bool (decide (x75 > (0 : Int)))), (.int .i64 (0 : Int))])) w81)))))))))))))))
 ((withSome w_0 fun (a94 : Addr) =>
 ∃ x95 : Int, w31.cell? (a94.add 1) = some (.int .i64 x95) ∧
 (withSome w_0 fun (a96 : Addr) =>
 (St w31 (a96.add 1) (.int .i64 (IntKind.i64.wrap (x95 + (1 : Int)))) fun w97 =>
 X2 (s3.1, s3.2) w97))))))))))))))))) (false, (0 : Int)) w1))
theorem e_Pwindow_window_all (w_0 : Option Addr) (w : World) (R : Ending → World → Prop) : funcX pg T bl Try.f23 [(.pointer w_0)] w R = c_Pwindow_window_all w_0  w R := by kernel_rfl
theorem of_Pwindow_window_all (w_0 : Option Addr) {w : World} {R : Ending → World → Prop} (h : c_Pwindow_window_all w_0  w R) : Calls pg f_Pwindow_window_all #[(.pointer w_0)] w R :=
  funcX_of mixed tok blok Try.func23 (args := [(.pointer w_0)]) (e_Pwindow_window_all w_0  w R) h
/-- aqueduct/aqueductref5.Same -/
def c_aqueductref5_Same (a_0x0 : Int) (a_0x1 : Int) (a_0x2 : ByteArray) (a_0x3 : Option Addr) (a_0x3l a_0x3c : Nat) (a_0x4 : Option Addr) (a_0x4l a_0x4c : Nat) (a_0x5 : Option Addr) (a_0x5l a_0x5c : Nat) (b_1x0 : Int) (b_1x1 : Int) (b_1x2 : ByteArray) (b_1x3 : Option Addr) (b_1x3l b_1x3c : Nat) (b_1x4 : Option Addr) (b_1x4l b_1x4c : Nat) (b_1x5 : Option Addr) (b_1x5l b_1x5c : Nat) (w : World) (R : Ending → World → Prop) : Prop :=
 (New w (.cells #[(.int .i64 a_0x0), (.int .i64 a_0x1), (.string a_0x2), (.slice a_0x3 a_0x3l a_0x3c), (.slice a_0x4 a_0x4l a_0x4c), (.slice a_0x5 a_0x5l a_0x5c)] t_api_Value (0, 0)) fun b0 w1 =>
 (New w1 (.cells #[(.int .i64 b_1x0), (.int .i64 b_1x1), (.string b_1x2), (.slice b_1x3 b_1x3l b_1x3c), (.slice b_1x4 b_1x4l b_1x4c), (.slice b_1x5 b_1x5l b_1x5c)] t_api_Value (0, 0)) fun b2 w3 =>
 (Meet (σ := Bool) (fun J4 =>
 ∃ x7 : Int, w3.cell? ⟨b0, 0, none⟩ = some (.int .i64 x7) ∧
 ∃ x8 : Int, w3.cell? ⟨b2, 0, none⟩ = some (.int .i64 x8) ∧
 (cond (x7 != x8)
 (J4 true w3)
 (∃ x9 : Int, w3.cell? ⟨b0, 1, none⟩ = some (.int .i64 x9) ∧
 ∃ x10 : Int, w3.cell? ⟨b2, 1, none⟩ = some (.int .i64 x10) ∧
 (cond (x9 != x10)
 (J4 true w3)
 (∃ x11 : ByteArray, w3.cell? ⟨b0, 2, none⟩ = some (.string x11) ∧
 ∃ x12 : ByteArray, w3.cell? ⟨b2, 2, none⟩ = some (.string x12) ∧
 (cond (!(x11.toList == x12.toList))
 (J4 true w3)
 (∃ (x13 : Option Addr) (l14 c15 : Nat), w3.cell? ⟨b0, 3, none⟩ = some (.slice x13 l14 c15) ∧
 (Prim pg (Go.convert t_Suint8 t_string (.slice x13 l14 c15)) w3 fun v16 w17 =>
 ∃ y18 : ByteArray, v16 = (.string y18) ∧
 ∃ (x19 : Option Addr) (l20 c21 : Nat), w17.cell? ⟨b2, 3, none⟩ = some (.slice x19 l20 c21) ∧
 (Prim pg (Go.convert t_Suint8 t_string (.slice x19 l20 c21)) w17 fun v22 w23 =>
 ∃ y24 : ByteArray, v22 = (.string y24) ∧
 (cond (!(y18.toList == y24.toList))
 (J4 true w23)
 (∃ (x25 : Option Addr) (l26 c27 : Nat), w23.cell? ⟨b0, 4, none⟩ = some (.slice x25 l26 c27) ∧
 ∃ (x28 : Option Addr) (l29 c30 : Nat), w23.cell? ⟨b2, 4, none⟩ = some (.slice x28 l29 c30) ∧
 (cond (((l26 : Nat) : Int) != ((l29 : Nat) : Int))
 (J4 true w23)
 (∃ (x31 : Option Addr) (l32 c33 : Nat), w23.cell? ⟨b0, 5, none⟩ = some (.slice x31 l32 c33) ∧
 ∃ (x34 : Option Addr) (l35 c36 : Nat), w23.cell? ⟨b2, 5, none⟩ = some (.slice x34 l35 c36) ∧
 J4 (((l32 : Nat) : Int) != ((l35 : Nat) : Int)) w23)))))))))))))
 (fun s5 w6 =>
 ∀ j37 : Nat → Value, (cond s5
 (R (.returned (.bool false)) w6)
 ((Eng.Loop (σ := Bool × Int) (fun X38 s39 w40 =>
 ∀ j41 : Nat → Value, ∃ (x42 : Option Addr) (l43 c44 : Nat), w40.cell? ⟨b0, 4, none⟩ = some (.slice x42 l43 c44) ∧
 (cond (decide (s39.2 < ((l43 : Nat) : Int)))
 ((Meet (σ := Bool) (fun J45 =>
 (Drew w40 fun w48 =>
 ∃ (x49 : Option Addr) (l50 c51 : Nat), w48.cell? ⟨b0, 4, none⟩ = some (.slice x49 l50 c51) ∧
 (withSome x49 fun (a52 : Addr) =>
 (0 ≤ s39.2 ∧ s39.2 < ((l50 : Nat) : Int)) ∧
 ∃ x53 : ByteArray, w48.cell? (a52.add ((s39.2).toNat * 7)) = some (.string x53) ∧
 ∃ (x54 : Option Addr) (l55 c56 : Nat), w48.cell? ⟨b2, 4, none⟩ = some (.slice x54 l55 c56) ∧
 (withSome x54 fun (a57 : Addr) =>
 (0 ≤ s39.2 ∧ s39.2 < ((l55 : Nat) : Int)) ∧
 ∃ x58 : ByteArray, w48.cell? (a57.add ((s39.2).toNat * 7)) = some (.string x58) ∧
 (cond (!(x53.toList == x58.toList))
 (J45 true w48)
 (∃ (x59 : Option Addr) (l60 c61 : Nat), w48.cell? ⟨b0, 4, none⟩ = some (.slice x59 l60 c61) ∧
 (withSome x59 fun (a62 : Addr) =>
 (0 ≤ s39.2 ∧ s39.2 < ((l60 : Nat) : Int)) ∧
 ∃ x63 : Int, w48.cell? ((a62.add ((s39.2).toNat * 7)).add 1) = some (.int .i64 x63) ∧
 ∃ x64 : Int, w48.cell? (((a62.add ((s39.2).toNat * 7)).add 1).add 1) = some (.int .i64 x64) ∧
 ∃ x65 : ByteArray, w48.cell? (((a62.add ((s39.2).toNat * 7)).add 1).add 2) = some (.string x65) ∧
 ∃ (x66 : Option Addr) (l67 c68 : Nat), w48.cell? (((a62.add ((s39.2).toNat * 7)).add 1).add 3) = some (.slice x66 l67 c68) ∧
 ∃ (x69 : Option Addr) (l70 c71 : Nat), w48.cell? (((a62.add ((s39.2).toNat * 7)).add 1).add 4) = some (.slice x69 l70 c71) ∧
 ∃ (x72 : Option Addr) (l73 c74 : Nat), w48.cell? (((a62.add ((s39.2).toNat * 7)).add 1).add 5) = some (.slice x72 l73 c74) ∧
 ∃ (x75 : Option Addr) (l76 c77 : Nat), w48.cell? ⟨b2, 4, none⟩ = some (.slice x75 l76 c77) ∧
 (withSome x75 fun (a78 : Addr) =>
 (0 ≤ s39.2 ∧ s39.2 < ((l76 : Nat) : Int)) ∧
 ∃ x79 : Int, w48.cell? ((a78.add ((s39.2).toNat * 7)).add 1) = some (.int .i64 x79) ∧
 ∃ x80 : Int, w48.cell? (((a78.add ((s39.2).toNat * 7)).add 1).add 1) = some (.int .i64 x80) ∧
 ∃ x81 : ByteArray, w48.cell? (((a78.add ((s39.2).toNat * 7)).add 1).add 2) = some (.string x81) ∧
 ∃ (x82 : Option Addr) (l83 c84 : Nat), w48.cell? (((a78.add ((s39.2).toNat * 7)).add 1).add 3) = some (.slice x82 l83 c84) ∧
 ∃ (x85 : Option Addr) (l86 c87 : Nat), w48.cell? (((a78.add ((s39.2).toNat * 7)).add 1).add 4) = some (.slice x85 l86 c87) ∧
 ∃ (x88 : Option Addr) (l89 c90 : Nat), w48.cell? (((a78.add ((s39.2).toNat * 7)).add 1).add 5) = some (.slice x88 l89 c90) ∧
 (CallR pg f_aqueductref5_Same [(.agg #[(.int .i64 x63), (.int .i64 x64), (.string x65), (.slice x66 l67 c68), (.slice x69 l70 c71), (.slice x72 l73 c74)]), (.agg #[(.int .i64 x79), (.int .i64 x80), (.string x81), (.slice x82 l83 c84), (.slice x85 l86 c87), (.slice x88 l89 c90)])] w48 (fun ch w => R (.panicked ch) w) fun v91 w92 =>
 ∃ y93 : Bool, v91 = (.bool y93) ∧
 J45 (!y93) w92)))))))))
 (fun s46 w47 =>
 ∀ j94 : Nat → Value, (cond s46
 (R (.returned (.bool false)) w47)
 (X38 (s39.1, (IntKind.i64.wrap (s39.2 + (1 : Int)))) w47)))))
 ((Eng.Loop (σ := Bool × Int) (fun X95 s96 w97 =>
 ∀ j98 : Nat → Value, ∃ (x99 : Option Addr) (l100 c101 : Nat), w97.cell? ⟨b0, 5, none⟩ = some (.slice x99 l100 c101) ∧
 (cond (decide (s96.2 < ((l100 : Nat) : Int)))
 ((Drew w97 fun w102 =>
 ∃ (x103 : Option Addr) (l104 c105 : Nat), w102.cell? ⟨b0, 5, none⟩ = some (.slice x103 l104 c105) ∧
 (withSome x103 fun (a106 : Addr) =>
 (0 ≤ s96.2 ∧ s96.2 < ((l104 : Nat) : Int)) ∧
 ∃ x107 : Int, w102.cell? (a106.add ((s96.2).toNat * 6)) = some (.int .i64 x107) ∧
 ∃ x108 : Int, w102.cell? ((a106.add ((s96.2).toNat * 6)).add 1) = some (.int .i64 x108) ∧
 ∃ x109 : ByteArray, w102.cell? ((a106.add ((s96.2).toNat * 6)).add 2) = some (.string x109) ∧
 ∃ (x110 : Option Addr) (l111 c112 : Nat), w102.cell? ((a106.add ((s96.2).toNat * 6)).add 3) = some (.slice x110 l111 c112) ∧
 ∃ (x113 : Option Addr) (l114 c115 : Nat), w102.cell? ((a106.add ((s96.2).toNat * 6)).add 4) = some (.slice x113 l114 c115) ∧
 ∃ (x116 : Option Addr) (l117 c118 : Nat), w102.cell? ((a106.add ((s96.2).toNat * 6)).add 5) = some (.slice x116 l117 c118) ∧
 ∃ (x119 : Option Addr) (l120 c121 : Nat), w102.cell? ⟨b2, 5, none⟩ = some (.slice x119 l120 c121) ∧
 (withSome x119 fun (a122 : Addr) =>
 (0 ≤ s96.2 ∧ s96.2 < ((l120 : Nat) : Int)) ∧
 ∃ x123 : Int, w102.cell? (a122.add ((s96.2).toNat * 6)) = some (.int .i64 x123) ∧
 ∃ x124 : Int, w102.cell? ((a122.add ((s96.2).toNat * 6)).add 1) = some (.int .i64 x124) ∧
 ∃ x125 : ByteArray, w102.cell? ((a122.add ((s96.2).toNat * 6)).add 2) = some (.string x125) ∧
 ∃ (x126 : Option Addr) (l127 c128 : Nat), w102.cell? ((a122.add ((s96.2).toNat * 6)).add 3) = some (.slice x126 l127 c128) ∧
 ∃ (x129 : Option Addr) (l130 c131 : Nat), w102.cell? ((a122.add ((s96.2).toNat * 6)).add 4) = some (.slice x129 l130 c131) ∧
 ∃ (x132 : Option Addr) (l133 c134 : Nat), w102.cell? ((a122.add ((s96.2).toNat * 6)).add 5) = some (.slice x132 l133 c134) ∧
 (CallR pg f_aqueductref5_Same [(.agg #[(.int .i64 x107), (.int .i64 x108), (.string x109), (.slice x110 l111 c112), (.slice x113 l114 c115), (.slice x116 l117 c118)]), (.agg #[(.int .i64 x123), (.int .i64 x124), (.string x125), (.slice x126 l127 c128), (.slice x129 l130 c131), (.slice x132 l133 c134)])] w102 (fun ch w => R (.panicked ch) w) fun v135 w136 =>
 ∃ y137 : Bool, v135 = (.bool y137) ∧
 (cond (!y137)
 (R (.returned (.bool false)) w136)
 (X95 (s96.1, (IntKind.i64.wrap (s96.2 + (1 : Int)))) w136)))))))
 (R (.returned (.bool true)) w97))) (s39.1, (0 : Int)) w40)))) (false, (0 : Int)) w6)))))))
theorem e_aqueductref5_Same (a_0x0 : Int) (a_0x1 : Int) (a_0x2 : ByteArray) (a_0x3 : Option Addr) (a_0x3l a_0x3c : Nat) (a_0x4 : Option Addr) (a_0x4l a_0x4c : Nat) (a_0x5 : Option Addr) (a_0x5l a_0x5c : Nat) (b_1x0 : Int) (b_1x1 : Int) (b_1x2 : ByteArray) (b_1x3 : Option Addr) (b_1x3l b_1x3c : Nat) (b_1x4 : Option Addr) (b_1x4l b_1x4c : Nat) (b_1x5 : Option Addr) (b_1x5l b_1x5c : Nat) (w : World) (R : Ending → World → Prop) : funcX pg T bl Try.f33 [(.agg #[(.int .i64 a_0x0), (.int .i64 a_0x1), (.string a_0x2), (.slice a_0x3 a_0x3l a_0x3c), (.slice a_0x4 a_0x4l a_0x4c), (.slice a_0x5 a_0x5l a_0x5c)]), (.agg #[(.int .i64 b_1x0), (.int .i64 b_1x1), (.string b_1x2), (.slice b_1x3 b_1x3l b_1x3c), (.slice b_1x4 b_1x4l b_1x4c), (.slice b_1x5 b_1x5l b_1x5c)])] w R = c_aqueductref5_Same a_0x0  a_0x1  a_0x2  a_0x3 a_0x3l a_0x3c  a_0x4 a_0x4l a_0x4c  a_0x5 a_0x5l a_0x5c  b_1x0  b_1x1  b_1x2  b_1x3 b_1x3l b_1x3c  b_1x4 b_1x4l b_1x4c  b_1x5 b_1x5l b_1x5c  w R := by kernel_rfl
theorem of_aqueductref5_Same (a_0x0 : Int) (a_0x1 : Int) (a_0x2 : ByteArray) (a_0x3 : Option Addr) (a_0x3l a_0x3c : Nat) (a_0x4 : Option Addr) (a_0x4l a_0x4c : Nat) (a_0x5 : Option Addr) (a_0x5l a_0x5c : Nat) (b_1x0 : Int) (b_1x1 : Int) (b_1x2 : ByteArray) (b_1x3 : Option Addr) (b_1x3l b_1x3c : Nat) (b_1x4 : Option Addr) (b_1x4l b_1x4c : Nat) (b_1x5 : Option Addr) (b_1x5l b_1x5c : Nat) {w : World} {R : Ending → World → Prop} (h : c_aqueductref5_Same a_0x0  a_0x1  a_0x2  a_0x3 a_0x3l a_0x3c  a_0x4 a_0x4l a_0x4c  a_0x5 a_0x5l a_0x5c  b_1x0  b_1x1  b_1x2  b_1x3 b_1x3l b_1x3c  b_1x4 b_1x4l b_1x4c  b_1x5 b_1x5l b_1x5c  w R) : Calls pg f_aqueductref5_Same #[(.agg #[(.int .i64 a_0x0), (.int .i64 a_0x1), (.string a_0x2), (.slice a_0x3 a_0x3l a_0x3c), (.slice a_0x4 a_0x4l a_0x4c), (.slice a_0x5 a_0x5l a_0x5c)]), (.agg #[(.int .i64 b_1x0), (.int .i64 b_1x1), (.string b_1x2), (.slice b_1x3 b_1x3l b_1x3c), (.slice b_1x4 b_1x4l b_1x4c), (.slice b_1x5 b_1x5l b_1x5c)])] w R :=
  funcX_of mixed tok blok Try.func33 (args := [(.agg #[(.int .i64 a_0x0), (.int .i64 a_0x1), (.string a_0x2), (.slice a_0x3 a_0x3l a_0x3c), (.slice a_0x4 a_0x4l a_0x4c), (.slice a_0x5 a_0x5l a_0x5c)]), (.agg #[(.int .i64 b_1x0), (.int .i64 b_1x1), (.string b_1x2), (.slice b_1x3 b_1x3l b_1x3c), (.slice b_1x4 b_1x4l b_1x4c), (.slice b_1x5 b_1x5l b_1x5c)])]) (e_aqueductref5_Same a_0x0  a_0x1  a_0x2  a_0x3 a_0x3l a_0x3c  a_0x4 a_0x4l a_0x4c  a_0x5 a_0x5l a_0x5c  b_1x0  b_1x1  b_1x2  b_1x3 b_1x3l b_1x3c  b_1x4 b_1x4l b_1x4c  b_1x5 b_1x5l b_1x5c  w R) h
/-- aqueduct/aqueductref5.NameMay -/
def c_aqueductref5_NameMay (s_0 : ByteArray) (w : World) (R : Ending → World → Prop) : Prop :=
 (Eng.Loop (σ := Bool × Int) (fun X0 s1 w2 =>
 ∀ j3 : Nat → Value, (cond (decide (s1.2 < ((s_0.size : Nat) : Int)))
 ((0 ≤ s1.2 ∧ s1.2 < ((s_0.size : Nat) : Int)) ∧
 (cond ((byteAt s_0 (s1.2).toNat : Nat) == (0 : Int))
 (R (.returned (.bool false)) w2)
 (X0 (s1.1, (IntKind.i64.wrap (s1.2 + (1 : Int)))) w2)))
 ((Meet (σ := Bool) (fun J4 =>
 (cond (decide (((s_0.size : Nat) : Int) ≤ (120 : Int)))
 ((CallR pg f_aqueductref5_Utf8 [(.string s_0)] w2 (fun ch w => R (.panicked ch) w) fun v7 w8 =>
 ∃ y9 : Bool, v7 = (.bool y9) ∧
 J4 y9 w8))
 (J4 false w2)))
 (fun s5 w6 =>
 ∀ j10 : Nat → Value, R (.returned (.bool s5)) w6))))) (false, (0 : Int)) w)
theorem e_aqueductref5_NameMay (s_0 : ByteArray) (w : World) (R : Ending → World → Prop) : funcX pg T bl Try.f34 [(.string s_0)] w R = c_aqueductref5_NameMay s_0  w R := by kernel_rfl
theorem of_aqueductref5_NameMay (s_0 : ByteArray) {w : World} {R : Ending → World → Prop} (h : c_aqueductref5_NameMay s_0  w R) : Calls pg f_aqueductref5_NameMay #[(.string s_0)] w R :=
  funcX_of mixed tok blok Try.func34 (args := [(.string s_0)]) (e_aqueductref5_NameMay s_0  w R) h
/-- aqueduct/aqueductlaw5.Shallow -/
def c_aqueductlaw5_Shallow (v_0x0 : Int) (v_0x1 : Int) (v_0x2 : ByteArray) (v_0x3 : Option Addr) (v_0x3l v_0x3c : Nat) (v_0x4 : Option Addr) (v_0x4l v_0x4c : Nat) (v_0x5 : Option Addr) (v_0x5l v_0x5c : Nat) (most_1 : Int) (w : World) (R : Ending → World → Prop) : Prop :=
 (New w (.cells #[(.int .i64 v_0x0), (.int .i64 v_0x1), (.string v_0x2), (.slice v_0x3 v_0x3l v_0x3c), (.slice v_0x4 v_0x4l v_0x4c), (.slice v_0x5 v_0x5l v_0x5c)] t_api_Value (0, 0)) fun b0 w1 =>
 (Eng.Loop (σ := Bool × Int) (fun X2 s3 w4 =>
 ∀ j5 : Nat → Value, ∃ (x6 : Option Addr) (l7 c8 : Nat), w4.cell? ⟨b0, 4, none⟩ = some (.slice x6 l7 c8) ∧
 (cond (decide (s3.2 < ((l7 : Nat) : Int)))
 ((Meet (σ := Bool) (fun J9 =>
 (cond (most_1 == (0 : Int))
 (J9 true w4)
 (∃ (x12 : Option Addr) (l13 c14 : Nat), w4.cell? ⟨b0, 4, none⟩ = some (.slice x12 l13 c14) ∧
 (withSome x12 fun (a15 : Addr) =>
 (0 ≤ s3.2 ∧ s3.2 < ((l13 : Nat) : Int)) ∧
 ∃ x16 : Int, w4.cell? ((a15.add ((s3.2).toNat * 7)).add 1) = some (.int .i64 x16) ∧
 ∃ x17 : Int, w4.cell? (((a15.add ((s3.2).toNat * 7)).add 1).add 1) = some (.int .i64 x17) ∧
 ∃ x18 : ByteArray, w4.cell? (((a15.add ((s3.2).toNat * 7)).add 1).add 2) = some (.string x18) ∧
 ∃ (x19 : Option Addr) (l20 c21 : Nat), w4.cell? (((a15.add ((s3.2).toNat * 7)).add 1).add 3) = some (.slice x19 l20 c21) ∧
 ∃ (x22 : Option Addr) (l23 c24 : Nat), w4.cell? (((a15.add ((s3.2).toNat * 7)).add 1).add 4) = some (.slice x22 l23 c24) ∧
 ∃ (x25 : Option Addr) (l26 c27 : Nat), w4.cell? (((a15.add ((s3.2).toNat * 7)).add 1).add 5) = some (.slice x25 l26 c27) ∧
 (CallR pg f_aqueductlaw5_Shallow [(.agg #[(.int .i64 x16), (.int .i64 x17), (.string x18), (.slice x19 l20 c21), (.slice x22 l23 c24), (.slice x25 l26 c27)]), (.int .i64 (IntKind.i64.wrap (most_1 - (1 : Int))))] w4 (fun ch w => R (.panicked ch) w) fun v28 w29 =>
 ∃ y30 : Bool, v28 = (.bool y30) ∧
 J9 (!y30) w29)))))
 (fun s10 w11 =>
 ∀ j31 : Nat → Value, (cond s10
 (R (.returned (.bool false)) w11)
 (X2 (s3.1, (IntKind.i64.wrap (s3.2 + (1 : Int)))) w11)))))
 ((Eng.Loop (σ := Bool × Int) (fun X32 s33 w34 =>
 ∀ j35 : Nat → Value, ∃ (x36 : Option Addr) (l37 c38 : Nat), w34.cell? ⟨b0, 5, none⟩ = some (.slice x36 l37 c38) ∧
 (cond (decide (s33.2 < ((l37 : Nat) : Int)))
 ((Meet (σ := Bool) (fun J39 =>
 (cond (most_1 == (0 : Int))
 (J39 true w34)
 (∃ (x42 : Option Addr) (l43 c44 : Nat), w34.cell? ⟨b0, 5, none⟩ = some (.slice x42 l43 c44) ∧
 (withSome x42 fun (a45 : Addr) =>
 (0 ≤ s33.2 ∧ s33.2 < ((l43 : Nat) : Int)) ∧
 ∃ x46 : Int, w34.cell? (a45.add ((s33.2).toNat * 6)) = some (.int .i64 x46) ∧
 ∃ x47 : Int, w34.cell? ((a45.add ((s33.2).toNat * 6)).add 1) = some (.int .i64 x47) ∧
 ∃ x48 : ByteArray, w34.cell? ((a45.add ((s33.2).toNat * 6)).add 2) = some (.string x48) ∧
 ∃ (x49 : Option Addr) (l50 c51 : Nat), w34.cell? ((a45.add ((s33.2).toNat * 6)).add 3) = some (.slice x49 l50 c51) ∧
 ∃ (x52 : Option Addr) (l53 c54 : Nat), w34.cell? ((a45.add ((s33.2).toNat * 6)).add 4) = some (.slice x52 l53 c54) ∧
 ∃ (x55 : Option Addr) (l56 c57 : Nat), w34.cell? ((a45.add ((s33.2).toNat * 6)).add 5) = some (.slice x55 l56 c57) ∧
 (CallR pg f_aqueductlaw5_Shallow [(.agg #[(.int .i64 x46), (.int .i64 x47), (.string x48), (.slice x49 l50 c51), (.slice x52 l53 c54), (.slice x55 l56 c57)]), (.int .i64 (IntKind.i64.wrap (most_1 - (1 : Int))))] w34 (fun ch w => R (.panicked ch) w) fun v58 w59 =>
 ∃ y60 : Bool, v58 = (.bool y60) ∧
 J39 (!y60) w59)))))
 (fun s40 w41 =>
 ∀ j61 : Nat → Value, (cond s40
 (R (.returned (.bool false)) w41)
 (X32 (s33.1, (IntKind.i64.wrap (s33.2 + (1 : Int)))) w41)))))
 (R (.returned (.bool true)) w34))) (s3.1, (0 : Int)) w4)))) (false, (0 : Int)) w1))
theorem e_aqueductlaw5_Shallow (v_0x0 : Int) (v_0x1 : Int) (v_0x2 : ByteArray) (v_0x3 : Option Addr) (v_0x3l v_0x3c : Nat) (v_0x4 : Option Addr) (v_0x4l v_0x4c : Nat) (v_0x5 : Option Addr) (v_0x5l v_0x5c : Nat) (most_1 : Int) (w : World) (R : Ending → World → Prop) : funcX pg T bl Try.f35 [(.agg #[(.int .i64 v_0x0), (.int .i64 v_0x1), (.string v_0x2), (.slice v_0x3 v_0x3l v_0x3c), (.slice v_0x4 v_0x4l v_0x4c), (.slice v_0x5 v_0x5l v_0x5c)]), (.int .i64 most_1)] w R = c_aqueductlaw5_Shallow v_0x0  v_0x1  v_0x2  v_0x3 v_0x3l v_0x3c  v_0x4 v_0x4l v_0x4c  v_0x5 v_0x5l v_0x5c  most_1  w R := by kernel_rfl
theorem of_aqueductlaw5_Shallow (v_0x0 : Int) (v_0x1 : Int) (v_0x2 : ByteArray) (v_0x3 : Option Addr) (v_0x3l v_0x3c : Nat) (v_0x4 : Option Addr) (v_0x4l v_0x4c : Nat) (v_0x5 : Option Addr) (v_0x5l v_0x5c : Nat) (most_1 : Int) {w : World} {R : Ending → World → Prop} (h : c_aqueductlaw5_Shallow v_0x0  v_0x1  v_0x2  v_0x3 v_0x3l v_0x3c  v_0x4 v_0x4l v_0x4c  v_0x5 v_0x5l v_0x5c  most_1  w R) : Calls pg f_aqueductlaw5_Shallow #[(.agg #[(.int .i64 v_0x0), (.int .i64 v_0x1), (.string v_0x2), (.slice v_0x3 v_0x3l v_0x3c), (.slice v_0x4 v_0x4l v_0x4c), (.slice v_0x5 v_0x5l v_0x5c)]), (.int .i64 most_1)] w R :=
  funcX_of mixed tok blok Try.func35 (args := [(.agg #[(.int .i64 v_0x0), (.int .i64 v_0x1), (.string v_0x2), (.slice v_0x3 v_0x3l v_0x3c), (.slice v_0x4 v_0x4l v_0x4c), (.slice v_0x5 v_0x5l v_0x5c)]), (.int .i64 most_1)]) (e_aqueductlaw5_Shallow v_0x0  v_0x1  v_0x2  v_0x3 v_0x3l v_0x3c  v_0x4 v_0x4l v_0x4c  v_0x5 v_0x5l v_0x5c  most_1  w R) h
/-- aqueduct/aqueductref5.Encode -/
def c_aqueductref5_Encode (v_0x0 : Int) (v_0x1 : Int) (v_0x2 : ByteArray) (v_0x3 : Option Addr) (v_0x3l v_0x3c : Nat) (v_0x4 : Option Addr) (v_0x4l v_0x4c : Nat) (v_0x5 : Option Addr) (v_0x5l v_0x5c : Nat) (w : World) (R : Ending → World → Prop) : Prop :=
 (New w (.cells #[(.int .i64 v_0x0), (.int .i64 v_0x1), (.string v_0x2), (.slice v_0x3 v_0x3l v_0x3c), (.slice v_0x4 v_0x4l v_0x4c), (.slice v_0x5 v_0x5l v_0x5c)] t_api_Value (0, 0)) fun b0 w1 =>
 ∃ x2 : Int, w1.cell? ⟨b0, 0, none⟩ = some (.int .i64 x2) ∧
 (cond (x2 != (6 : Int))
 (R (.returned (.tuple #[(.slice none 0 0), (.int .i64 (1 : Int))])) w1)
 (∃ x3 : Int, w1.cell? ⟨b0, 0, none⟩ = some (.int .i64 x3) ∧
 ∃ x4 : Int, w1.cell? ⟨b0, 1, none⟩ = some (.int .i64 x4) ∧
 ∃ x5 : ByteArray, w1.cell? ⟨b0, 2, none⟩ = some (.string x5) ∧
 ∃ (x6 : Option Addr) (l7 c8 : Nat), w1.cell? ⟨b0, 3, none⟩ = some (.slice x6 l7 c8) ∧
 ∃ (x9 : Option Addr) (l10 c11 : Nat), w1.cell? ⟨b0, 4, none⟩ = some (.slice x9 l10 c11) ∧
 ∃ (x12 : Option Addr) (l13 c14 : Nat), w1.cell? ⟨b0, 5, none⟩ = some (.slice x12 l13 c14) ∧
 (CallR pg f_aqueductref5_own [(.agg #[(.int .i64 x3), (.int .i64 x4), (.string x5), (.slice x6 l7 c8), (.slice x9 l10 c11), (.slice x12 l13 c14)]), (.int .i64 (1 : Int))] w1 (fun ch w => R (.panicked ch) w) fun v15 w16 =>
 ∃ (y17 : Option Addr) (l18 c19 : Nat), ∃ y20 : Bool, v15 = (.tuple #[(.slice y17 l18 c19), (.bool y20)]) ∧
 (cond (!y20)
 (R (.returned (.tuple #[(.slice none 0 0), (.int .i64 (1 : Int))])) w16)
 (R (.returned (.tuple #[(.slice y17 l18 c19), (.int .i64 (0 : Int))])) w16))))))
theorem e_aqueductref5_Encode (v_0x0 : Int) (v_0x1 : Int) (v_0x2 : ByteArray) (v_0x3 : Option Addr) (v_0x3l v_0x3c : Nat) (v_0x4 : Option Addr) (v_0x4l v_0x4c : Nat) (v_0x5 : Option Addr) (v_0x5l v_0x5c : Nat) (w : World) (R : Ending → World → Prop) : funcX pg T bl Try.f36 [(.agg #[(.int .i64 v_0x0), (.int .i64 v_0x1), (.string v_0x2), (.slice v_0x3 v_0x3l v_0x3c), (.slice v_0x4 v_0x4l v_0x4c), (.slice v_0x5 v_0x5l v_0x5c)])] w R = c_aqueductref5_Encode v_0x0  v_0x1  v_0x2  v_0x3 v_0x3l v_0x3c  v_0x4 v_0x4l v_0x4c  v_0x5 v_0x5l v_0x5c  w R := by kernel_rfl
theorem of_aqueductref5_Encode (v_0x0 : Int) (v_0x1 : Int) (v_0x2 : ByteArray) (v_0x3 : Option Addr) (v_0x3l v_0x3c : Nat) (v_0x4 : Option Addr) (v_0x4l v_0x4c : Nat) (v_0x5 : Option Addr) (v_0x5l v_0x5c : Nat) {w : World} {R : Ending → World → Prop} (h : c_aqueductref5_Encode v_0x0  v_0x1  v_0x2  v_0x3 v_0x3l v_0x3c  v_0x4 v_0x4l v_0x4c  v_0x5 v_0x5l v_0x5c  w R) : Calls pg f_aqueductref5_Encode #[(.agg #[(.int .i64 v_0x0), (.int .i64 v_0x1), (.string v_0x2), (.slice v_0x3 v_0x3l v_0x3c), (.slice v_0x4 v_0x4l v_0x4c), (.slice v_0x5 v_0x5l v_0x5c)])] w R :=
  funcX_of mixed tok blok Try.func36 (args := [(.agg #[(.int .i64 v_0x0), (.int .i64 v_0x1), (.string v_0x2), (.slice v_0x3 v_0x3l v_0x3c), (.slice v_0x4 v_0x4l v_0x4c), (.slice v_0x5 v_0x5l v_0x5c)])]) (e_aqueductref5_Encode v_0x0  v_0x1  v_0x2  v_0x3 v_0x3l v_0x3c  v_0x4 v_0x4l v_0x4c  v_0x5 v_0x5l v_0x5c  w R) h
/-- (*aqueduct/window.window).Close -/
def c_Pwindow_window_Close (w_0 : Option Addr) (w : World) (R : Ending → World → Prop) : Prop :=
 (withSome w_0 fun (a0 : Addr) =>
 ∃ x1 : Bool, w.cell? (a0.add 3) = some (.bool x1) ∧
 (cond x1
 (R (.returned (.tuple #[])) w)
 ((withSome w_0 fun (a2 : Addr) =>
 (St w (a2.add 3) (.bool true) fun w3 =>
 (withSome w_0 fun (a4 : Addr) =>
 ∃ x5 : Value, w3.cell? a4 = some x5 ∧
 (CallI pg x5 "Close" [] w3 (fun ch w => R (.panicked ch) w) fun v6 w7 =>
 v6 = (.tuple #[]) ∧
 R (.returned (.tuple #[])) w7)))))))
theorem e_Pwindow_window_Close (w_0 : Option Addr) (w : World) (R : Ending → World → Prop) : funcX pg T bl Try.f37 [(.pointer w_0)] w R = c_Pwindow_window_Close w_0  w R := by kernel_rfl
theorem of_Pwindow_window_Close (w_0 : Option Addr) {w : World} {R : Ending → World → Prop} (h : c_Pwindow_window_Close w_0  w R) : Calls pg f_Pwindow_window_Close #[(.pointer w_0)] w R :=
  funcX_of mixed tok blok Try.func37 (args := [(.pointer w_0)]) (e_Pwindow_window_Close w_0  w R) h
/-- bytes.Clone -/
def c_bytes_Clone (b_0 : Option Addr) (b_0l b_0c : Nat) (w : World) (R : Ending → World → Prop) : Prop :=
 (cond b_0.isNone
 (R (.returned (.slice none 0 0)) w)
 ((New w (.cells #[] t_uint8 (0, 0)) fun b0 w1 =>
 (Prim pg (Builtin.append_ #[t_Suint8, t_Suint8] t_Suint8 #[(.slice (some (⟨b0, 0, none⟩ : Addr)) 0 0), (.slice b_0 b_0l b_0c)]) w1 fun v2 w3 =>
 ∃ (y4 : Option Addr) (l5 c6 : Nat), v2 = (.slice y4 l5 c6) ∧
 R (.returned (.slice y4 l5 c6)) w3))))
theorem e_bytes_Clone (b_0 : Option Addr) (b_0l b_0c : Nat) (w : World) (R : Ending → World → Prop) : funcX pg T bl Try.f38 [(.slice b_0 b_0l b_0c)] w R = c_bytes_Clone b_0 b_0l b_0c  w R := by kernel_rfl
theorem of_bytes_Clone (b_0 : Option Addr) (b_0l b_0c : Nat) {w : World} {R : Ending → World → Prop} (h : c_bytes_Clone b_0 b_0l b_0c  w R) : Calls pg f_bytes_Clone #[(.slice b_0 b_0l b_0c)] w R :=
  funcX_of mixed tok blok Try.func38 (args := [(.slice b_0 b_0l b_0c)]) (e_bytes_Clone b_0 b_0l b_0c  w R) h
/-- aqueduct/num.Of -/
def c_num_Of (n_0 : Int) (w : World) (R : Ending → World → Prop) : Prop :=
 (New w (.cells #[(.int .i64 (0 : Int)), (.int .i64 (0 : Int)), (.string (⟨#[]⟩ : ByteArray)), (.slice none 0 0), (.slice none 0 0), (.slice none 0 0)] t_api_Value (0, 0)) fun b0 w1 =>
 (cond (n_0 == (IntKind.i64.wrap (IntKind.i32.wrap n_0)))
 ((St w1 ⟨b0, 0, none⟩ (.int .i64 (3 : Int)) fun w2 =>
 (St w2 ⟨b0, 1, none⟩ (.int .i64 n_0) fun w3 =>
 (St w3 ⟨b0, 2, none⟩ (.string (⟨#[]⟩ : ByteArray)) fun w4 =>
 (St w4 ⟨b0, 3, none⟩ (.slice none 0 0) fun w5 =>
 (St w5 ⟨b0, 4, none⟩ (.slice none 0 0) fun w6 =>
 (St w6 ⟨b0, 5, none⟩ (.slice none 0 0) fun w7 =>
 ∃ x8 : Int, w7.cell? ⟨b0, 0, none⟩ = some (.int .i64 x8) ∧
 ∃ x9 : Int, w7.cell? ⟨b0, 1, none⟩ = some (.int .i64 x9) ∧
 ∃ x10 : ByteArray, w7.cell? ⟨b0, 2, none⟩ = some (.string x10) ∧
 ∃ (x11 : Option Addr) (l12 c13 : Nat), w7.cell? ⟨b0, 3, none⟩ = some (.slice x11 l12 c13) ∧
 ∃ (x14 : Option Addr) (l15 c16 : Nat), w7.cell? ⟨b0, 4, none⟩ = some (.slice x14 l15 c16) ∧
 ∃ (x17 : Option Addr) (l18 c19 : Nat), w7.cell? ⟨b0, 5, none⟩ = some (.slice x17 l18 c19) ∧
 R (.returned (.agg #[(.int .i64 x8), (.int .i64 x9), (.string x10), (.slice x11 l12 c13), (.slice x14 l15 c16), (.slice x17 l18 c19)])) w7)))))))
 ((St w1 ⟨b0, 0, none⟩ (.int .i64 (4 : Int)) fun w20 =>
 (St w20 ⟨b0, 1, none⟩ (.int .i64 n_0) fun w21 =>
 (St w21 ⟨b0, 2, none⟩ (.string (⟨#[]⟩ : ByteArray)) fun w22 =>
 (St w22 ⟨b0, 3, none⟩ (.slice none 0 0) fun w23 =>
 (St w23 ⟨b0, 4, none⟩ (.slice none 0 0) fun w24 =>
 (St w24 ⟨b0, 5, none⟩ (.slice none 0 0) fun w25 =>
 ∃ x26 : Int, w25.cell? ⟨b0, 0, none⟩ = some (.int .i64 x26) ∧
 ∃ x27 : Int, w25.cell? ⟨b0, 1, none⟩ = some (.int .i64 x27) ∧
 ∃ x28 : ByteArray, w25.cell? ⟨b0, 2, none⟩ = some (.string x28) ∧
 ∃ (x29 : Option Addr) (l30 c31 : Nat), w25.cell? ⟨b0, 3, none⟩ = some (.slice x29 l30 c31) ∧
 ∃ (x32 : Option Addr) (l33 c34 : Nat), w25.cell? ⟨b0, 4, none⟩ = some (.slice x32 l33 c34) ∧
 ∃ (x35 : Option Addr) (l36 c37 : Nat), w25.cell? ⟨b0, 5, none⟩ = some (.slice x35 l36 c37) ∧
 R (.returned (.agg #[(.int .i64 x26), (.int .i64 x27), (.string x28), (.slice x29 l30 c31), (.slice x32 l33 c34), (.slice x35 l36 c37)])) w25)))))))))
theorem e_num_Of (n_0 : Int) (w : World) (R : Ending → World → Prop) : funcX pg T bl Try.f41 [(.int .i64 n_0)] w R = c_num_Of n_0  w R := by kernel_rfl
theorem of_num_Of (n_0 : Int) {w : World} {R : Ending → World → Prop} (h : c_num_Of n_0  w R) : Calls pg f_num_Of #[(.int .i64 n_0)] w R :=
  funcX_of mixed tok blok Try.func41 (args := [(.int .i64 n_0)]) (e_num_Of n_0  w R) h
/-- aqueduct/aqueductref5.fields -/
def c_aqueductref5_fields (f_0 : Option Addr) (f_0l f_0c : Nat) (depth_1 : Int) (w : World) (R : Ending → World → Prop) : Prop :=
 (Prim pg (Instr.makeSlice t_Suint8 (.int .i64 (4 : Int)) (.int .i64 (4 : Int))) w fun v0 w1 =>
 ∃ (y2 : Option Addr) (l3 c4 : Nat), v0 = (.slice y2 l3 c4) ∧
 (Eng.Loop (σ := (Option Addr × Nat × Nat) × (Option Addr × Nat × Nat) × Bool × Int) (fun X5 s6 w7 =>
 ∀ j8 : Nat → Value, (cond (decide (s6.2.2.2 < ((f_0l : Nat) : Int)))
 ((withSome f_0 fun (a9 : Addr) =>
 (0 ≤ s6.2.2.2 ∧ s6.2.2.2 < ((f_0l : Nat) : Int)) ∧
 ∃ x10 : Int, w7.cell? ((a9.add ((s6.2.2.2).toNat * 7)).add 1) = some (.int .i64 x10) ∧
 ∃ x11 : Int, w7.cell? (((a9.add ((s6.2.2.2).toNat * 7)).add 1).add 1) = some (.int .i64 x11) ∧
 ∃ x12 : ByteArray, w7.cell? (((a9.add ((s6.2.2.2).toNat * 7)).add 1).add 2) = some (.string x12) ∧
 ∃ (x13 : Option Addr) (l14 c15 : Nat), w7.cell? (((a9.add ((s6.2.2.2).toNat * 7)).add 1).add 3) = some (.slice x13 l14 c15) ∧
 ∃ (x16 : Option Addr) (l17 c18 : Nat), w7.cell? (((a9.add ((s6.2.2.2).toNat * 7)).add 1).add 4) = some (.slice x16 l17 c18) ∧
 ∃ (x19 : Option Addr) (l20 c21 : Nat), w7.cell? (((a9.add ((s6.2.2.2).toNat * 7)).add 1).add 5) = some (.slice x19 l20 c21) ∧
 (CallR pg f_aqueductref5_own [(.agg #[(.int .i64 x10), (.int .i64 x11), (.string x12), (.slice x13 l14 c15), (.slice x16 l17 c18), (.slice x19 l20 c21)]), (.int .i64 (IntKind.i64.wrap (depth_1 + (1 : Int))))] w7 (fun ch w => R (.panicked ch) w) fun v22 w23 =>
 ∃ (y24 : Option Addr) (l25 c26 : Nat), ∃ y27 : Bool, v22 = (.tuple #[(.slice y24 l25 c26), (.bool y27)]) ∧
 (Meet (σ := Bool) (fun J28 =>
 (cond (!y27)
 (J28 true w23)
 ((withSome f_0 fun (a31 : Addr) =>
 (0 ≤ s6.2.2.2 ∧ s6.2.2.2 < ((f_0l : Nat) : Int)) ∧
 ∃ x32 : ByteArray, w23.cell? (a31.add ((s6.2.2.2).toNat * 7)) = some (.string x32) ∧
 (CallR pg f_aqueductref5_NameMay [(.string x32)] w23 (fun ch w => R (.panicked ch) w) fun v33 w34 =>
 ∃ y35 : Bool, v33 = (.bool y35) ∧
 J28 (!y35) w34)))))
 (fun s29 w30 =>
 ∀ j36 : Nat → Value, (cond s29
 (R (.returned (.tuple #[(.slice none 0 0), (.bool false)])) w30)
 ((Eng.Loop (σ := (Option Addr × Nat × Nat) × Bool × Int) (fun X37 s38 w39 =>
 ∀ j40 : Nat → Value, (cond (decide (s38.2.2 < s6.2.2.2))
 ((Drew w39 fun w41 =>
 (withSome f_0 fun (a42 : Addr) =>
 (0 ≤ s38.2.2 ∧ s38.2.2 < ((f_0l : Nat) : Int)) ∧
 ∃ x43 : ByteArray, w41.cell? (a42.add ((s38.2.2).toNat * 7)) = some (.string x43) ∧
 (withSome f_0 fun (a44 : Addr) =>
 (0 ≤ s6.2.2.2 ∧ s6.2.2.2 < ((f_0l : Nat) : Int)) ∧
 ∃ x45 : ByteArray, w41.cell? (a44.add ((s6.2.2.2).toNat * 7)) = some (.string x45) ∧
 (cond (x43.toList == x45.toList)
 (R (.returned (.tuple #[(.slice none 0 0), (.bool false)])) w41)
 (X37 ((s38.1.1, s38.1.2.1, s38.1.2.2), s38.2.1, (IntKind.i64.wrap (s38.2.2 + (1 : Int)))) w41))))))
 ((Drew w39 fun w46 =>
 (withSome f_0 fun (a47 : Addr) =>
 (0 ≤ s6.2.2.2 ∧ s6.2.2.2 < ((f_0l : Nat) : Int)) ∧
 ∃ x48 : Int, w46.cell? ((a47.add ((s6.2.2.2).toNat * 7)).add 1) = some (.int .i64 x48) ∧
 (withSome f_0 fun (a49 : Addr) =>
 (0 ≤ s6.2.2.2 ∧ s6.2.2.2 < ((f_0l : Nat) : Int)) ∧
 ∃ x50 : ByteArray, w46.cell? (a49.add ((s6.2.2.2).toNat * 7)) = some (.string x50) ∧
 ((CallR pg f_aqueductref5_code [(.int .i64 x48)] w46 (fun ch w => R (.panicked ch) w) fun v51 w52 =>
 ∃ y53 : Int, v51 = (.int .u8 y53) ∧
 (w52.cell? (a49.add ((s6.2.2.2).toNat * 7)) = some (.string x50)) ∧ ((New w52 (.cells #[(.int .u8 y53)] t_uint8 (0, 0)) fun b54 w55 =>
 (w55.cell? (a49.add ((s6.2.2.2).toNat * 7)) = some (.string x50)) ∧ ((Prim pg (Builtin.append_ #[t_Suint8, t_Suint8] t_Suint8 #[(.slice s6.1.1 s6.1.2.1 s6.1.2.2), (.slice (some (⟨b54, 0, none⟩ : Addr)) 1 1)]) w55 fun v56 w57 =>
 ∃ (y58 : Option Addr) (l59 c60 : Nat), v56 = (.slice y58 l59 c60) ∧
 (w57.cell? (a49.add ((s6.2.2.2).toNat * 7)) = some (.string x50)) ∧ ((Prim pg (Builtin.append_ #[t_Suint8, t_string] t_Suint8 #[(.slice y58 l59 c60), (.string x50)]) w57 fun v61 w62 =>
 ∃ (y63 : Option Addr) (l64 c65 : Nat), v61 = (.slice y63 l64 c65) ∧
 (New w62 (.cells #[(.int .u8 (0 : Int))] t_uint8 (0, 0)) fun b66 w67 =>
 (Prim pg (Builtin.append_ #[t_Suint8, t_Suint8] t_Suint8 #[(.slice y63 l64 c65), (.slice (some (⟨b66, 0, none⟩ : Addr)) 1 1)]) w67 fun v68 w69 =>
 ∃ (y70 : Option Addr) (l71 c72 : Nat), v68 = (.slice y70 l71 c72) ∧
 (Prim pg (Builtin.append_ #[t_Suint8, t_Suint8] t_Suint8 #[(.slice y70 l71 c72), (.slice y24 l25 c26)]) w69 fun v73 w74 =>
 ∃ (y75 : Option Addr) (l76 c77 : Nat), v73 = (.slice y75 l76 c77) ∧
 (cond (decide (((l76 : Nat) : Int) > (65536 : Int)))
 (R (.returned (.tuple #[(.slice none 0 0), (.bool false)])) w74)
 (X5 ((y75, l76, c77), (s38.1.1, s38.1.2.1, s38.1.2.2), s38.2.1, (IntKind.i64.wrap (s6.2.2.2 + (1 : Int)))) w74))))))) ∧
 ((New w57 (.cells #[(.int .u8 (0 : Int))] t_uint8 (0, 0)) fun b78 w79 =>
 (w79.cell? (a49.add ((s6.2.2.2).toNat * 7)) = some (.string x50)) ∧ (Prim pg (Builtin.append_ #[t_Suint8, t_string] t_Suint8 #[(.slice y58 l59 c60), (.string x50)]) w79 fun v80 w81 =>
 ∃ (y82 : Option Addr) (l83 c84 : Nat), v80 = (.slice y82 l83 c84) ∧
 (Prim pg (Builtin.append_ #[t_Suint8, t_Suint8] t_Suint8 #[(.slice y82 l83 c84), (.slice (some (⟨b78, 0, none⟩ : Addr)) 1 1)]) w81 fun v85 w86 =>
 ∃ (y87 : Option Addr) (l88 c89 : Nat), v85 = (.slice y87 l88 c89) ∧
 (Prim pg (Builtin.append_ #[t_Suint8, t_Suint8] t_Suint8 #[(.slice y87 l88 c89), (.slice y24 l25 c26)]) w86 fun v90 w91 =>
 ∃ (y92 : Option Addr) (l93 c94 : Nat), v90 = (.slice y92 l93 c94) ∧
 (cond (decide (((l93 : Nat) : Int) > (65536 : Int)))
 (R (.returned (.tuple #[(.slice none 0 0), (.bool false)])) w91)
 (X5 ((y92, l93, c94), (s38.1.1, s38.1.2.1, s38.1.2.2), s38.2.1, (IntKind.i64.wrap (s6.2.2.2 + (1 : Int)))) w91))))))))) ∧
 ((New w55 (.cells #[(.int .u8 (0 : Int))] t_uint8 (0, 0)) fun b95 w96 =>
 (w96.cell? (a49.add ((s6.2.2.2).toNat * 7)) = some (.string x50)) ∧ (Prim pg (Builtin.append_ #[t_Suint8, t_Suint8] t_Suint8 #[(.slice s6.1.1 s6.1.2.1 s6.1.2.2), (.slice (some (⟨b54, 0, none⟩ : Addr)) 1 1)]) w96 fun v97 w98 =>
 ∃ (y99 : Option Addr) (l100 c101 : Nat), v97 = (.slice y99 l100 c101) ∧
 (w98.cell? (a49.add ((s6.2.2.2).toNat * 7)) = some (.string x50)) ∧ (Prim pg (Builtin.append_ #[t_Suint8, t_string] t_Suint8 #[(.slice y99 l100 c101), (.string x50)]) w98 fun v102 w103 =>
 ∃ (y104 : Option Addr) (l105 c106 : Nat), v102 = (.slice y104 l105 c106) ∧
 (Prim pg (Builtin.append_ #[t_Suint8, t_Suint8] t_Suint8 #[(.slice y104 l105 c106), (.slice (some (⟨b95, 0, none⟩ : Addr)) 1 1)]) w103 fun v107 w108 =>
 ∃ (y109 : Option Addr) (l110 c111 : Nat), v107 = (.slice y109 l110 c111) ∧
 (Prim pg (Builtin.append_ #[t_Suint8, t_Suint8] t_Suint8 #[(.slice y109 l110 c111), (.slice y24 l25 c26)]) w108 fun v112 w113 =>
 ∃ (y114 : Option Addr) (l115 c116 : Nat), v112 = (.slice y114 l115 c116) ∧
 (cond (decide (((l115 : Nat) : Int) > (65536 : Int)))
 (R (.returned (.tuple #[(.slice none 0 0), (.bool false)])) w113)
 (X5 ((y114, l115, c116), (s38.1.1, s38.1.2.1, s38.1.2.2), s38.2.1, (IntKind.i64.wrap (s6.2.2.2 + (1 : Int)))) w113)))))))))) ∧
 ((New w52 (.cells #[(.int .u8 (0 : Int))] t_uint8 (0, 0)) fun b117 w118 =>
 (w118.cell? (a49.add ((s6.2.2.2).toNat * 7)) = some (.string x50)) ∧ (New w118 (.cells #[(.int .u8 y53)] t_uint8 (0, 0)) fun b119 w120 =>
 (w120.cell? (a49.add ((s6.2.2.2).toNat * 7)) = some (.string x50)) ∧ (Prim pg (Builtin.append_ #[t_Suint8, t_Suint8] t_Suint8 #[(.slice s6.1.1 s6.1.2.1 s6.1.2.2), (.slice (some (⟨b119, 0, none⟩ : Addr)) 1 1)]) w120 fun v121 w122 =>
 ∃ (y123 : Option Addr) (l124 c125 : Nat), v121 = (.slice y123 l124 c125) ∧
 (w122.cell? (a49.add ((s6.2.2.2).toNat * 7)) = some (.string x50)) ∧ (Prim pg (Builtin.append_ #[t_Suint8, t_string] t_Suint8 #[(.slice y123 l124 c125), (.string x50)]) w122 fun v126 w127 =>
 ∃ (y128 : Option Addr) (l129 c130 : Nat), v126 = (.slice y128 l129 c130) ∧
 (Prim pg (Builtin.append_ #[t_Suint8, t_Suint8] t_Suint8 #[(.slice y128 l129 c130), (.slice (some (⟨b117, 0, none⟩ : Addr)) 1 1)]) w127 fun v131 w132 =>
 ∃ (y133 : Option Addr) (l134 c135 : Nat), v131 = (.slice y133 l134 c135) ∧
 (Prim pg (Builtin.append_ #[t_Suint8, t_Suint8] t_Suint8 #[(.slice y133 l134 c135), (.slice y24 l25 c26)]) w132 fun v136 w137 =>
 ∃ (y138 : Option Addr) (l139 c140 : Nat), v136 = (.slice y138 l139 c140) ∧
 (cond (decide (((l139 : Nat) : Int) > (65536 : Int)))
 (R (.returned (.tuple #[(.slice none 0 0), (.bool false)])) w137)
 (X5 ((y138, l139, c140), (s38.1.1, s38.1.2.1, s38.1.2.2), s38.2.1, (IntKind.i64.wrap (s6.2.2.2 + (1 : Int)))) w137))))))))))) ∧
 ((New w46 (.cells #[(.int .u8 (0 : Int))] t_uint8 (0, 0)) fun b141 w142 =>
 (w142.cell? (a49.add ((s6.2.2.2).toNat * 7)) = some (.string x50)) ∧ (w142.cell? ((a47.add ((s6.2.2.2).toNat * 7)).add 1) = some (.int .i64 x48)) ∧ (CallR pg f_aqueductref5_code [(.int .i64 x48)] w142 (fun ch w => R (.panicked ch) w) fun v143 w144 =>
 ∃ y145 : Int, v143 = (.int .u8 y145) ∧
 (w144.cell? (a49.add ((s6.2.2.2).toNat * 7)) = some (.string x50)) ∧ (New w144 (.cells #[(.int .u8 y145)] t_uint8 (0, 0)) fun b146 w147 =>
 (w147.cell? (a49.add ((s6.2.2.2).toNat * 7)) = some (.string x50)) ∧ (Prim pg (Builtin.append_ #[t_Suint8, t_Suint8] t_Suint8 #[(.slice s6.1.1 s6.1.2.1 s6.1.2.2), (.slice (some (⟨b146, 0, none⟩ : Addr)) 1 1)]) w147 fun v148 w149 =>
 ∃ (y150 : Option Addr) (l151 c152 : Nat), v148 = (.slice y150 l151 c152) ∧
 (w149.cell? (a49.add ((s6.2.2.2).toNat * 7)) = some (.string x50)) ∧ (Prim pg (Builtin.append_ #[t_Suint8, t_string] t_Suint8 #[(.slice y150 l151 c152), (.string x50)]) w149 fun v153 w154 =>
 ∃ (y155 : Option Addr) (l156 c157 : Nat), v153 = (.slice y155 l156 c157) ∧
 (Prim pg (Builtin.append_ #[t_Suint8, t_Suint8] t_Suint8 #[(.slice y155 l156 c157), (.slice (some (⟨b141, 0, none⟩ : Addr)) 1 1)]) w154 fun v158 w159 =>
 ∃ (y160 : Option Addr) (l161 c162 : Nat), v158 = (.slice y160 l161 c162) ∧
 (Prim pg (Builtin.append_ #[t_Suint8, t_Suint8] t_Suint8 #[(.slice y160 l161 c162), (.slice y24 l25 c26)]) w159 fun v163 w164 =>
 ∃ (y165 : Option Addr) (l166 c167 : Nat), v163 = (.slice y165 l166 c167) ∧
 (cond (decide (((l166 : Nat) : Int) > (65536 : Int)))
 (R (.returned (.tuple #[(.slice none 0 0), (.bool false)])) w164)
 (X5 ((y165, l166, c167), (s38.1.1, s38.1.2.1, s38.1.2.2), s38.2.1, (IntKind.i64.wrap (s6.2.2.2 + (1 : Int)))) w164)))))))))))))))) ((s6.2.1.1, s6.2.1.2.1, s6.2.1.2.2), s6.2.2.1, (0 : Int)) w30))))))))
 ((New w7 (.cells #[(.int .u8 (0 : Int))] t_uint8 (0, 0)) fun b168 w169 =>
 (Prim pg (Builtin.append_ #[t_Suint8, t_Suint8] t_Suint8 #[(.slice s6.1.1 s6.1.2.1 s6.1.2.2), (.slice (some (⟨b168, 0, none⟩ : Addr)) 1 1)]) w169 fun v170 w171 =>
 ∃ (y172 : Option Addr) (l173 c174 : Nat), v170 = (.slice y172 l173 c174) ∧
 (CallR pg f_aqueductref5_num [(.int .i64 ((l173 : Nat) : Int)), (.int .i64 (4 : Int))] w171 (fun ch w => R (.panicked ch) w) fun v175 w176 =>
 ∃ (y177 : Option Addr) (l178 c179 : Nat), v175 = (.slice y177 l178 c179) ∧
 (Prim pg (Builtin.copy_ #[t_Suint8, t_Suint8] t_int #[(.slice y172 l173 c174), (.slice y177 l178 c179)]) w176 fun v180 w181 =>
 ∃ y182 : Int, v180 = (.int .i64 y182) ∧
 R (.returned (.tuple #[(.slice y172 l173 c174), (.bool (decide (((l173 : Nat) : Int) ≤ (65536 : Int))))])) w181))))))) ((y2, l3, c4), (none, 0, 0), false, (0 : Int)) w1))
theorem e_aqueductref5_fields (f_0 : Option Addr) (f_0l f_0c : Nat) (depth_1 : Int) (w : World) (R : Ending → World → Prop) : funcX pg T bl Try.f87 [(.slice f_0 f_0l f_0c), (.int .i64 depth_1)] w R = c_aqueductref5_fields f_0 f_0l f_0c  depth_1  w R := by kernel_rfl
theorem of_aqueductref5_fields (f_0 : Option Addr) (f_0l f_0c : Nat) (depth_1 : Int) {w : World} {R : Ending → World → Prop} (h : c_aqueductref5_fields f_0 f_0l f_0c  depth_1  w R) : Calls pg f_aqueductref5_fields #[(.slice f_0 f_0l f_0c), (.int .i64 depth_1)] w R :=
  funcX_of mixed tok blok Try.func87 (args := [(.slice f_0 f_0l f_0c), (.int .i64 depth_1)]) (e_aqueductref5_fields f_0 f_0l f_0c  depth_1  w R) h
/-- aqueduct/aqueductref5.code -/
def c_aqueductref5_code (kind_0 : Int) (w : World) (R : Ending → World → Prop) : Prop :=
 (cond (kind_0 == (1 : Int))
 (R (.returned (.int .u8 (255 : Int))) w)
 ((cond (kind_0 == (2 : Int))
 (R (.returned (.int .u8 (10 : Int))) w)
 ((cond (kind_0 == (3 : Int))
 (R (.returned (.int .u8 (16 : Int))) w)
 ((cond (kind_0 == (4 : Int))
 (R (.returned (.int .u8 (18 : Int))) w)
 ((cond (kind_0 == (5 : Int))
 (R (.returned (.int .u8 (2 : Int))) w)
 ((cond (kind_0 == (6 : Int))
 (R (.returned (.int .u8 (3 : Int))) w)
 ((cond (kind_0 == (7 : Int))
 (R (.returned (.int .u8 (4 : Int))) w)
 ((cond (kind_0 == (8 : Int))
 (R (.returned (.int .u8 (5 : Int))) w)
 ((cond (kind_0 == (9 : Int))
 (R (.returned (.int .u8 (7 : Int))) w)
 ((cond (kind_0 == (10 : Int))
 (R (.returned (.int .u8 (8 : Int))) w)
 ((cond (kind_0 == (11 : Int))
 (R (.returned (.int .u8 (9 : Int))) w)
 ((cond (kind_0 == (12 : Int))
 (R (.returned (.int .u8 (127 : Int))) w)
 (R (.returned (.int .u8 (0 : Int))) w))))))))))))))))))))))))
theorem e_aqueductref5_code (kind_0 : Int) (w : World) (R : Ending → World → Prop) : funcX pg T bl Try.f98 [(.int .i64 kind_0)] w R = c_aqueductref5_code kind_0  w R := by kernel_rfl
theorem of_aqueductref5_code (kind_0 : Int) {w : World} {R : Ending → World → Prop} (h : c_aqueductref5_code kind_0  w R) : Calls pg f_aqueductref5_code #[(.int .i64 kind_0)] w R :=
  funcX_of mixed tok blok Try.func98 (args := [(.int .i64 kind_0)]) (e_aqueductref5_code kind_0  w R) h
/-- (*aqueduct/window.window).Next -/
def c_Pwindow_window_Next (w_0 : Option Addr) (w : World) (R : Ending → World → Prop) : Prop :=
 (New w (.cells #[(.int .i64 (0 : Int)), (.int .i64 (0 : Int)), (.string (⟨#[]⟩ : ByteArray)), (.slice none 0 0), (.slice none 0 0), (.slice none 0 0)] t_api_Value (0, 0)) fun b0 w1 =>
 (withSome w_0 fun (a2 : Addr) =>
 ∃ x3 : Bool, w1.cell? (a2.add 3) = some (.bool x3) ∧
 (cond x3
 ((St w1 ⟨b0, 0, none⟩ (.int .i64 (0 : Int)) fun w4 =>
 (St w4 ⟨b0, 1, none⟩ (.int .i64 (0 : Int)) fun w5 =>
 (St w5 ⟨b0, 2, none⟩ (.string (⟨#[]⟩ : ByteArray)) fun w6 =>
 (St w6 ⟨b0, 3, none⟩ (.slice none 0 0) fun w7 =>
 (St w7 ⟨b0, 4, none⟩ (.slice none 0 0) fun w8 =>
 (St w8 ⟨b0, 5, none⟩ (.slice none 0 0) fun w9 =>
 ∃ x10 : Int, w9.cell? ⟨b0, 0, none⟩ = some (.int .i64 x10) ∧
 ∃ x11 : Int, w9.cell? ⟨b0, 1, none⟩ = some (.int .i64 x11) ∧
 ∃ x12 : ByteArray, w9.cell? ⟨b0, 2, none⟩ = some (.string x12) ∧
 ∃ (x13 : Option Addr) (l14 c15 : Nat), w9.cell? ⟨b0, 3, none⟩ = some (.slice x13 l14 c15) ∧
 ∃ (x16 : Option Addr) (l17 c18 : Nat), w9.cell? ⟨b0, 4, none⟩ = some (.slice x16 l17 c18) ∧
 ∃ (x19 : Option Addr) (l20 c21 : Nat), w9.cell? ⟨b0, 5, none⟩ = some (.slice x19 l20 c21) ∧
 R (.returned (.tuple #[(.agg #[(.int .i64 x10), (.int .i64 x11), (.string x12), (.slice x13 l14 c15), (.slice x16 l17 c18), (.slice x19 l20 c21)]), (.bool false), (.int .i64 (0 : Int))])) w9)))))))
 ((withSome w_0 fun (a22 : Addr) =>
 ∃ x23 : Value, w1.cell? (a22.add 4) = some x23 ∧
 (CallV pg bl x23 [(.pointer w_0)] w1 (fun ch w => R (.panicked ch) w) fun v24 w25 =>
 ∃ y26 : Int, ∃ y27 : Int, ∃ y28 : ByteArray, ∃ (y29 : Option Addr) (l30 c31 : Nat), ∃ (y32 : Option Addr) (l33 c34 : Nat), ∃ (y35 : Option Addr) (l36 c37 : Nat), ∃ y38 : Bool, ∃ y39 : Int, v24 = (.tuple #[(.agg #[(.int .i64 y26), (.int .i64 y27), (.string y28), (.slice y29 l30 c31), (.slice y32 l33 c34), (.slice y35 l36 c37)]), (.bool y38), (.int .i64 y39)]) ∧
 (New w25 (.cells #[(.int .i64 (0 : Int)), (.int .i64 (0 : Int)), (.string (⟨#[]⟩ : ByteArray)), (.slice none 0 0), (.slice none 0 0), (.slice none 0 0)] t_api_Value (0, 0)) fun b40 w41 =>
 (St w41 ⟨b40, 0, none⟩ (.int .i64 y26) fun w42 =>
 (St w42 ⟨b40, 1, none⟩ (.int .i64 y27) fun w43 =>
 (St w43 ⟨b40, 2, none⟩ (.string y28) fun w44 =>
 (St w44 ⟨b40, 3, none⟩ (.slice y29 l30 c31) fun w45 =>
 (St w45 ⟨b40, 4, none⟩ (.slice y32 l33 c34) fun w46 =>
 (St w46 ⟨b40, 5, none⟩ (.slice y35 l36 c37) fun w47 =>
 (Meet (σ := Bool) (fun J48 =>
 (cond (y39 != (0 : Int))
 (J48 true w47)
 (J48 (!y38) w47)))
 (fun s49 w50 =>
 ∀ j51 : Nat → Value, (cond s49
 ((CallR pg f_Pwindow_window_Close [(.pointer w_0)] w50 (fun ch w => R (.panicked ch) w) fun v52 w53 =>
 v52 = (.tuple #[]) ∧
 (St w53 ⟨b0, 0, none⟩ (.int .i64 (0 : Int)) fun w54 =>
 (St w54 ⟨b0, 1, none⟩ (.int .i64 (0 : Int)) fun w55 =>
 (St w55 ⟨b0, 2, none⟩ (.string (⟨#[]⟩ : ByteArray)) fun w56 =>
 (St w56 ⟨b0, 3, none⟩ (.slice none 0 0) fun w57 =>
 (St w57 ⟨b0, 4, none⟩ (.slice none 0 0) fun w58 =>
 (St w58 ⟨b0, 5, none⟩ (.slice none 0 0) fun w59 =>
 ∃ x60 : Int, w59.cell? ⟨b0, 0, none⟩ = some (.int .i64 x60) ∧
 ∃ x61 : Int, w59.cell? ⟨b0, 1, none⟩ = some (.int .i64 x61) ∧
 ∃ x62 : ByteArray, w59.cell? ⟨b0, 2, none⟩ = some (.string x62) ∧
 ∃ (x63 : Option Addr) (l64 c65 : Nat), w59.cell? ⟨b0, 3, none⟩ = some (.slice x63 l64 c65) ∧
 ∃ (x66 : Option Addr) (l67 c68 : Nat), w59.cell? ⟨b0, 4, none⟩ = some (.slice x66 l67 c68) ∧
 ∃ (x69 : Option Addr) (l70 c71 : Nat), w59.cell? ⟨b0, 5, none⟩ = some (.slice x69 l70 c71) ∧
 R (.returned (.tuple #[(.agg #[(.int .i64 x60), (.int .i64 x61), (.string x62), (.slice x63 l64 c65), (.slice x66 l67 c68), (.slice x69 l70 c71)]), (.bool false), (.int .i64 y39)])) w59))))))))
 (∃ x72 : Int, w50.cell? ⟨b40, 0, none⟩ = some (.int .i64 x72) ∧
 ∃ x73 : Int, w50.cell? ⟨b40, 1, none⟩ = some (.int .i64 x73) ∧
 ∃ x74 : ByteArray, w50.cell? ⟨b40, 2, none⟩ = some (.string x74) ∧
 ∃ (x75 : Option Addr) (l76 c77 : Nat), w50.cell? ⟨b40, 3, none⟩ = some (.slice x75 l76 c77) ∧
 ∃ (x78 : Option Addr) (l79 c80 : Nat), w50.cell? ⟨b40, 4, none⟩ = some (.slice x78 l79 c80) ∧
 ∃ (x81 : Option Addr) (l82 c83 : Nat), w50.cell? ⟨b40, 5, none⟩ = some (.slice x81 l82 c83) ∧
 (St w50 ⟨b0, 0, none⟩ (.int .i64 x72) fun w84 =>
 (St w84 ⟨b0, 1, none⟩ (.int .i64 x73) fun w85 =>
 (St w85 ⟨b0, 2, none⟩ (.string x74) fun w86 =>
 (St w86 ⟨b0, 3, none⟩ (.slice x75 l76 c77) fun w87 =>
 (St w87 ⟨b0, 4, none⟩ (.slice x78 l79 c80) fun w88 =>
 (St w88 ⟨b0, 5, none⟩ (.slice x81 l82 c83) fun w89 =>
 ∃ x90 : Int, w89.cell? ⟨b0, 0, none⟩ = some (.int .i64 x90) ∧
 ∃ x91 : Int, w89.cell? ⟨b0, 1, none⟩ = some (.int .i64 x91) ∧
 ∃ x92 : ByteArray, w89.cell? ⟨b0, 2, none⟩ = some (.string x92) ∧
 ∃ (x93 : Option Addr) (l94 c95 : Nat), w89.cell? ⟨b0, 3, none⟩ = some (.slice x93 l94 c95) ∧
 ∃ (x96 : Option Addr) (l97 c98 : Nat), w89.cell? ⟨b0, 4, none⟩ = some (.slice x96 l97 c98) ∧
 ∃ (x99 : Option Addr) (l100 c101 : Nat), w89.cell? ⟨b0, 5, none⟩ = some (.slice x99 l100 c101) ∧
 R (.returned (.tuple #[(.agg #[(.int .i64 x90), (.int .i64 x91), (.string x92), (.slice x93 l94 c95), (.slice x96 l97 c98), (.slice x99 l100 c101)]), (.bool true), (.int .i64 (0 : Int))])) w89)))))))))))))))))))))))
theorem e_Pwindow_window_Next (w_0 : Option Addr) (w : World) (R : Ending → World → Prop) : funcX pg T bl Try.f118 [(.pointer w_0)] w R = c_Pwindow_window_Next w_0  w R := by kernel_rfl
theorem of_Pwindow_window_Next (w_0 : Option Addr) {w : World} {R : Ending → World → Prop} (h : c_Pwindow_window_Next w_0  w R) : Calls pg f_Pwindow_window_Next #[(.pointer w_0)] w R :=
  funcX_of mixed tok blok Try.func118 (args := [(.pointer w_0)]) (e_Pwindow_window_Next w_0  w R) h
/-- (*aqueduct/source.row).Close -/
def c_Psource_row_Close (r_0 : Option Addr) (w : World) (R : Ending → World → Prop) : Prop :=
 (withSome r_0 fun (a0 : Addr) =>
 (St w a0 (.slice none 0 0) fun w1 =>
 (withSome r_0 fun (a2 : Addr) =>
 (St w1 (a2.add 1) (.int .i64 (0 : Int)) fun w3 =>
 R (.returned (.tuple #[])) w3))))
theorem e_Psource_row_Close (r_0 : Option Addr) (w : World) (R : Ending → World → Prop) : funcX pg T bl Try.f119 [(.pointer r_0)] w R = c_Psource_row_Close r_0  w R := by kernel_rfl
theorem of_Psource_row_Close (r_0 : Option Addr) {w : World} {R : Ending → World → Prop} (h : c_Psource_row_Close r_0  w R) : Calls pg f_Psource_row_Close #[(.pointer r_0)] w R :=
  funcX_of mixed tok blok Try.func119 (args := [(.pointer r_0)]) (e_Psource_row_Close r_0  w R) h
end Go.Proofs.Sw
