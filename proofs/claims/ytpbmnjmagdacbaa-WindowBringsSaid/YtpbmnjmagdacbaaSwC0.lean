/- By a program of mine (Gen): the conditions of the functions, part 0. -/
import Derived.Test.YtpbmnjmagdacbaaSwTab
set_option linter.unusedVariables false
set_option maxRecDepth 100000
namespace Go.Proofs.Sw
open Go Go.Eng
open Go.Proofs
/-- aqueduct/aqueductlaw20.WindowCounts -/
def c_aqueductlaw20_WindowCounts (l_0 : Option Addr) (l_0l l_0c : Nat) (name_1 : ByteArray) (w : World) (R : Ending → World → Prop) : Prop :=
 (CallR pg f_aqueductlaw20_awake [] w (fun ch w => R (.panicked ch) w) fun v0 w1 =>
 ∃ y2 : Bool, v0 = (.bool y2) ∧
 (cond (!y2)
 (R (.returned (.bool false)) w1)
 ((Meet (σ := Bool) (fun J3 =>
 (CallR pg f_aqueductlaw17_Docs [(.slice l_0 l_0l l_0c), (.int .i64 (30 : Int))] w1 (fun ch w => R (.panicked ch) w) fun v6 w7 =>
 ∃ y8 : Bool, v6 = (.bool y8) ∧
 (cond (!y8)
 (J3 true w7)
 ((CallR pg f_aqueductref16_NameMay [(.string name_1)] w7 (fun ch w => R (.panicked ch) w) fun v9 w10 =>
 ∃ y11 : Bool, v9 = (.bool y11) ∧
 J3 (!y11) w10)))))
 (fun s4 w5 =>
 ∀ j12 : Nat → Value, (cond s4
 (R (.returned (.bool true)) w5)
 ((CallR pg f_source_Of [(.slice l_0 l_0l l_0c), (.int .i64 (0 : Int))] w5 (fun ch w => R (.panicked ch) w) fun v13 w14 =>
 ∃ y15 : Value, v13 = y15 ∧
 (CallR pg f_window_Count [y15, (.string name_1)] w14 (fun ch w => R (.panicked ch) w) fun v16 w17 =>
 ∃ y18 : Value, v16 = y18 ∧
 (CallR pg f_aqueductlaw17_Told [y18, (.int .i64 (3 : Int))] w17 (fun ch w => R (.panicked ch) w) fun v19 w20 =>
 ∃ (y21 : Option Addr) (l22 c23 : Nat), ∃ y24 : Int, v19 = (.tuple #[(.slice y21 l22 c23), (.int .i64 y24)]) ∧
 (cond (((l_0l : Nat) : Int) == (0 : Int))
 ((Meet (σ := Bool) (fun J25 =>
 (cond (y24 == (0 : Int))
 ((cond (((l22 : Nat) : Int) == (0 : Int))
 ((CallR pg f_aqueductlaw17_Ends [y18] w20 (fun ch w => R (.panicked ch) w) fun v28 w29 =>
 ∃ y30 : Bool, v28 = (.bool y30) ∧
 J25 y30 w29))
 (J25 false w20)))
 (J25 false w20)))
 (fun s26 w27 =>
 ∀ j31 : Nat → Value, R (.returned (.bool s26)) w27)))
 ((Meet (σ := Bool) (fun J32 =>
 (cond (y24 == (0 : Int))
 ((cond (((l22 : Nat) : Int) == (1 : Int))
 ((withSome y21 fun (a35 : Addr) =>
 (0 ≤ (0 : Int) ∧ (0 : Int) < ((l22 : Nat) : Int)) ∧
 ∃ (x36 : Option Addr) (l37 c38 : Nat), w20.cell? ((a35.add (((0 : Int)).toNat * 6)).add 4) = some (.slice x36 l37 c38) ∧
 (cond (((l37 : Nat) : Int) == (1 : Int))
 ((withSome y21 fun (a39 : Addr) =>
 (0 ≤ (0 : Int) ∧ (0 : Int) < ((l22 : Nat) : Int)) ∧
 ∃ (x40 : Option Addr) (l41 c42 : Nat), w20.cell? ((a39.add (((0 : Int)).toNat * 6)).add 4) = some (.slice x40 l41 c42) ∧
 (withSome x40 fun (a43 : Addr) =>
 (0 ≤ (0 : Int) ∧ (0 : Int) < ((l41 : Nat) : Int)) ∧
 ∃ x44 : ByteArray, w20.cell? (a43.add (((0 : Int)).toNat * 7)) = some (.string x44) ∧
 (cond (x44.toList == name_1.toList)
 ((withSome y21 fun (a45 : Addr) =>
 (0 ≤ (0 : Int) ∧ (0 : Int) < ((l22 : Nat) : Int)) ∧
 ∃ (x46 : Option Addr) (l47 c48 : Nat), w20.cell? ((a45.add (((0 : Int)).toNat * 6)).add 4) = some (.slice x46 l47 c48) ∧
 (withSome x46 fun (a49 : Addr) =>
 (0 ≤ (0 : Int) ∧ (0 : Int) < ((l47 : Nat) : Int)) ∧
 ∃ x50 : Int, w20.cell? ((a49.add (((0 : Int)).toNat * 7)).add 1) = some (.int .i64 x50) ∧
 (cond (x50 == (3 : Int))
 ((withSome y21 fun (a51 : Addr) =>
 (0 ≤ (0 : Int) ∧ (0 : Int) < ((l22 : Nat) : Int)) ∧
 ∃ (x52 : Option Addr) (l53 c54 : Nat), w20.cell? ((a51.add (((0 : Int)).toNat * 6)).add 4) = some (.slice x52 l53 c54) ∧
 (withSome x52 fun (a55 : Addr) =>
 (0 ≤ (0 : Int) ∧ (0 : Int) < ((l53 : Nat) : Int)) ∧
 ∃ x56 : Int, w20.cell? (((a55.add (((0 : Int)).toNat * 7)).add 1).add 1) = some (.int .i64 x56) ∧
 (cond (x56 == ((l_0l : Nat) : Int))
 ((CallR pg f_aqueductlaw17_Ends [y18] w20 (fun ch w => R (.panicked ch) w) fun v57 w58 =>
 ∃ y59 : Bool, v57 = (.bool y59) ∧
 J32 y59 w58))
 (J32 false w20)))))
 (J32 false w20)))))
 (J32 false w20)))))
 (J32 false w20))))
 (J32 false w20)))
 (J32 false w20)))
 (fun s33 w34 =>
 ∀ j60 : Nat → Value, R (.returned (.bool s33)) w34))))))))))))))
theorem e_aqueductlaw20_WindowCounts (l_0 : Option Addr) (l_0l l_0c : Nat) (name_1 : ByteArray) (w : World) (R : Ending → World → Prop) : funcX pg T bl Try.f5 [(.slice l_0 l_0l l_0c), (.string name_1)] w R = c_aqueductlaw20_WindowCounts l_0 l_0l l_0c  name_1  w R := by kernel_rfl
theorem of_aqueductlaw20_WindowCounts (l_0 : Option Addr) (l_0l l_0c : Nat) (name_1 : ByteArray) {w : World} {R : Ending → World → Prop} (h : c_aqueductlaw20_WindowCounts l_0 l_0l l_0c  name_1  w R) : Calls pg f_aqueductlaw20_WindowCounts #[(.slice l_0 l_0l l_0c), (.string name_1)] w R :=
  funcX_of mixed tok blok Try.func5 (args := [(.slice l_0 l_0l l_0c), (.string name_1)]) (e_aqueductlaw20_WindowCounts l_0 l_0l l_0c  name_1  w R) h
/-- aqueduct/aqueductlaw20.awake -/
def c_aqueductlaw20_awake  (w : World) (R : Ending → World → Prop) : Prop :=
 (New w (.cells #[(.int .i64 (0 : Int)), (.int .i64 (0 : Int)), (.string (⟨#[]⟩ : ByteArray)), (.slice none 0 0), (.slice none 0 0), (.slice none 0 0)] t_api_Value (0, 0)) fun b0 w1 =>
 (St w1 ⟨b0, 0, none⟩ (.int .i64 (6 : Int)) fun w2 =>
 (St w2 ⟨b0, 1, none⟩ (.int .i64 (0 : Int)) fun w3 =>
 (St w3 ⟨b0, 2, none⟩ (.string (⟨#[]⟩ : ByteArray)) fun w4 =>
 (St w4 ⟨b0, 3, none⟩ (.slice none 0 0) fun w5 =>
 (St w5 ⟨b0, 4, none⟩ (.slice none 0 0) fun w6 =>
 (St w6 ⟨b0, 5, none⟩ (.slice none 0 0) fun w7 =>
 ∃ x8 : Int, w7.cell? ⟨b0, 0, none⟩ = some (.int .i64 x8) ∧
 ∃ x9 : Int, w7.cell? ⟨b0, 1, none⟩ = some (.int .i64 x9) ∧
 ∃ x10 : ByteArray, w7.cell? ⟨b0, 2, none⟩ = some (.string x10) ∧
 ∃ (x11 : Option Addr) (l12 c13 : Nat), w7.cell? ⟨b0, 3, none⟩ = some (.slice x11 l12 c13) ∧
 ∃ (x14 : Option Addr) (l15 c16 : Nat), w7.cell? ⟨b0, 4, none⟩ = some (.slice x14 l15 c16) ∧
 ∃ (x17 : Option Addr) (l18 c19 : Nat), w7.cell? ⟨b0, 5, none⟩ = some (.slice x17 l18 c19) ∧
 ∃ x20 : Int, w7.cell? ⟨b0, 0, none⟩ = some (.int .i64 x20) ∧
 ∃ x21 : Int, w7.cell? ⟨b0, 1, none⟩ = some (.int .i64 x21) ∧
 ∃ x22 : ByteArray, w7.cell? ⟨b0, 2, none⟩ = some (.string x22) ∧
 ∃ (x23 : Option Addr) (l24 c25 : Nat), w7.cell? ⟨b0, 3, none⟩ = some (.slice x23 l24 c25) ∧
 ∃ (x26 : Option Addr) (l27 c28 : Nat), w7.cell? ⟨b0, 4, none⟩ = some (.slice x26 l27 c28) ∧
 ∃ (x29 : Option Addr) (l30 c31 : Nat), w7.cell? ⟨b0, 5, none⟩ = some (.slice x29 l30 c31) ∧
 ∃ x32 : Int, w7.cell? ⟨b0, 0, none⟩ = some (.int .i64 x32) ∧
 ∃ x33 : Int, w7.cell? ⟨b0, 1, none⟩ = some (.int .i64 x33) ∧
 ∃ x34 : ByteArray, w7.cell? ⟨b0, 2, none⟩ = some (.string x34) ∧
 ∃ (x35 : Option Addr) (l36 c37 : Nat), w7.cell? ⟨b0, 3, none⟩ = some (.slice x35 l36 c37) ∧
 ∃ (x38 : Option Addr) (l39 c40 : Nat), w7.cell? ⟨b0, 4, none⟩ = some (.slice x38 l39 c40) ∧
 ∃ (x41 : Option Addr) (l42 c43 : Nat), w7.cell? ⟨b0, 5, none⟩ = some (.slice x41 l42 c43) ∧
 (New w7 (.cells #[(.int .i64 x8), (.int .i64 x9), (.string x10), (.slice x11 l12 c13), (.slice x14 l15 c16), (.slice x17 l18 c19), (.int .i64 x20), (.int .i64 x21), (.string x22), (.slice x23 l24 c25), (.slice x26 l27 c28), (.slice x29 l30 c31), (.int .i64 x32), (.int .i64 x33), (.string x34), (.slice x35 l36 c37), (.slice x38 l39 c40), (.slice x41 l42 c43)] t_api_Value (0, 0)) fun b44 w45 =>
 (CallR pg f_source_Of [(.slice (some (⟨b44, 0, none⟩ : Addr)) 3 3), (.int .i64 (11 : Int))] w45 (fun ch w => R (.panicked ch) w) fun v46 w47 =>
 ∃ y48 : Value, v46 = y48 ∧
 (CallR pg f_window_Limit [y48, (.int .i64 (2 : Int))] w47 (fun ch w => R (.panicked ch) w) fun v49 w50 =>
 ∃ y51 : Value, v49 = y51 ∧
 (CallR pg f_aqueductlaw17_Told [y51, (.int .i64 (5 : Int))] w50 (fun ch w => R (.panicked ch) w) fun v52 w53 =>
 ∃ (y54 : Option Addr) (l55 c56 : Nat), ∃ y57 : Int, v52 = (.tuple #[(.slice y54 l55 c56), (.int .i64 y57)]) ∧
 (CallR pg f_source_Of [(.slice (some (⟨b44, 0, none⟩ : Addr)) 3 3), (.int .i64 (0 : Int))] w53 (fun ch w => R (.panicked ch) w) fun v58 w59 =>
 ∃ y60 : Value, v58 = y60 ∧
 (CallR pg f_window_Skip [y60, (.int .i64 (2 : Int))] w59 (fun ch w => R (.panicked ch) w) fun v61 w62 =>
 ∃ y63 : Value, v61 = y63 ∧
 (CallR pg f_aqueductlaw17_Told [y63, (.int .i64 (5 : Int))] w62 (fun ch w => R (.panicked ch) w) fun v64 w65 =>
 ∃ (y66 : Option Addr) (l67 c68 : Nat), ∃ y69 : Int, v64 = (.tuple #[(.slice y66 l67 c68), (.int .i64 y69)]) ∧
 (CallR pg f_source_Of [(.slice (some (⟨b44, 0, none⟩ : Addr)) 3 3), (.int .i64 (0 : Int))] w65 (fun ch w => R (.panicked ch) w) fun v70 w71 =>
 ∃ y72 : Value, v70 = y72 ∧
 (CallR pg f_window_Count [y72, (.string (⟨#[110]⟩ : ByteArray))] w71 (fun ch w => R (.panicked ch) w) fun v73 w74 =>
 ∃ y75 : Value, v73 = y75 ∧
 (CallR pg f_aqueductlaw17_Told [y75, (.int .i64 (5 : Int))] w74 (fun ch w => R (.panicked ch) w) fun v76 w77 =>
 ∃ (y78 : Option Addr) (l79 c80 : Nat), ∃ y81 : Int, v76 = (.tuple #[(.slice y78 l79 c80), (.int .i64 y81)]) ∧
 (Meet (σ := Bool) (fun J82 =>
 (cond (y57 == (0 : Int))
 ((cond (y69 == (0 : Int))
 ((cond (y81 == (0 : Int))
 ((cond (((l55 : Nat) : Int) == (2 : Int))
 ((cond (((l67 : Nat) : Int) == (1 : Int))
 ((cond (((l79 : Nat) : Int) == (1 : Int))
 ((withSome y78 fun (a85 : Addr) =>
 (0 ≤ (0 : Int) ∧ (0 : Int) < ((l79 : Nat) : Int)) ∧
 ∃ (x86 : Option Addr) (l87 c88 : Nat), w77.cell? ((a85.add (((0 : Int)).toNat * 6)).add 4) = some (.slice x86 l87 c88) ∧
 (cond (((l87 : Nat) : Int) == (1 : Int))
 ((withSome y78 fun (a89 : Addr) =>
 (0 ≤ (0 : Int) ∧ (0 : Int) < ((l79 : Nat) : Int)) ∧
 ∃ (x90 : Option Addr) (l91 c92 : Nat), w77.cell? ((a89.add (((0 : Int)).toNat * 6)).add 4) = some (.slice x90 l91 c92) ∧
 (withSome x90 fun (a93 : Addr) =>
 (0 ≤ (0 : Int) ∧ (0 : Int) < ((l91 : Nat) : Int)) ∧
 ∃ x94 : Int, w77.cell? (((a93.add (((0 : Int)).toNat * 7)).add 1).add 1) = some (.int .i64 x94) ∧
 J82 (x94 == (3 : Int)) w77)))
 (J82 false w77))))
 (J82 false w77)))
 (J82 false w77)))
 (J82 false w77)))
 (J82 false w77)))
 (J82 false w77)))
 (J82 false w77)))
 (fun s83 w84 =>
 ∀ j95 : Nat → Value, R (.returned (.bool s83)) w84)))))))))))))))))))
theorem e_aqueductlaw20_awake  (w : World) (R : Ending → World → Prop) : funcX pg T bl Try.f6 [] w R = c_aqueductlaw20_awake  w R := by kernel_rfl
theorem of_aqueductlaw20_awake  {w : World} {R : Ending → World → Prop} (h : c_aqueductlaw20_awake  w R) : Calls pg f_aqueductlaw20_awake #[] w R :=
  funcX_of mixed tok blok Try.func6 (args := []) (e_aqueductlaw20_awake  w R) h
/-- aqueduct/source.Of -/
def c_source_Of (l_0 : Option Addr) (l_0l l_0c : Nat) (e_1 : Int) (w : World) (R : Ending → World → Prop) : Prop :=
 (New w (.cells #[(.slice none 0 0), (.int .i64 e_1)] t_source_row (0, 0)) fun b0 w1 =>
 (Eng.Loop (σ := Int) (fun X2 s3 w4 =>
 ∀ j5 : Nat → Value, (cond (decide (s3 < ((l_0l : Nat) : Int)))
 ((withSome l_0 fun (a6 : Addr) =>
 (0 ≤ s3 ∧ s3 < ((l_0l : Nat) : Int)) ∧
 ∃ x7 : Int, w4.cell? (a6.add ((s3).toNat * 6)) = some (.int .i64 x7) ∧
 ∃ x8 : Int, w4.cell? ((a6.add ((s3).toNat * 6)).add 1) = some (.int .i64 x8) ∧
 ∃ x9 : ByteArray, w4.cell? ((a6.add ((s3).toNat * 6)).add 2) = some (.string x9) ∧
 ∃ (x10 : Option Addr) (l11 c12 : Nat), w4.cell? ((a6.add ((s3).toNat * 6)).add 3) = some (.slice x10 l11 c12) ∧
 ∃ (x13 : Option Addr) (l14 c15 : Nat), w4.cell? ((a6.add ((s3).toNat * 6)).add 4) = some (.slice x13 l14 c15) ∧
 ∃ (x16 : Option Addr) (l17 c18 : Nat), w4.cell? ((a6.add ((s3).toNat * 6)).add 5) = some (.slice x16 l17 c18) ∧
 (New w4 (.cells #[(.int .i64 (0 : Int)), (.int .i64 (0 : Int)), (.string (⟨#[]⟩ : ByteArray)), (.slice none 0 0), (.slice none 0 0), (.slice none 0 0)] t_api_Value (0, 0)) fun b19 w20 =>
 (St w20 ⟨b19, 0, none⟩ (.int .i64 x7) fun w21 =>
 (St w21 ⟨b19, 1, none⟩ (.int .i64 x8) fun w22 =>
 (St w22 ⟨b19, 2, none⟩ (.string x9) fun w23 =>
 (St w23 ⟨b19, 3, none⟩ (.slice x10 l11 c12) fun w24 =>
 (St w24 ⟨b19, 4, none⟩ (.slice x13 l14 c15) fun w25 =>
 (St w25 ⟨b19, 5, none⟩ (.slice x16 l17 c18) fun w26 =>
 (Drew w26 fun w27 =>
 ∃ (x28 : Option Addr) (l29 c30 : Nat), w27.cell? ⟨b0, 0, none⟩ = some (.slice x28 l29 c30) ∧
 ∃ x31 : Int, w27.cell? ⟨b19, 0, none⟩ = some (.int .i64 x31) ∧
 ∃ x32 : Int, w27.cell? ⟨b19, 1, none⟩ = some (.int .i64 x32) ∧
 ∃ x33 : ByteArray, w27.cell? ⟨b19, 2, none⟩ = some (.string x33) ∧
 ∃ (x34 : Option Addr) (l35 c36 : Nat), w27.cell? ⟨b19, 3, none⟩ = some (.slice x34 l35 c36) ∧
 ∃ (x37 : Option Addr) (l38 c39 : Nat), w27.cell? ⟨b19, 4, none⟩ = some (.slice x37 l38 c39) ∧
 ∃ (x40 : Option Addr) (l41 c42 : Nat), w27.cell? ⟨b19, 5, none⟩ = some (.slice x40 l41 c42) ∧
 ((CallR pg f_bson_Copy [(.agg #[(.int .i64 x31), (.int .i64 x32), (.string x33), (.slice x34 l35 c36), (.slice x37 l38 c39), (.slice x40 l41 c42)])] w27 (fun ch w => R (.panicked ch) w) fun v43 w44 =>
 ∃ y45 : Int, ∃ y46 : Int, ∃ y47 : ByteArray, ∃ (y48 : Option Addr) (l49 c50 : Nat), ∃ (y51 : Option Addr) (l52 c53 : Nat), ∃ (y54 : Option Addr) (l55 c56 : Nat), v43 = (.agg #[(.int .i64 y45), (.int .i64 y46), (.string y47), (.slice y48 l49 c50), (.slice y51 l52 c53), (.slice y54 l55 c56)]) ∧
 (w44.cell? ⟨b0, 0, none⟩ = some (.slice x28 l29 c30)) ∧ (New w44 (.cells #[(.int .i64 (0 : Int)), (.int .i64 (0 : Int)), (.string (⟨#[]⟩ : ByteArray)), (.slice none 0 0), (.slice none 0 0), (.slice none 0 0)] t_api_Value (0, 0)) fun b57 w58 =>
 (w58.cell? ⟨b0, 0, none⟩ = some (.slice x28 l29 c30)) ∧ (Prim pg (Builtin.append_ #[t_Sapi_Value, t_Sapi_Value] t_Sapi_Value #[(.slice x28 l29 c30), (.slice (some (⟨b57, 0, none⟩ : Addr)) 1 1)]) w58 fun v59 w60 =>
 ∃ (y61 : Option Addr) (l62 c63 : Nat), v59 = (.slice y61 l62 c63) ∧
 (withSome y61 fun (a64 : Addr) =>
 (0 ≤ ((l29 : Nat) : Int) ∧ ((l29 : Nat) : Int) < ((l62 : Nat) : Int)) ∧
 ((St w60 (a64.add ((((l29 : Nat) : Int)).toNat * 6)) (.int .i64 y45) fun w65 =>
 (St w65 ((a64.add ((((l29 : Nat) : Int)).toNat * 6)).add 1) (.int .i64 y46) fun w66 =>
 (St w66 ((a64.add ((((l29 : Nat) : Int)).toNat * 6)).add 2) (.string y47) fun w67 =>
 (St w67 ((a64.add ((((l29 : Nat) : Int)).toNat * 6)).add 3) (.slice y48 l49 c50) fun w68 =>
 (St w68 ((a64.add ((((l29 : Nat) : Int)).toNat * 6)).add 4) (.slice y51 l52 c53) fun w69 =>
 (St w69 ((a64.add ((((l29 : Nat) : Int)).toNat * 6)).add 5) (.slice y54 l55 c56) fun w70 =>
 (St w70 ⟨b0, 0, none⟩ (.slice y61 l62 c63) fun w71 =>
 X2 (IntKind.i64.wrap (s3 + (1 : Int))) w71)))))))) ∧
 ((St w60 ⟨b0, 0, none⟩ (.slice y61 l62 c63) fun w72 =>
 (St w72 (a64.add ((((l29 : Nat) : Int)).toNat * 6)) (.int .i64 y45) fun w73 =>
 (St w73 ((a64.add ((((l29 : Nat) : Int)).toNat * 6)).add 1) (.int .i64 y46) fun w74 =>
 (St w74 ((a64.add ((((l29 : Nat) : Int)).toNat * 6)).add 2) (.string y47) fun w75 =>
 (St w75 ((a64.add ((((l29 : Nat) : Int)).toNat * 6)).add 3) (.slice y48 l49 c50) fun w76 =>
 (St w76 ((a64.add ((((l29 : Nat) : Int)).toNat * 6)).add 4) (.slice y51 l52 c53) fun w77 =>
 (St w77 ((a64.add ((((l29 : Nat) : Int)).toNat * 6)).add 5) (.slice y54 l55 c56) fun w78 =>
 X2 (IntKind.i64.wrap (s3 + (1 : Int))) w78))))))))))))) ∧
 ((New w27 (.cells #[(.int .i64 (0 : Int)), (.int .i64 (0 : Int)), (.string (⟨#[]⟩ : ByteArray)), (.slice none 0 0), (.slice none 0 0), (.slice none 0 0)] t_api_Value (0, 0)) fun b79 w80 =>
 (w80.cell? ⟨b19, 0, none⟩ = some (.int .i64 x31) ∧ w80.cell? ⟨b19, 1, none⟩ = some (.int .i64 x32) ∧ w80.cell? ⟨b19, 2, none⟩ = some (.string x33) ∧ w80.cell? ⟨b19, 3, none⟩ = some (.slice x34 l35 c36) ∧ w80.cell? ⟨b19, 4, none⟩ = some (.slice x37 l38 c39) ∧ w80.cell? ⟨b19, 5, none⟩ = some (.slice x40 l41 c42)) ∧ (w80.cell? ⟨b0, 0, none⟩ = some (.slice x28 l29 c30)) ∧ (CallR pg f_bson_Copy [(.agg #[(.int .i64 x31), (.int .i64 x32), (.string x33), (.slice x34 l35 c36), (.slice x37 l38 c39), (.slice x40 l41 c42)])] w80 (fun ch w => R (.panicked ch) w) fun v81 w82 =>
 ∃ y83 : Int, ∃ y84 : Int, ∃ y85 : ByteArray, ∃ (y86 : Option Addr) (l87 c88 : Nat), ∃ (y89 : Option Addr) (l90 c91 : Nat), ∃ (y92 : Option Addr) (l93 c94 : Nat), v81 = (.agg #[(.int .i64 y83), (.int .i64 y84), (.string y85), (.slice y86 l87 c88), (.slice y89 l90 c91), (.slice y92 l93 c94)]) ∧
 (w82.cell? ⟨b0, 0, none⟩ = some (.slice x28 l29 c30)) ∧ (Prim pg (Builtin.append_ #[t_Sapi_Value, t_Sapi_Value] t_Sapi_Value #[(.slice x28 l29 c30), (.slice (some (⟨b79, 0, none⟩ : Addr)) 1 1)]) w82 fun v95 w96 =>
 ∃ (y97 : Option Addr) (l98 c99 : Nat), v95 = (.slice y97 l98 c99) ∧
 (withSome y97 fun (a100 : Addr) =>
 (0 ≤ ((l29 : Nat) : Int) ∧ ((l29 : Nat) : Int) < ((l98 : Nat) : Int)) ∧
 ((St w96 (a100.add ((((l29 : Nat) : Int)).toNat * 6)) (.int .i64 y83) fun w101 =>
 (St w101 ((a100.add ((((l29 : Nat) : Int)).toNat * 6)).add 1) (.int .i64 y84) fun w102 =>
 (St w102 ((a100.add ((((l29 : Nat) : Int)).toNat * 6)).add 2) (.string y85) fun w103 =>
 (St w103 ((a100.add ((((l29 : Nat) : Int)).toNat * 6)).add 3) (.slice y86 l87 c88) fun w104 =>
 (St w104 ((a100.add ((((l29 : Nat) : Int)).toNat * 6)).add 4) (.slice y89 l90 c91) fun w105 =>
 (St w105 ((a100.add ((((l29 : Nat) : Int)).toNat * 6)).add 5) (.slice y92 l93 c94) fun w106 =>
 (St w106 ⟨b0, 0, none⟩ (.slice y97 l98 c99) fun w107 =>
 X2 (IntKind.i64.wrap (s3 + (1 : Int))) w107)))))))) ∧
 ((St w96 ⟨b0, 0, none⟩ (.slice y97 l98 c99) fun w108 =>
 (St w108 (a100.add ((((l29 : Nat) : Int)).toNat * 6)) (.int .i64 y83) fun w109 =>
 (St w109 ((a100.add ((((l29 : Nat) : Int)).toNat * 6)).add 1) (.int .i64 y84) fun w110 =>
 (St w110 ((a100.add ((((l29 : Nat) : Int)).toNat * 6)).add 2) (.string y85) fun w111 =>
 (St w111 ((a100.add ((((l29 : Nat) : Int)).toNat * 6)).add 3) (.slice y86 l87 c88) fun w112 =>
 (St w112 ((a100.add ((((l29 : Nat) : Int)).toNat * 6)).add 4) (.slice y89 l90 c91) fun w113 =>
 (St w113 ((a100.add ((((l29 : Nat) : Int)).toNat * 6)).add 5) (.slice y92 l93 c94) fun w114 =>
 X2 (IntKind.i64.wrap (s3 + (1 : Int))) w114)))))))))))))))))))))))
 (R (.returned (.iface t_Psource_row (.pointer (some (⟨b0, 0, none⟩ : Addr))))) w4))) (0 : Int) w1))
theorem e_source_Of (l_0 : Option Addr) (l_0l l_0c : Nat) (e_1 : Int) (w : World) (R : Ending → World → Prop) : funcX pg T bl Try.f9 [(.slice l_0 l_0l l_0c), (.int .i64 e_1)] w R = c_source_Of l_0 l_0l l_0c  e_1  w R := by kernel_rfl
theorem of_source_Of (l_0 : Option Addr) (l_0l l_0c : Nat) (e_1 : Int) {w : World} {R : Ending → World → Prop} (h : c_source_Of l_0 l_0l l_0c  e_1  w R) : Calls pg f_source_Of #[(.slice l_0 l_0l l_0c), (.int .i64 e_1)] w R :=
  funcX_of mixed tok blok Try.func9 (args := [(.slice l_0 l_0l l_0c), (.int .i64 e_1)]) (e_source_Of l_0 l_0l l_0c  e_1  w R) h
/-- aqueduct/window.Skip -/
def c_window_Skip (s_0 : Value) (n_1 : Int) (w : World) (R : Ending → World → Prop) : Prop :=
 (isNilIf s_0 fun q0 =>
 (one s_0
 ((New w (.cells #[s_0, (.int .i64 n_1), (.string (⟨#[]⟩ : ByteArray)), (.bool q0), (.func (.func f_Pwindow_window_rest) #[] #[])] t_window_window (0, 0)) fun b1 w2 =>
 R (.returned (.iface t_Pwindow_window (.pointer (some (⟨b1, 0, none⟩ : Addr))))) w2))))
theorem e_window_Skip (s_0 : Value) (n_1 : Int) (w : World) (R : Ending → World → Prop) : funcX pg T bl Try.f10 [s_0, (.int .i64 n_1)] w R = c_window_Skip s_0  n_1  w R := by kernel_rfl
theorem of_window_Skip (s_0 : Value) (n_1 : Int) {w : World} {R : Ending → World → Prop} (h : c_window_Skip s_0  n_1  w R) : Calls pg f_window_Skip #[s_0, (.int .i64 n_1)] w R :=
  funcX_of mixed tok blok Try.func10 (args := [s_0, (.int .i64 n_1)]) (e_window_Skip s_0  n_1  w R) h
/-- aqueduct/window.Count -/
def c_window_Count (s_0 : Value) (name_1 : ByteArray) (w : World) (R : Ending → World → Prop) : Prop :=
 (isNilIf s_0 fun q0 =>
 (one s_0
 ((New w (.cells #[s_0, (.int .i64 (0 : Int)), (.string name_1), (.bool q0), (.func (.func f_Pwindow_window_all) #[] #[])] t_window_window (0, 0)) fun b1 w2 =>
 R (.returned (.iface t_Pwindow_window (.pointer (some (⟨b1, 0, none⟩ : Addr))))) w2))))
theorem e_window_Count (s_0 : Value) (name_1 : ByteArray) (w : World) (R : Ending → World → Prop) : funcX pg T bl Try.f11 [s_0, (.string name_1)] w R = c_window_Count s_0  name_1  w R := by kernel_rfl
theorem of_window_Count (s_0 : Value) (name_1 : ByteArray) {w : World} {R : Ending → World → Prop} (h : c_window_Count s_0  name_1  w R) : Calls pg f_window_Count #[s_0, (.string name_1)] w R :=
  funcX_of mixed tok blok Try.func11 (args := [s_0, (.string name_1)]) (e_window_Count s_0  name_1  w R) h
/-- aqueduct/aqueductlaw17.Told -/
def c_aqueductlaw17_Told (s_0 : Value) (most_1 : Int) (w : World) (R : Ending → World → Prop) : Prop :=
 (isNilIf s_0 fun q0 =>
 (cond q0
 (R (.returned (.tuple #[(.slice none 0 0), (.int .i64 (1 : Int))])) w)
 ((Eng.Loop (σ := (Option Addr × Nat × Nat) × Int × (Option Addr × Nat × Nat) × Int) (fun X1 s2 w3 =>
 ∀ j4 : Nat → Value, (cond (decide (s2.2.2.2 ≤ most_1))
 ((CallI pg s_0 "Next" [] w3 (fun ch w => R (.panicked ch) w) fun v5 w6 =>
 ∃ y7 : Int, ∃ y8 : Int, ∃ y9 : ByteArray, ∃ (y10 : Option Addr) (l11 c12 : Nat), ∃ (y13 : Option Addr) (l14 c15 : Nat), ∃ (y16 : Option Addr) (l17 c18 : Nat), ∃ y19 : Bool, ∃ y20 : Int, v5 = (.tuple #[(.agg #[(.int .i64 y7), (.int .i64 y8), (.string y9), (.slice y10 l11 c12), (.slice y13 l14 c15), (.slice y16 l17 c18)]), (.bool y19), (.int .i64 y20)]) ∧
 (New w6 (.cells #[(.int .i64 (0 : Int)), (.int .i64 (0 : Int)), (.string (⟨#[]⟩ : ByteArray)), (.slice none 0 0), (.slice none 0 0), (.slice none 0 0)] t_api_Value (0, 0)) fun b21 w22 =>
 (St w22 ⟨b21, 0, none⟩ (.int .i64 y7) fun w23 =>
 (St w23 ⟨b21, 1, none⟩ (.int .i64 y8) fun w24 =>
 (St w24 ⟨b21, 2, none⟩ (.string y9) fun w25 =>
 (St w25 ⟨b21, 3, none⟩ (.slice y10 l11 c12) fun w26 =>
 (St w26 ⟨b21, 4, none⟩ (.slice y13 l14 c15) fun w27 =>
 (St w27 ⟨b21, 5, none⟩ (.slice y16 l17 c18) fun w28 =>
 (cond (y20 != (0 : Int))
 (R (.returned (.tuple #[(.slice s2.2.2.1.1 s2.2.2.1.2.1 s2.2.2.1.2.2), (.int .i64 y20)])) w28)
 ((cond (!y19)
 (R (.returned (.tuple #[(.slice s2.2.2.1.1 s2.2.2.1.2.1 s2.2.2.1.2.2), (.int .i64 (0 : Int))])) w28)
 (∃ x29 : Int, w28.cell? ⟨b21, 0, none⟩ = some (.int .i64 x29) ∧
 ∃ x30 : Int, w28.cell? ⟨b21, 1, none⟩ = some (.int .i64 x30) ∧
 ∃ x31 : ByteArray, w28.cell? ⟨b21, 2, none⟩ = some (.string x31) ∧
 ∃ (x32 : Option Addr) (l33 c34 : Nat), w28.cell? ⟨b21, 3, none⟩ = some (.slice x32 l33 c34) ∧
 ∃ (x35 : Option Addr) (l36 c37 : Nat), w28.cell? ⟨b21, 4, none⟩ = some (.slice x35 l36 c37) ∧
 ∃ (x38 : Option Addr) (l39 c40 : Nat), w28.cell? ⟨b21, 5, none⟩ = some (.slice x38 l39 c40) ∧
 (New w28 (.cells #[(.int .i64 x29), (.int .i64 x30), (.string x31), (.slice x32 l33 c34), (.slice x35 l36 c37), (.slice x38 l39 c40)] t_api_Value (0, 0)) fun b41 w42 =>
 (Prim pg (Builtin.append_ #[t_Sapi_Value, t_Sapi_Value] t_Sapi_Value #[(.slice s2.2.2.1.1 s2.2.2.1.2.1 s2.2.2.1.2.2), (.slice (some (⟨b41, 0, none⟩ : Addr)) 1 1)]) w42 fun v43 w44 =>
 ∃ (y45 : Option Addr) (l46 c47 : Nat), v43 = (.slice y45 l46 c47) ∧
 X1 ((s2.1.1, s2.1.2.1, s2.1.2.2), s2.2.1, (y45, l46, c47), (IntKind.i64.wrap (s2.2.2.2 + (1 : Int)))) w44)))))))))))))))
 (R (.returned (.tuple #[(.slice s2.2.2.1.1 s2.2.2.1.2.1 s2.2.2.1.2.2), (.int .i64 (3 : Int))])) w3))) ((none, 0, 0), (0 : Int), (none, 0, 0), (0 : Int)) w))))
theorem e_aqueductlaw17_Told (s_0 : Value) (most_1 : Int) (w : World) (R : Ending → World → Prop) : funcX pg T bl Try.f12 [s_0, (.int .i64 most_1)] w R = c_aqueductlaw17_Told s_0  most_1  w R := by kernel_rfl
theorem of_aqueductlaw17_Told (s_0 : Value) (most_1 : Int) {w : World} {R : Ending → World → Prop} (h : c_aqueductlaw17_Told s_0  most_1  w R) : Calls pg f_aqueductlaw17_Told #[s_0, (.int .i64 most_1)] w R :=
  funcX_of mixed tok blok Try.func12 (args := [s_0, (.int .i64 most_1)]) (e_aqueductlaw17_Told s_0  most_1  w R) h
/-- aqueduct/aqueductref5.SameAll -/
def c_aqueductref5_SameAll (a_0 : Option Addr) (a_0l a_0c : Nat) (b_1 : Option Addr) (b_1l b_1c : Nat) (w : World) (R : Ending → World → Prop) : Prop :=
 (cond (((a_0l : Nat) : Int) != ((b_1l : Nat) : Int))
 (R (.returned (.bool false)) w)
 ((Eng.Loop (σ := Bool × Int) (fun X0 s1 w2 =>
 ∀ j3 : Nat → Value, (cond (decide (s1.2 < ((a_0l : Nat) : Int)))
 ((Drew w2 fun w4 =>
 (withSome a_0 fun (a5 : Addr) =>
 (0 ≤ s1.2 ∧ s1.2 < ((a_0l : Nat) : Int)) ∧
 ∃ x6 : Int, w4.cell? (a5.add ((s1.2).toNat * 6)) = some (.int .i64 x6) ∧
 ∃ x7 : Int, w4.cell? ((a5.add ((s1.2).toNat * 6)).add 1) = some (.int .i64 x7) ∧
 ∃ x8 : ByteArray, w4.cell? ((a5.add ((s1.2).toNat * 6)).add 2) = some (.string x8) ∧
 ∃ (x9 : Option Addr) (l10 c11 : Nat), w4.cell? ((a5.add ((s1.2).toNat * 6)).add 3) = some (.slice x9 l10 c11) ∧
 ∃ (x12 : Option Addr) (l13 c14 : Nat), w4.cell? ((a5.add ((s1.2).toNat * 6)).add 4) = some (.slice x12 l13 c14) ∧
 ∃ (x15 : Option Addr) (l16 c17 : Nat), w4.cell? ((a5.add ((s1.2).toNat * 6)).add 5) = some (.slice x15 l16 c17) ∧
 (withSome b_1 fun (a18 : Addr) =>
 (0 ≤ s1.2 ∧ s1.2 < ((b_1l : Nat) : Int)) ∧
 ∃ x19 : Int, w4.cell? (a18.add ((s1.2).toNat * 6)) = some (.int .i64 x19) ∧
 ∃ x20 : Int, w4.cell? ((a18.add ((s1.2).toNat * 6)).add 1) = some (.int .i64 x20) ∧
 ∃ x21 : ByteArray, w4.cell? ((a18.add ((s1.2).toNat * 6)).add 2) = some (.string x21) ∧
 ∃ (x22 : Option Addr) (l23 c24 : Nat), w4.cell? ((a18.add ((s1.2).toNat * 6)).add 3) = some (.slice x22 l23 c24) ∧
 ∃ (x25 : Option Addr) (l26 c27 : Nat), w4.cell? ((a18.add ((s1.2).toNat * 6)).add 4) = some (.slice x25 l26 c27) ∧
 ∃ (x28 : Option Addr) (l29 c30 : Nat), w4.cell? ((a18.add ((s1.2).toNat * 6)).add 5) = some (.slice x28 l29 c30) ∧
 (CallR pg f_aqueductref5_Same [(.agg #[(.int .i64 x6), (.int .i64 x7), (.string x8), (.slice x9 l10 c11), (.slice x12 l13 c14), (.slice x15 l16 c17)]), (.agg #[(.int .i64 x19), (.int .i64 x20), (.string x21), (.slice x22 l23 c24), (.slice x25 l26 c27), (.slice x28 l29 c30)])] w4 (fun ch w => R (.panicked ch) w) fun v31 w32 =>
 ∃ y33 : Bool, v31 = (.bool y33) ∧
 (cond (!y33)
 (R (.returned (.bool false)) w32)
 (X0 (s1.1, (IntKind.i64.wrap (s1.2 + (1 : Int)))) w32)))))))
 (R (.returned (.bool true)) w2))) (false, (0 : Int)) w)))
theorem e_aqueductref5_SameAll (a_0 : Option Addr) (a_0l a_0c : Nat) (b_1 : Option Addr) (b_1l b_1c : Nat) (w : World) (R : Ending → World → Prop) : funcX pg T bl Try.f14 [(.slice a_0 a_0l a_0c), (.slice b_1 b_1l b_1c)] w R = c_aqueductref5_SameAll a_0 a_0l a_0c  b_1 b_1l b_1c  w R := by kernel_rfl
theorem of_aqueductref5_SameAll (a_0 : Option Addr) (a_0l a_0c : Nat) (b_1 : Option Addr) (b_1l b_1c : Nat) {w : World} {R : Ending → World → Prop} (h : c_aqueductref5_SameAll a_0 a_0l a_0c  b_1 b_1l b_1c  w R) : Calls pg f_aqueductref5_SameAll #[(.slice a_0 a_0l a_0c), (.slice b_1 b_1l b_1c)] w R :=
  funcX_of mixed tok blok Try.func14 (args := [(.slice a_0 a_0l a_0c), (.slice b_1 b_1l b_1c)]) (e_aqueductref5_SameAll a_0 a_0l a_0c  b_1 b_1l b_1c  w R) h
/-- aqueduct/aqueductref16.NameMay -/
def c_aqueductref16_NameMay (s_0 : ByteArray) (w : World) (R : Ending → World → Prop) : Prop :=
 (Eng.Loop (σ := Bool × Int) (fun X0 s1 w2 =>
 ∀ j3 : Nat → Value, (cond (decide (s1.2 < ((s_0.size : Nat) : Int)))
 ((Meet (σ := Bool) (fun J4 =>
 (0 ≤ s1.2 ∧ s1.2 < ((s_0.size : Nat) : Int)) ∧
 (cond ((byteAt s_0 (s1.2).toNat : Nat) == (46 : Int))
 (J4 true w2)
 ((0 ≤ s1.2 ∧ s1.2 < ((s_0.size : Nat) : Int)) ∧
 J4 ((byteAt s_0 (s1.2).toNat : Nat) == (36 : Int)) w2)))
 (fun s5 w6 =>
 ∀ j7 : Nat → Value, (cond s5
 (R (.returned (.bool false)) w6)
 (X0 (s1.1, (IntKind.i64.wrap (s1.2 + (1 : Int)))) w6)))))
 ((Meet (σ := Bool) (fun J8 =>
 (cond (!(s_0.toList == (⟨#[]⟩ : ByteArray).toList))
 ((CallR pg f_aqueductref5_NameMay [(.string s_0)] w2 (fun ch w => R (.panicked ch) w) fun v11 w12 =>
 ∃ y13 : Bool, v11 = (.bool y13) ∧
 J8 y13 w12))
 (J8 false w2)))
 (fun s9 w10 =>
 ∀ j14 : Nat → Value, R (.returned (.bool s9)) w10))))) (false, (0 : Int)) w)
theorem e_aqueductref16_NameMay (s_0 : ByteArray) (w : World) (R : Ending → World → Prop) : funcX pg T bl Try.f16 [(.string s_0)] w R = c_aqueductref16_NameMay s_0  w R := by kernel_rfl
theorem of_aqueductref16_NameMay (s_0 : ByteArray) {w : World} {R : Ending → World → Prop} (h : c_aqueductref16_NameMay s_0  w R) : Calls pg f_aqueductref16_NameMay #[(.string s_0)] w R :=
  funcX_of mixed tok blok Try.func16 (args := [(.string s_0)]) (e_aqueductref16_NameMay s_0  w R) h
/-- aqueduct/aqueductlaw5.Weight -/
def c_aqueductlaw5_Weight (v_0x0 : Int) (v_0x1 : Int) (v_0x2 : ByteArray) (v_0x3 : Option Addr) (v_0x3l v_0x3c : Nat) (v_0x4 : Option Addr) (v_0x4l v_0x4c : Nat) (v_0x5 : Option Addr) (v_0x5l v_0x5c : Nat) (most_1 : Int) (w : World) (R : Ending → World → Prop) : Prop :=
 (New w (.cells #[(.int .i64 v_0x0), (.int .i64 v_0x1), (.string v_0x2), (.slice v_0x3 v_0x3l v_0x3c), (.slice v_0x4 v_0x4l v_0x4c), (.slice v_0x5 v_0x5l v_0x5c)] t_api_Value (0, 0)) fun b0 w1 =>
 ∃ x2 : ByteArray, w1.cell? ⟨b0, 2, none⟩ = some (.string x2) ∧
 ∃ (x3 : Option Addr) (l4 c5 : Nat), w1.cell? ⟨b0, 3, none⟩ = some (.slice x3 l4 c5) ∧
 (Eng.Loop (σ := Int × Int) (fun X6 s7 w8 =>
 ∀ j9 : Nat → Value, (Meet (σ := Bool) (fun J10 =>
 ∃ (x13 : Option Addr) (l14 c15 : Nat), w8.cell? ⟨b0, 4, none⟩ = some (.slice x13 l14 c15) ∧
 (cond (decide (s7.2 < ((l14 : Nat) : Int)))
 (J10 (decide (s7.1 ≤ most_1)) w8)
 (J10 false w8)))
 (fun s11 w12 =>
 ∀ j16 : Nat → Value, (cond s11
 ((Drew w12 fun w17 =>
 ∃ (x18 : Option Addr) (l19 c20 : Nat), w17.cell? ⟨b0, 4, none⟩ = some (.slice x18 l19 c20) ∧
 (withSome x18 fun (a21 : Addr) =>
 (0 ≤ s7.2 ∧ s7.2 < ((l19 : Nat) : Int)) ∧
 ∃ x22 : ByteArray, w17.cell? (a21.add ((s7.2).toNat * 7)) = some (.string x22) ∧
 ∃ (x23 : Option Addr) (l24 c25 : Nat), w17.cell? ⟨b0, 4, none⟩ = some (.slice x23 l24 c25) ∧
 (withSome x23 fun (a26 : Addr) =>
 (0 ≤ s7.2 ∧ s7.2 < ((l24 : Nat) : Int)) ∧
 ∃ x27 : Int, w17.cell? ((a26.add ((s7.2).toNat * 7)).add 1) = some (.int .i64 x27) ∧
 ∃ x28 : Int, w17.cell? (((a26.add ((s7.2).toNat * 7)).add 1).add 1) = some (.int .i64 x28) ∧
 ∃ x29 : ByteArray, w17.cell? (((a26.add ((s7.2).toNat * 7)).add 1).add 2) = some (.string x29) ∧
 ∃ (x30 : Option Addr) (l31 c32 : Nat), w17.cell? (((a26.add ((s7.2).toNat * 7)).add 1).add 3) = some (.slice x30 l31 c32) ∧
 ∃ (x33 : Option Addr) (l34 c35 : Nat), w17.cell? (((a26.add ((s7.2).toNat * 7)).add 1).add 4) = some (.slice x33 l34 c35) ∧
 ∃ (x36 : Option Addr) (l37 c38 : Nat), w17.cell? (((a26.add ((s7.2).toNat * 7)).add 1).add 5) = some (.slice x36 l37 c38) ∧
 (CallR pg f_aqueductlaw5_Weight [(.agg #[(.int .i64 x27), (.int .i64 x28), (.string x29), (.slice x30 l31 c32), (.slice x33 l34 c35), (.slice x36 l37 c38)]), (.int .i64 (IntKind.i64.wrap (most_1 - s7.1)))] w17 (fun ch w => R (.panicked ch) w) fun v39 w40 =>
 ∃ y41 : Int, v39 = (.int .i64 y41) ∧
 (w40.cell? (a21.add ((s7.2).toNat * 7)) = some (.string x22)) ∧ (w40.cell? ⟨b0, 4, none⟩ = some (.slice x18 l19 c20)) ∧ X6 ((IntKind.i64.wrap ((IntKind.i64.wrap (s7.1 + ((x22.size : Nat) : Int))) + y41)), (IntKind.i64.wrap (s7.2 + (1 : Int)))) w40)))))
 ((Eng.Loop (σ := Int × Int) (fun X42 s43 w44 =>
 ∀ j45 : Nat → Value, (Meet (σ := Bool) (fun J46 =>
 ∃ (x49 : Option Addr) (l50 c51 : Nat), w44.cell? ⟨b0, 5, none⟩ = some (.slice x49 l50 c51) ∧
 (cond (decide (s43.2 < ((l50 : Nat) : Int)))
 (J46 (decide (s43.1 ≤ most_1)) w44)
 (J46 false w44)))
 (fun s47 w48 =>
 ∀ j52 : Nat → Value, (cond s47
 (∃ (x53 : Option Addr) (l54 c55 : Nat), w48.cell? ⟨b0, 5, none⟩ = some (.slice x53 l54 c55) ∧
 (withSome x53 fun (a56 : Addr) =>
 (0 ≤ s43.2 ∧ s43.2 < ((l54 : Nat) : Int)) ∧
 ∃ x57 : Int, w48.cell? (a56.add ((s43.2).toNat * 6)) = some (.int .i64 x57) ∧
 ∃ x58 : Int, w48.cell? ((a56.add ((s43.2).toNat * 6)).add 1) = some (.int .i64 x58) ∧
 ∃ x59 : ByteArray, w48.cell? ((a56.add ((s43.2).toNat * 6)).add 2) = some (.string x59) ∧
 ∃ (x60 : Option Addr) (l61 c62 : Nat), w48.cell? ((a56.add ((s43.2).toNat * 6)).add 3) = some (.slice x60 l61 c62) ∧
 ∃ (x63 : Option Addr) (l64 c65 : Nat), w48.cell? ((a56.add ((s43.2).toNat * 6)).add 4) = some (.slice x63 l64 c65) ∧
 ∃ (x66 : Option Addr) (l67 c68 : Nat), w48.cell? ((a56.add ((s43.2).toNat * 6)).add 5) = some (.slice x66 l67 c68) ∧
 (CallR pg f_aqueductlaw5_Weight [(.agg #[(.int .i64 x57), (.int .i64 x58), (.string x59), (.slice x60 l61 c62), (.slice x63 l64 c65), (.slice x66 l67 c68)]), (.int .i64 (IntKind.i64.wrap (most_1 - s43.1)))] w48 (fun ch w => R (.panicked ch) w) fun v69 w70 =>
 ∃ y71 : Int, v69 = (.int .i64 y71) ∧
 X42 ((IntKind.i64.wrap (s43.1 + y71)), (IntKind.i64.wrap (s43.2 + (1 : Int)))) w70)))
 (R (.returned (.int .i64 s43.1)) w48))))) (s7.1, (0 : Int)) w12)))))) ((IntKind.i64.wrap ((IntKind.i64.wrap ((1 : Int) + ((x2.size : Nat) : Int))) + ((l4 : Nat) : Int))), (0 : Int)) w1))
theorem e_aqueductlaw5_Weight (v_0x0 : Int) (v_0x1 : Int) (v_0x2 : ByteArray) (v_0x3 : Option Addr) (v_0x3l v_0x3c : Nat) (v_0x4 : Option Addr) (v_0x4l v_0x4c : Nat) (v_0x5 : Option Addr) (v_0x5l v_0x5c : Nat) (most_1 : Int) (w : World) (R : Ending → World → Prop) : funcX pg T bl Try.f19 [(.agg #[(.int .i64 v_0x0), (.int .i64 v_0x1), (.string v_0x2), (.slice v_0x3 v_0x3l v_0x3c), (.slice v_0x4 v_0x4l v_0x4c), (.slice v_0x5 v_0x5l v_0x5c)]), (.int .i64 most_1)] w R = c_aqueductlaw5_Weight v_0x0  v_0x1  v_0x2  v_0x3 v_0x3l v_0x3c  v_0x4 v_0x4l v_0x4c  v_0x5 v_0x5l v_0x5c  most_1  w R := by kernel_rfl
theorem of_aqueductlaw5_Weight (v_0x0 : Int) (v_0x1 : Int) (v_0x2 : ByteArray) (v_0x3 : Option Addr) (v_0x3l v_0x3c : Nat) (v_0x4 : Option Addr) (v_0x4l v_0x4c : Nat) (v_0x5 : Option Addr) (v_0x5l v_0x5c : Nat) (most_1 : Int) {w : World} {R : Ending → World → Prop} (h : c_aqueductlaw5_Weight v_0x0  v_0x1  v_0x2  v_0x3 v_0x3l v_0x3c  v_0x4 v_0x4l v_0x4c  v_0x5 v_0x5l v_0x5c  most_1  w R) : Calls pg f_aqueductlaw5_Weight #[(.agg #[(.int .i64 v_0x0), (.int .i64 v_0x1), (.string v_0x2), (.slice v_0x3 v_0x3l v_0x3c), (.slice v_0x4 v_0x4l v_0x4c), (.slice v_0x5 v_0x5l v_0x5c)]), (.int .i64 most_1)] w R :=
  funcX_of mixed tok blok Try.func19 (args := [(.agg #[(.int .i64 v_0x0), (.int .i64 v_0x1), (.string v_0x2), (.slice v_0x3 v_0x3l v_0x3c), (.slice v_0x4 v_0x4l v_0x4c), (.slice v_0x5 v_0x5l v_0x5c)]), (.int .i64 most_1)]) (e_aqueductlaw5_Weight v_0x0  v_0x1  v_0x2  v_0x3 v_0x3l v_0x3c  v_0x4 v_0x4l v_0x4c  v_0x5 v_0x5l v_0x5c  most_1  w R) h
/-- (*aqueduct/window.window).first -/
def c_Pwindow_window_first (w_0 : Option Addr) (w : World) (R : Ending → World → Prop) : Prop :=
 (New w (.cells #[(.int .i64 (0 : Int)), (.int .i64 (0 : Int)), (.string (⟨#[]⟩ : ByteArray)), (.slice none 0 0), (.slice none 0 0), (.slice none 0 0)] t_api_Value (0, 0)) fun b0 w1 =>
 (withSome w_0 fun (a2 : Addr) =>
 ∃ x3 : Int, w1.cell? (a2.add 1) = some (.int .i64 x3) ∧
 (cond (decide (x3 < (1 : Int)))
 ((St w1 ⟨b0, 0, none⟩ (.int .i64 (0 : Int)) fun w4 =>
 (St w4 ⟨b0, 1, none⟩ (.int .i64 (0 : Int)) fun w5 =>
 (St w5 ⟨b0, 2, none⟩ (.string (⟨#[]⟩ : ByteArray)) fun w6 =>
 (St w6 ⟨b0, 3, none⟩ (.slice none 0 0) fun w7 =>
 (St w7 ⟨b0, 4, none⟩ (.slice none 0 0) fun w8 =>
 (St w8 ⟨b0, 5, none⟩ (.slice none 0 0) fun w9 =>
 ∃ x10 : Int, w9.cell? ⟨b0, 0, none⟩ = some (.int .i64 x10) ∧
 ∃ x11 : Int, w9.cell? ⟨b0, 1, none⟩ = some (.int .i64 x11) ∧
 ∃ x12 : ByteArray, w9.cell? ⟨b0, 2, none⟩ = some (.string x12) ∧
 ∃ (x13 : Option Addr) (l14 c15 : Nat), w9.cell? ⟨b0, 3, none⟩ = some (.slice x13 l14 c15) ∧
 ∃ (x16 : Option Addr) (l17 c18 : Nat), w9.cell? ⟨b0, 4, none⟩ = some (.slice x16 l17 c18) ∧
 ∃ (x19 : Option Addr) (l20 c21 : Nat), w9.cell? ⟨b0, 5, none⟩ = some (.slice x19 l20 c21) ∧
 R (.returned (.tuple #[(.agg #[(.int .i64 x10), (.int .i64 x11), (.string x12), (.slice x13 l14 c15), (.slice x16 l17 c18), (.slice x19 l20 c21)]), (.bool false), (.int .i64 (0 : Int))])) w9)))))))
 ((withSome w_0 fun (a22 : Addr) =>
 ∃ x23 : Int, w1.cell? (a22.add 1) = some (.int .i64 x23) ∧
 (withSome w_0 fun (a24 : Addr) =>
 (St w1 (a24.add 1) (.int .i64 (IntKind.i64.wrap (x23 - (1 : Int)))) fun w25 =>
 (withSome w_0 fun (a26 : Addr) =>
 ∃ x27 : Value, w25.cell? a26 = some x27 ∧
 (CallI pg x27 "Next" [] w25 (fun ch w => R (.panicked ch) w) fun v28 w29 =>
 ∃ y30 : Int, ∃ y31 : Int, ∃ y32 : ByteArray, ∃ (y33 : Option Addr) (l34 c35 : Nat), ∃ (y36 : Option Addr) (l37 c38 : Nat), ∃ (y39 : Option Addr) (l40 c41 : Nat), ∃ y42 : Bool, ∃ y43 : Int, v28 = (.tuple #[(.agg #[(.int .i64 y30), (.int .i64 y31), (.string y32), (.slice y33 l34 c35), (.slice y36 l37 c38), (.slice y39 l40 c41)]), (.bool y42), (.int .i64 y43)]) ∧
 (New w29 (.cells #[(.int .i64 (0 : Int)), (.int .i64 (0 : Int)), (.string (⟨#[]⟩ : ByteArray)), (.slice none 0 0), (.slice none 0 0), (.slice none 0 0)] t_api_Value (0, 0)) fun b44 w45 =>
 (St w45 ⟨b44, 0, none⟩ (.int .i64 y30) fun w46 =>
 (St w46 ⟨b44, 1, none⟩ (.int .i64 y31) fun w47 =>
 (St w47 ⟨b44, 2, none⟩ (.string y32) fun w48 =>
 (St w48 ⟨b44, 3, none⟩ (.slice y33 l34 c35) fun w49 =>
 (St w49 ⟨b44, 4, none⟩ (.slice y36 l37 c38) fun w50 =>
 (St w50 ⟨b44, 5, none⟩ (.slice y39 l40 c41) fun w51 =>
 (Meet (σ := Unit) (fun J52 =>
 (Meet (σ := Bool) (fun J55 =>
 (cond y42
 ((withSome w_0 fun (a58 : Addr) =>
 ∃ x59 : Int, w51.cell? (a58.add 1) = some (.int .i64 x59) ∧
 J55 (decide (x59 < (1 : Int))) w51))
 (J55 false w51)))
 (fun s56 w57 =>
 ∀ j60 : Nat → Value, (cond s56
 ((CallR pg f_Pwindow_window_Close [(.pointer w_0)] w57 (fun ch w => R (.panicked ch) w) fun v61 w62 =>
 v61 = (.tuple #[]) ∧
 J52 () w62))
 (J52 () w57)))))
 (fun s53 w54 =>
 ∀ j63 : Nat → Value, ∃ x64 : Int, w54.cell? ⟨b44, 0, none⟩ = some (.int .i64 x64) ∧
 ∃ x65 : Int, w54.cell? ⟨b44, 1, none⟩ = some (.int .i64 x65) ∧
 ∃ x66 : ByteArray, w54.cell? ⟨b44, 2, none⟩ = some (.string x66) ∧
 ∃ (x67 : Option Addr) (l68 c69 : Nat), w54.cell? ⟨b44, 3, none⟩ = some (.slice x67 l68 c69) ∧
 ∃ (x70 : Option Addr) (l71 c72 : Nat), w54.cell? ⟨b44, 4, none⟩ = some (.slice x70 l71 c72) ∧
 ∃ (x73 : Option Addr) (l74 c75 : Nat), w54.cell? ⟨b44, 5, none⟩ = some (.slice x73 l74 c75) ∧
 (St w54 ⟨b0, 0, none⟩ (.int .i64 x64) fun w76 =>
 (St w76 ⟨b0, 1, none⟩ (.int .i64 x65) fun w77 =>
 (St w77 ⟨b0, 2, none⟩ (.string x66) fun w78 =>
 (St w78 ⟨b0, 3, none⟩ (.slice x67 l68 c69) fun w79 =>
 (St w79 ⟨b0, 4, none⟩ (.slice x70 l71 c72) fun w80 =>
 (St w80 ⟨b0, 5, none⟩ (.slice x73 l74 c75) fun w81 =>
 ∃ x82 : Int, w81.cell? ⟨b0, 0, none⟩ = some (.int .i64 x82) ∧
 ∃ x83 : Int, w81.cell? ⟨b0, 1, none⟩ = some (.int .i64 x83) ∧
 ∃ x84 : ByteArray, w81.cell? ⟨b0, 2, none⟩ = some (.string x84) ∧
 ∃ (x85 : Option Addr) (l86 c87 : Nat), w81.cell? ⟨b0, 3, none⟩ = some (.slice x85 l86 c87) ∧
 ∃ (x88 : Option Addr) (l89 c90 : Nat), w81.cell? ⟨b0, 4, none⟩ = some (.slice x88 l89 c90) ∧
 ∃ (x91 : Option Addr) (l92 c93 : Nat), w81.cell? ⟨b0, 5, none⟩ = some (.slice x91 l92 c93) ∧
 R (.returned (.tuple #[(.agg #[(.int .i64 x82), (.int .i64 x83), (.string x84), (.slice x85 l86 c87), (.slice x88 l89 c90), (.slice x91 l92 c93)]), (.bool y42), (.int .i64 y43)])) w81))))))))))))))))))))))))
theorem e_Pwindow_window_first (w_0 : Option Addr) (w : World) (R : Ending → World → Prop) : funcX pg T bl Try.f20 [(.pointer w_0)] w R = c_Pwindow_window_first w_0  w R := by kernel_rfl
theorem of_Pwindow_window_first (w_0 : Option Addr) {w : World} {R : Ending → World → Prop} (h : c_Pwindow_window_first w_0  w R) : Calls pg f_Pwindow_window_first #[(.pointer w_0)] w R :=
  funcX_of mixed tok blok Try.func20 (args := [(.pointer w_0)]) (e_Pwindow_window_first w_0  w R) h
/-- aqueduct/bson.Copy -/
def c_bson_Copy (v_0x0 : Int) (v_0x1 : Int) (v_0x2 : ByteArray) (v_0x3 : Option Addr) (v_0x3l v_0x3c : Nat) (v_0x4 : Option Addr) (v_0x4l v_0x4c : Nat) (v_0x5 : Option Addr) (v_0x5l v_0x5c : Nat) (w : World) (R : Ending → World → Prop) : Prop :=
 (New w (.cells #[(.int .i64 v_0x0), (.int .i64 v_0x1), (.string v_0x2), (.slice v_0x3 v_0x3l v_0x3c), (.slice v_0x4 v_0x4l v_0x4c), (.slice v_0x5 v_0x5l v_0x5c)] t_api_Value (0, 0)) fun b0 w1 =>
 (New w1 (.cells #[(.int .i64 (0 : Int)), (.int .i64 (0 : Int)), (.string (⟨#[]⟩ : ByteArray)), (.slice none 0 0), (.slice none 0 0), (.slice none 0 0)] t_api_Value (0, 0)) fun b2 w3 =>
 ∃ (x4 : Option Addr) (l5 c6 : Nat), w3.cell? ⟨b0, 3, none⟩ = some (.slice x4 l5 c6) ∧
 (CallR pg f_bytes_Clone [(.slice x4 l5 c6)] w3 (fun ch w => R (.panicked ch) w) fun v7 w8 =>
 ∃ (y9 : Option Addr) (l10 c11 : Nat), v7 = (.slice y9 l10 c11) ∧
 (St w8 ⟨b0, 3, none⟩ (.slice y9 l10 c11) fun w12 =>
 ∃ (x13 : Option Addr) (l14 c15 : Nat), w12.cell? ⟨b0, 4, none⟩ = some (.slice x13 l14 c15) ∧
 (CallR pg f_slices_Clone_Sapi_Field_api_Field [(.slice x13 l14 c15)] w12 (fun ch w => R (.panicked ch) w) fun v16 w17 =>
 ∃ (y18 : Option Addr) (l19 c20 : Nat), v16 = (.slice y18 l19 c20) ∧
 (St w17 ⟨b0, 4, none⟩ (.slice y18 l19 c20) fun w21 =>
 ∃ (x22 : Option Addr) (l23 c24 : Nat), w21.cell? ⟨b0, 4, none⟩ = some (.slice x22 l23 c24) ∧
 (Eng.Loop (σ := Int) (fun X25 s26 w27 =>
 ∀ j28 : Nat → Value, (cond (decide (s26 < ((l23 : Nat) : Int)))
 ((withSome x22 fun (a29 : Addr) =>
 (0 ≤ s26 ∧ s26 < ((l23 : Nat) : Int)) ∧
 ∃ x30 : ByteArray, w27.cell? (a29.add ((s26).toNat * 7)) = some (.string x30) ∧
 ∃ x31 : Int, w27.cell? ((a29.add ((s26).toNat * 7)).add 1) = some (.int .i64 x31) ∧
 ∃ x32 : Int, w27.cell? ((a29.add ((s26).toNat * 7)).add 2) = some (.int .i64 x32) ∧
 ∃ x33 : ByteArray, w27.cell? ((a29.add ((s26).toNat * 7)).add 3) = some (.string x33) ∧
 ∃ (x34 : Option Addr) (l35 c36 : Nat), w27.cell? ((a29.add ((s26).toNat * 7)).add 4) = some (.slice x34 l35 c36) ∧
 ∃ (x37 : Option Addr) (l38 c39 : Nat), w27.cell? ((a29.add ((s26).toNat * 7)).add 5) = some (.slice x37 l38 c39) ∧
 ∃ (x40 : Option Addr) (l41 c42 : Nat), w27.cell? ((a29.add ((s26).toNat * 7)).add 6) = some (.slice x40 l41 c42) ∧
 (New w27 (.cells #[(.string (⟨#[]⟩ : ByteArray)), (.int .i64 (0 : Int)), (.int .i64 (0 : Int)), (.string (⟨#[]⟩ : ByteArray)), (.slice none 0 0), (.slice none 0 0), (.slice none 0 0)] t_api_Field (0, 0)) fun b43 w44 =>
 (St w44 ⟨b43, 0, none⟩ (.string x30) fun w45 =>
 (St w45 ⟨b43, 1, none⟩ (.int .i64 x31) fun w46 =>
 (St w46 ⟨b43, 2, none⟩ (.int .i64 x32) fun w47 =>
 (St w47 ⟨b43, 3, none⟩ (.string x33) fun w48 =>
 (St w48 ⟨b43, 4, none⟩ (.slice x34 l35 c36) fun w49 =>
 (St w49 ⟨b43, 5, none⟩ (.slice x37 l38 c39) fun w50 =>
 (St w50 ⟨b43, 6, none⟩ (.slice x40 l41 c42) fun w51 =>
 (Drew w51 fun w52 =>
 ∃ (x53 : Option Addr) (l54 c55 : Nat), w52.cell? ⟨b0, 4, none⟩ = some (.slice x53 l54 c55) ∧
 ∃ x56 : Int, w52.cell? ⟨b43, 1, none⟩ = some (.int .i64 x56) ∧
 ∃ x57 : Int, w52.cell? ⟨b43, 2, none⟩ = some (.int .i64 x57) ∧
 ∃ x58 : ByteArray, w52.cell? ⟨b43, 3, none⟩ = some (.string x58) ∧
 ∃ (x59 : Option Addr) (l60 c61 : Nat), w52.cell? ⟨b43, 4, none⟩ = some (.slice x59 l60 c61) ∧
 ∃ (x62 : Option Addr) (l63 c64 : Nat), w52.cell? ⟨b43, 5, none⟩ = some (.slice x62 l63 c64) ∧
 ∃ (x65 : Option Addr) (l66 c67 : Nat), w52.cell? ⟨b43, 6, none⟩ = some (.slice x65 l66 c67) ∧
 (CallR pg f_bson_Copy [(.agg #[(.int .i64 x56), (.int .i64 x57), (.string x58), (.slice x59 l60 c61), (.slice x62 l63 c64), (.slice x65 l66 c67)])] w52 (fun ch w => R (.panicked ch) w) fun v68 w69 =>
 ∃ y70 : Int, ∃ y71 : Int, ∃ y72 : ByteArray, ∃ (y73 : Option Addr) (l74 c75 : Nat), ∃ (y76 : Option Addr) (l77 c78 : Nat), ∃ (y79 : Option Addr) (l80 c81 : Nat), v68 = (.agg #[(.int .i64 y70), (.int .i64 y71), (.string y72), (.slice y73 l74 c75), (.slice y76 l77 c78), (.slice y79 l80 c81)]) ∧
 (w69.cell? ⟨b0, 4, none⟩ = some (.slice x53 l54 c55)) ∧ (withSome x53 fun (a82 : Addr) =>
 (0 ≤ s26 ∧ s26 < ((l54 : Nat) : Int)) ∧
 (St w69 ((a82.add ((s26).toNat * 7)).add 1) (.int .i64 y70) fun w83 =>
 (St w83 (((a82.add ((s26).toNat * 7)).add 1).add 1) (.int .i64 y71) fun w84 =>
 (St w84 (((a82.add ((s26).toNat * 7)).add 1).add 2) (.string y72) fun w85 =>
 (St w85 (((a82.add ((s26).toNat * 7)).add 1).add 3) (.slice y73 l74 c75) fun w86 =>
 (St w86 (((a82.add ((s26).toNat * 7)).add 1).add 4) (.slice y76 l77 c78) fun w87 =>
 (St w87 (((a82.add ((s26).toNat * 7)).add 1).add 5) (.slice y79 l80 c81) fun w88 =>
 X25 (IntKind.i64.wrap (s26 + (1 : Int))) w88)))))))))))))))))))
 (∃ (x89 : Option Addr) (l90 c91 : Nat), w27.cell? ⟨b0, 5, none⟩ = some (.slice x89 l90 c91) ∧
 (CallR pg f_slices_Clone_Sapi_Value_api_Value [(.slice x89 l90 c91)] w27 (fun ch w => R (.panicked ch) w) fun v92 w93 =>
 ∃ (y94 : Option Addr) (l95 c96 : Nat), v92 = (.slice y94 l95 c96) ∧
 (St w93 ⟨b0, 5, none⟩ (.slice y94 l95 c96) fun w97 =>
 ∃ (x98 : Option Addr) (l99 c100 : Nat), w97.cell? ⟨b0, 5, none⟩ = some (.slice x98 l99 c100) ∧
 (Eng.Loop (σ := Int) (fun X101 s102 w103 =>
 ∀ j104 : Nat → Value, (cond (decide (s102 < ((l99 : Nat) : Int)))
 ((withSome x98 fun (a105 : Addr) =>
 (0 ≤ s102 ∧ s102 < ((l99 : Nat) : Int)) ∧
 ∃ x106 : Int, w103.cell? (a105.add ((s102).toNat * 6)) = some (.int .i64 x106) ∧
 ∃ x107 : Int, w103.cell? ((a105.add ((s102).toNat * 6)).add 1) = some (.int .i64 x107) ∧
 ∃ x108 : ByteArray, w103.cell? ((a105.add ((s102).toNat * 6)).add 2) = some (.string x108) ∧
 ∃ (x109 : Option Addr) (l110 c111 : Nat), w103.cell? ((a105.add ((s102).toNat * 6)).add 3) = some (.slice x109 l110 c111) ∧
 ∃ (x112 : Option Addr) (l113 c114 : Nat), w103.cell? ((a105.add ((s102).toNat * 6)).add 4) = some (.slice x112 l113 c114) ∧
 ∃ (x115 : Option Addr) (l116 c117 : Nat), w103.cell? ((a105.add ((s102).toNat * 6)).add 5) = some (.slice x115 l116 c117) ∧
 (New w103 (.cells #[(.int .i64 (0 : Int)), (.int .i64 (0 : Int)), (.string (⟨#[]⟩ : ByteArray)), (.slice none 0 0), (.slice none 0 0), (.slice none 0 0)] t_api_Value (0, 0)) fun b118 w119 =>
 (St w119 ⟨b118, 0, none⟩ (.int .i64 x106) fun w120 =>
 (St w120 ⟨b118, 1, none⟩ (.int .i64 x107) fun w121 =>
 (St w121 ⟨b118, 2, none⟩ (.string x108) fun w122 =>
 (St w122 ⟨b118, 3, none⟩ (.slice x109 l110 c111) fun w123 =>
 (St w123 ⟨b118, 4, none⟩ (.slice x112 l113 c114) fun w124 =>
 (St w124 ⟨b118, 5, none⟩ (.slice x115 l116 c117) fun w125 =>
 (Drew w125 fun w126 =>
 ∃ (x127 : Option Addr) (l128 c129 : Nat), w126.cell? ⟨b0, 5, none⟩ = some (.slice x127 l128 c129) ∧
 ∃ x130 : Int, w126.cell? ⟨b118, 0, none⟩ = some (.int .i64 x130) ∧
 ∃ x131 : Int, w126.cell? ⟨b118, 1, none⟩ = some (.int .i64 x131) ∧
 ∃ x132 : ByteArray, w126.cell? ⟨b118, 2, none⟩ = some (.string x132) ∧
 ∃ (x133 : Option Addr) (l134 c135 : Nat), w126.cell? ⟨b118, 3, none⟩ = some (.slice x133 l134 c135) ∧
 ∃ (x136 : Option Addr) (l137 c138 : Nat), w126.cell? ⟨b118, 4, none⟩ = some (.slice x136 l137 c138) ∧
 ∃ (x139 : Option Addr) (l140 c141 : Nat), w126.cell? ⟨b118, 5, none⟩ = some (.slice x139 l140 c141) ∧
 (CallR pg f_bson_Copy [(.agg #[(.int .i64 x130), (.int .i64 x131), (.string x132), (.slice x133 l134 c135), (.slice x136 l137 c138), (.slice x139 l140 c141)])] w126 (fun ch w => R (.panicked ch) w) fun v142 w143 =>
 ∃ y144 : Int, ∃ y145 : Int, ∃ y146 : ByteArray, ∃ (y147 : Option Addr) (l148 c149 : Nat), ∃ (y150 : Option Addr) (l151 c152 : Nat), ∃ (y153 : Option Addr) (l154 c155 : Nat), v142 = (.agg #[(.int .i64 y144), (.int .i64 y145), (.string y146), (.slice y147 l148 c149), (.slice y150 l151 c152), (.slice y153 l154 c155)]) ∧
 (w143.cell? ⟨b0, 5, none⟩ = some (.slice x127 l128 c129)) ∧ (withSome x127 fun (a156 : Addr) =>
 (0 ≤ s102 ∧ s102 < ((l128 : Nat) : Int)) ∧
 (St w143 (a156.add ((s102).toNat * 6)) (.int .i64 y144) fun w157 =>
 (St w157 ((a156.add ((s102).toNat * 6)).add 1) (.int .i64 y145) fun w158 =>
 (St w158 ((a156.add ((s102).toNat * 6)).add 2) (.string y146) fun w159 =>
 (St w159 ((a156.add ((s102).toNat * 6)).add 3) (.slice y147 l148 c149) fun w160 =>
 (St w160 ((a156.add ((s102).toNat * 6)).add 4) (.slice y150 l151 c152) fun w161 =>
 (St w161 ((a156.add ((s102).toNat * 6)).add 5) (.slice y153 l154 c155) fun w162 =>
 X101 (IntKind.i64.wrap (s102 + (1 : Int))) w162))))))))))))))))))
 (∃ x163 : Int, w103.cell? ⟨b0, 0, none⟩ = some (.int .i64 x163) ∧
 ∃ x164 : Int, w103.cell? ⟨b0, 1, none⟩ = some (.int .i64 x164) ∧
 ∃ x165 : ByteArray, w103.cell? ⟨b0, 2, none⟩ = some (.string x165) ∧
 ∃ (x166 : Option Addr) (l167 c168 : Nat), w103.cell? ⟨b0, 3, none⟩ = some (.slice x166 l167 c168) ∧
 ∃ (x169 : Option Addr) (l170 c171 : Nat), w103.cell? ⟨b0, 4, none⟩ = some (.slice x169 l170 c171) ∧
 ∃ (x172 : Option Addr) (l173 c174 : Nat), w103.cell? ⟨b0, 5, none⟩ = some (.slice x172 l173 c174) ∧
 (St w103 ⟨b2, 0, none⟩ (.int .i64 x163) fun w175 =>
 (St w175 ⟨b2, 1, none⟩ (.int .i64 x164) fun w176 =>
 (St w176 ⟨b2, 2, none⟩ (.string x165) fun w177 =>
 (St w177 ⟨b2, 3, none⟩ (.slice x166 l167 c168) fun w178 =>
 (St w178 ⟨b2, 4, none⟩ (.slice x169 l170 c171) fun w179 =>
 (St w179 ⟨b2, 5, none⟩ (.slice x172 l173 c174) fun w180 =>
 ∃ x181 : Int, w180.cell? ⟨b2, 0, none⟩ = some (.int .i64 x181) ∧
 ∃ x182 : Int, w180.cell? ⟨b2, 1, none⟩ = some (.int .i64 x182) ∧
 ∃ x183 : ByteArray, w180.cell? ⟨b2, 2, none⟩ = some (.string x183) ∧
 ∃ (x184 : Option Addr) (l185 c186 : Nat), w180.cell? ⟨b2, 3, none⟩ = some (.slice x184 l185 c186) ∧
 ∃ (x187 : Option Addr) (l188 c189 : Nat), w180.cell? ⟨b2, 4, none⟩ = some (.slice x187 l188 c189) ∧
 ∃ (x190 : Option Addr) (l191 c192 : Nat), w180.cell? ⟨b2, 5, none⟩ = some (.slice x190 l191 c192) ∧
 R (.returned (.agg #[(.int .i64 x181), (.int .i64 x182), (.string x183), (.slice x184 l185 c186), (.slice x187 l188 c189), (.slice x190 l191 c192)])) w180))))))))) (0 : Int) w97)))))) (0 : Int) w21)))))))
theorem e_bson_Copy (v_0x0 : Int) (v_0x1 : Int) (v_0x2 : ByteArray) (v_0x3 : Option Addr) (v_0x3l v_0x3c : Nat) (v_0x4 : Option Addr) (v_0x4l v_0x4c : Nat) (v_0x5 : Option Addr) (v_0x5l v_0x5c : Nat) (w : World) (R : Ending → World → Prop) : funcX pg T bl Try.f21 [(.agg #[(.int .i64 v_0x0), (.int .i64 v_0x1), (.string v_0x2), (.slice v_0x3 v_0x3l v_0x3c), (.slice v_0x4 v_0x4l v_0x4c), (.slice v_0x5 v_0x5l v_0x5c)])] w R = c_bson_Copy v_0x0  v_0x1  v_0x2  v_0x3 v_0x3l v_0x3c  v_0x4 v_0x4l v_0x4c  v_0x5 v_0x5l v_0x5c  w R := by kernel_rfl
theorem of_bson_Copy (v_0x0 : Int) (v_0x1 : Int) (v_0x2 : ByteArray) (v_0x3 : Option Addr) (v_0x3l v_0x3c : Nat) (v_0x4 : Option Addr) (v_0x4l v_0x4c : Nat) (v_0x5 : Option Addr) (v_0x5l v_0x5c : Nat) {w : World} {R : Ending → World → Prop} (h : c_bson_Copy v_0x0  v_0x1  v_0x2  v_0x3 v_0x3l v_0x3c  v_0x4 v_0x4l v_0x4c  v_0x5 v_0x5l v_0x5c  w R) : Calls pg f_bson_Copy #[(.agg #[(.int .i64 v_0x0), (.int .i64 v_0x1), (.string v_0x2), (.slice v_0x3 v_0x3l v_0x3c), (.slice v_0x4 v_0x4l v_0x4c), (.slice v_0x5 v_0x5l v_0x5c)])] w R :=
  funcX_of mixed tok blok Try.func21 (args := [(.agg #[(.int .i64 v_0x0), (.int .i64 v_0x1), (.string v_0x2), (.slice v_0x3 v_0x3l v_0x3c), (.slice v_0x4 v_0x4l v_0x4c), (.slice v_0x5 v_0x5l v_0x5c)])]) (e_bson_Copy v_0x0  v_0x1  v_0x2  v_0x3 v_0x3l v_0x3c  v_0x4 v_0x4l v_0x4c  v_0x5 v_0x5l v_0x5c  w R) h
/-- aqueduct/aqueductref5.Of -/
def c_aqueductref5_Of (n_0 : Int) (w : World) (R : Ending → World → Prop) : Prop :=
 (New w (.cells #[(.int .i64 (0 : Int)), (.int .i64 (0 : Int)), (.string (⟨#[]⟩ : ByteArray)), (.slice none 0 0), (.slice none 0 0), (.slice none 0 0)] t_api_Value (0, 0)) fun b0 w1 =>
 (Meet (σ := Bool) (fun J2 =>
 (cond (decide (n_0 ≥ (-2147483648 : Int)))
 (J2 (decide (n_0 < (2147483648 : Int))) w1)
 (J2 false w1)))
 (fun s3 w4 =>
 ∀ j5 : Nat → Value, (cond s3
 ((St w4 ⟨b0, 0, none⟩ (.int .i64 (3 : Int)) fun w6 =>
 (St w6 ⟨b0, 1, none⟩ (.int .i64 n_0) fun w7 =>
 (St w7 ⟨b0, 2, none⟩ (.string (⟨#[]⟩ : ByteArray)) fun w8 =>
 (St w8 ⟨b0, 3, none⟩ (.slice none 0 0) fun w9 =>
 (St w9 ⟨b0, 4, none⟩ (.slice none 0 0) fun w10 =>
 (St w10 ⟨b0, 5, none⟩ (.slice none 0 0) fun w11 =>
 ∃ x12 : Int, w11.cell? ⟨b0, 0, none⟩ = some (.int .i64 x12) ∧
 ∃ x13 : Int, w11.cell? ⟨b0, 1, none⟩ = some (.int .i64 x13) ∧
 ∃ x14 : ByteArray, w11.cell? ⟨b0, 2, none⟩ = some (.string x14) ∧
 ∃ (x15 : Option Addr) (l16 c17 : Nat), w11.cell? ⟨b0, 3, none⟩ = some (.slice x15 l16 c17) ∧
 ∃ (x18 : Option Addr) (l19 c20 : Nat), w11.cell? ⟨b0, 4, none⟩ = some (.slice x18 l19 c20) ∧
 ∃ (x21 : Option Addr) (l22 c23 : Nat), w11.cell? ⟨b0, 5, none⟩ = some (.slice x21 l22 c23) ∧
 R (.returned (.agg #[(.int .i64 x12), (.int .i64 x13), (.string x14), (.slice x15 l16 c17), (.slice x18 l19 c20), (.slice x21 l22 c23)])) w11)))))))
 ((St w4 ⟨b0, 0, none⟩ (.int .i64 (4 : Int)) fun w24 =>
 (St w24 ⟨b0, 1, none⟩ (.int .i64 n_0) fun w25 =>
 (St w25 ⟨b0, 2, none⟩ (.string (⟨#[]⟩ : ByteArray)) fun w26 =>
 (St w26 ⟨b0, 3, none⟩ (.slice none 0 0) fun w27 =>
 (St w27 ⟨b0, 4, none⟩ (.slice none 0 0) fun w28 =>
 (St w28 ⟨b0, 5, none⟩ (.slice none 0 0) fun w29 =>
 ∃ x30 : Int, w29.cell? ⟨b0, 0, none⟩ = some (.int .i64 x30) ∧
 ∃ x31 : Int, w29.cell? ⟨b0, 1, none⟩ = some (.int .i64 x31) ∧
 ∃ x32 : ByteArray, w29.cell? ⟨b0, 2, none⟩ = some (.string x32) ∧
 ∃ (x33 : Option Addr) (l34 c35 : Nat), w29.cell? ⟨b0, 3, none⟩ = some (.slice x33 l34 c35) ∧
 ∃ (x36 : Option Addr) (l37 c38 : Nat), w29.cell? ⟨b0, 4, none⟩ = some (.slice x36 l37 c38) ∧
 ∃ (x39 : Option Addr) (l40 c41 : Nat), w29.cell? ⟨b0, 5, none⟩ = some (.slice x39 l40 c41) ∧
 R (.returned (.agg #[(.int .i64 x30), (.int .i64 x31), (.string x32), (.slice x33 l34 c35), (.slice x36 l37 c38), (.slice x39 l40 c41)])) w29)))))))))))
theorem e_aqueductref5_Of (n_0 : Int) (w : World) (R : Ending → World → Prop) : funcX pg T bl Try.f26 [(.int .i64 n_0)] w R = c_aqueductref5_Of n_0  w R := by kernel_rfl
theorem of_aqueductref5_Of (n_0 : Int) {w : World} {R : Ending → World → Prop} (h : c_aqueductref5_Of n_0  w R) : Calls pg f_aqueductref5_Of #[(.int .i64 n_0)] w R :=
  funcX_of mixed tok blok Try.func26 (args := [(.int .i64 n_0)]) (e_aqueductref5_Of n_0  w R) h
/-- slices.Clone[[]aqueduct/api.Field,aqueduct/api.Field] -/
def c_slices_Clone_Sapi_Field_api_Field (s_0 : Option Addr) (s_0l s_0c : Nat) (w : World) (R : Ending → World → Prop) : Prop :=
 (cond s_0.isNone
 (R (.returned (.slice none 0 0)) w)
 ((New w (.cells #[] t_api_Field (0, 0)) fun b0 w1 =>
 (Prim pg (Builtin.append_ #[t_Sapi_Field, t_Sapi_Field] t_Sapi_Field #[(.slice (some (⟨b0, 0, none⟩ : Addr)) 0 0), (.slice s_0 s_0l s_0c)]) w1 fun v2 w3 =>
 ∃ (y4 : Option Addr) (l5 c6 : Nat), v2 = (.slice y4 l5 c6) ∧
 R (.returned (.slice y4 l5 c6)) w3))))
theorem e_slices_Clone_Sapi_Field_api_Field (s_0 : Option Addr) (s_0l s_0c : Nat) (w : World) (R : Ending → World → Prop) : funcX pg T bl Try.f39 [(.slice s_0 s_0l s_0c)] w R = c_slices_Clone_Sapi_Field_api_Field s_0 s_0l s_0c  w R := by kernel_rfl
theorem of_slices_Clone_Sapi_Field_api_Field (s_0 : Option Addr) (s_0l s_0c : Nat) {w : World} {R : Ending → World → Prop} (h : c_slices_Clone_Sapi_Field_api_Field s_0 s_0l s_0c  w R) : Calls pg f_slices_Clone_Sapi_Field_api_Field #[(.slice s_0 s_0l s_0c)] w R :=
  funcX_of mixed tok blok Try.func39 (args := [(.slice s_0 s_0l s_0c)]) (e_slices_Clone_Sapi_Field_api_Field s_0 s_0l s_0c  w R) h
/-- slices.Clone[[]aqueduct/api.Value,aqueduct/api.Value] -/
def c_slices_Clone_Sapi_Value_api_Value (s_0 : Option Addr) (s_0l s_0c : Nat) (w : World) (R : Ending → World → Prop) : Prop :=
 (cond s_0.isNone
 (R (.returned (.slice none 0 0)) w)
 ((New w (.cells #[] t_api_Value (0, 0)) fun b0 w1 =>
 (Prim pg (Builtin.append_ #[t_Sapi_Value, t_Sapi_Value] t_Sapi_Value #[(.slice (some (⟨b0, 0, none⟩ : Addr)) 0 0), (.slice s_0 s_0l s_0c)]) w1 fun v2 w3 =>
 ∃ (y4 : Option Addr) (l5 c6 : Nat), v2 = (.slice y4 l5 c6) ∧
 R (.returned (.slice y4 l5 c6)) w3))))
theorem e_slices_Clone_Sapi_Value_api_Value (s_0 : Option Addr) (s_0l s_0c : Nat) (w : World) (R : Ending → World → Prop) : funcX pg T bl Try.f40 [(.slice s_0 s_0l s_0c)] w R = c_slices_Clone_Sapi_Value_api_Value s_0 s_0l s_0c  w R := by kernel_rfl
theorem of_slices_Clone_Sapi_Value_api_Value (s_0 : Option Addr) (s_0l s_0c : Nat) {w : World} {R : Ending → World → Prop} (h : c_slices_Clone_Sapi_Value_api_Value s_0 s_0l s_0c  w R) : Calls pg f_slices_Clone_Sapi_Value_api_Value #[(.slice s_0 s_0l s_0c)] w R :=
  funcX_of mixed tok blok Try.func40 (args := [(.slice s_0 s_0l s_0c)]) (e_slices_Clone_Sapi_Value_api_Value s_0 s_0l s_0c  w R) h
/-- aqueduct/aqueductref5.Utf8 -/
def c_aqueductref5_Utf8 (s_0 : ByteArray) (w : World) (R : Ending → World → Prop) : Prop :=
 (Eng.Loop (σ := Bool × Int) (fun X0 s1 w2 =>
 ∀ j3 : Nat → Value, (cond (decide (s1.2 < ((s_0.size : Nat) : Int)))
 ((0 ≤ s1.2 ∧ s1.2 < ((s_0.size : Nat) : Int)) ∧
 (Meet (σ := Int × Int × Int × Int × Bool) (fun J4 =>
 (cond (decide ((byteAt s_0 (s1.2).toNat : Nat) < (128 : Int)))
 (X0 (s1.1, (IntKind.i64.wrap (s1.2 + (1 : Int)))) w2)
 ((Meet (σ := Bool) (fun J7 =>
 (cond (decide ((byteAt s_0 (s1.2).toNat : Nat) ≥ (194 : Int)))
 (J7 (decide ((byteAt s_0 (s1.2).toNat : Nat) ≤ (223 : Int))) w2)
 (J7 false w2)))
 (fun s8 w9 =>
 ∀ j10 : Nat → Value, (cond s8
 (J4 (s1.2, (1 : Int), (128 : Int), (191 : Int), s1.1) w9)
 ((Meet (σ := Bool) (fun J11 =>
 (cond (decide ((byteAt s_0 (s1.2).toNat : Nat) ≥ (224 : Int)))
 (J11 (decide ((byteAt s_0 (s1.2).toNat : Nat) ≤ (239 : Int))) w9)
 (J11 false w9)))
 (fun s12 w13 =>
 ∀ j14 : Nat → Value, (cond s12
 ((Meet (σ := Int) (fun J15 =>
 (cond ((byteAt s_0 (s1.2).toNat : Nat) == (224 : Int))
 (J15 (160 : Int) w13)
 (J15 (128 : Int) w13)))
 (fun s16 w17 =>
 ∀ j18 : Nat → Value, (cond ((byteAt s_0 (s1.2).toNat : Nat) == (237 : Int))
 (J4 (s1.2, (2 : Int), s16, (159 : Int), s1.1) w17)
 (J4 (s1.2, (2 : Int), s16, (191 : Int), s1.1) w17)))))
 ((Meet (σ := Bool) (fun J19 =>
 (cond (decide ((byteAt s_0 (s1.2).toNat : Nat) ≥ (240 : Int)))
 (J19 (decide ((byteAt s_0 (s1.2).toNat : Nat) ≤ (244 : Int))) w13)
 (J19 false w13)))
 (fun s20 w21 =>
 ∀ j22 : Nat → Value, (cond s20
 ((Meet (σ := Int) (fun J23 =>
 (cond ((byteAt s_0 (s1.2).toNat : Nat) == (240 : Int))
 (J23 (144 : Int) w21)
 (J23 (128 : Int) w21)))
 (fun s24 w25 =>
 ∀ j26 : Nat → Value, (cond ((byteAt s_0 (s1.2).toNat : Nat) == (244 : Int))
 (J4 (s1.2, (3 : Int), s24, (143 : Int), s1.1) w25)
 (J4 (s1.2, (3 : Int), s24, (191 : Int), s1.1) w25)))))
 (R (.returned (.bool false)) w21)))))))))))))))
 (fun s5 w6 =>
 ∀ j27 : Nat → Value, (Meet (σ := Bool) (fun J28 =>
 (cond (decide ((IntKind.i64.wrap ((IntKind.i64.wrap (((s_0.size : Nat) : Int) - s5.1)) - (1 : Int))) < s5.2.1))
 (J28 true w6)
 ((0 ≤ (IntKind.i64.wrap (s5.1 + (1 : Int))) ∧ (IntKind.i64.wrap (s5.1 + (1 : Int))) < ((s_0.size : Nat) : Int)) ∧
 (cond (decide ((byteAt s_0 ((IntKind.i64.wrap (s5.1 + (1 : Int)))).toNat : Nat) < s5.2.2.1))
 (J28 true w6)
 ((0 ≤ (IntKind.i64.wrap (s5.1 + (1 : Int))) ∧ (IntKind.i64.wrap (s5.1 + (1 : Int))) < ((s_0.size : Nat) : Int)) ∧
 J28 (decide ((byteAt s_0 ((IntKind.i64.wrap (s5.1 + (1 : Int)))).toNat : Nat) > s5.2.2.2.1)) w6)))))
 (fun s29 w30 =>
 ∀ j31 : Nat → Value, (cond s29
 (R (.returned (.bool false)) w30)
 ((Eng.Loop (σ := Bool × Int) (fun X32 s33 w34 =>
 ∀ j35 : Nat → Value, (cond (decide (s33.2 ≤ s5.2.1))
 ((0 ≤ (IntKind.i64.wrap (s5.1 + s33.2)) ∧ (IntKind.i64.wrap (s5.1 + s33.2)) < ((s_0.size : Nat) : Int)) ∧
 (cond ((IntKind.u8.wrap (BitVec.ofInt IntKind.u8.bits (byteAt s_0 ((IntKind.i64.wrap (s5.1 + s33.2))).toNat : Nat) &&& BitVec.ofInt IntKind.u8.bits (192 : Int)).toNat) != (128 : Int))
 (R (.returned (.bool false)) w34)
 (X32 (s33.1, (IntKind.i64.wrap (s33.2 + (1 : Int)))) w34)))
 (X0 (s33.1, (IntKind.i64.wrap ((IntKind.i64.wrap (s5.1 + s5.2.1)) + (1 : Int)))) w34))) (s5.2.2.2.2, (2 : Int)) w30))))))))
 (R (.returned (.bool true)) w2))) (false, (0 : Int)) w)
theorem e_aqueductref5_Utf8 (s_0 : ByteArray) (w : World) (R : Ending → World → Prop) : funcX pg T bl Try.f64 [(.string s_0)] w R = c_aqueductref5_Utf8 s_0  w R := by kernel_rfl
theorem of_aqueductref5_Utf8 (s_0 : ByteArray) {w : World} {R : Ending → World → Prop} (h : c_aqueductref5_Utf8 s_0  w R) : Calls pg f_aqueductref5_Utf8 #[(.string s_0)] w R :=
  funcX_of mixed tok blok Try.func64 (args := [(.string s_0)]) (e_aqueductref5_Utf8 s_0  w R) h
/-- aqueduct/aqueductref5.own -/
def c_aqueductref5_own (v_0x0 : Int) (v_0x1 : Int) (v_0x2 : ByteArray) (v_0x3 : Option Addr) (v_0x3l v_0x3c : Nat) (v_0x4 : Option Addr) (v_0x4l v_0x4c : Nat) (v_0x5 : Option Addr) (v_0x5l v_0x5c : Nat) (depth_1 : Int) (w : World) (R : Ending → World → Prop) : Prop :=
 (New w (.cells #[(.int .i64 v_0x0), (.int .i64 v_0x1), (.string v_0x2), (.slice v_0x3 v_0x3l v_0x3c), (.slice v_0x4 v_0x4l v_0x4c), (.slice v_0x5 v_0x5l v_0x5c)] t_api_Value (0, 0)) fun b0 w1 =>
 ∃ x2 : Int, w1.cell? ⟨b0, 0, none⟩ = some (.int .i64 x2) ∧
 (Meet (σ := Bool) (fun J3 =>
 (cond (x2 == (1 : Int))
 (J3 true w1)
 ((cond (x2 == (2 : Int))
 (J3 true w1)
 (J3 (x2 == (12 : Int)) w1)))))
 (fun s4 w5 =>
 ∀ j6 : Nat → Value, (cond s4
 (∃ x7 : Int, w5.cell? ⟨b0, 0, none⟩ = some (.int .i64 x7) ∧
 ∃ x8 : Int, w5.cell? ⟨b0, 1, none⟩ = some (.int .i64 x8) ∧
 ∃ x9 : ByteArray, w5.cell? ⟨b0, 2, none⟩ = some (.string x9) ∧
 ∃ (x10 : Option Addr) (l11 c12 : Nat), w5.cell? ⟨b0, 3, none⟩ = some (.slice x10 l11 c12) ∧
 ∃ (x13 : Option Addr) (l14 c15 : Nat), w5.cell? ⟨b0, 4, none⟩ = some (.slice x13 l14 c15) ∧
 ∃ (x16 : Option Addr) (l17 c18 : Nat), w5.cell? ⟨b0, 5, none⟩ = some (.slice x16 l17 c18) ∧
 (CallR pg f_aqueductref5_bare [(.agg #[(.int .i64 x7), (.int .i64 x8), (.string x9), (.slice x10 l11 c12), (.slice x13 l14 c15), (.slice x16 l17 c18)]), (.bool false), (.bool false), (.bool false), (.bool false), (.bool false)] w5 (fun ch w => R (.panicked ch) w) fun v19 w20 =>
 ∃ y21 : Bool, v19 = (.bool y21) ∧
 R (.returned (.tuple #[(.slice none 0 0), (.bool y21)])) w20))
 ((cond (x2 == (3 : Int))
 ((Meet (σ := (Option Addr × Nat × Nat) × Bool) (fun J22 =>
 (Drew w5 fun w25 =>
 ∃ x26 : Int, w25.cell? ⟨b0, 1, none⟩ = some (.int .i64 x26) ∧
 ∃ x27 : Int, w25.cell? ⟨b0, 0, none⟩ = some (.int .i64 x27) ∧
 ∃ x28 : Int, w25.cell? ⟨b0, 1, none⟩ = some (.int .i64 x28) ∧
 ∃ x29 : ByteArray, w25.cell? ⟨b0, 2, none⟩ = some (.string x29) ∧
 ∃ (x30 : Option Addr) (l31 c32 : Nat), w25.cell? ⟨b0, 3, none⟩ = some (.slice x30 l31 c32) ∧
 ∃ (x33 : Option Addr) (l34 c35 : Nat), w25.cell? ⟨b0, 4, none⟩ = some (.slice x33 l34 c35) ∧
 ∃ (x36 : Option Addr) (l37 c38 : Nat), w25.cell? ⟨b0, 5, none⟩ = some (.slice x36 l37 c38) ∧
 (CallR pg f_aqueductref5_num [(.int .i64 x26), (.int .i64 (4 : Int))] w25 (fun ch w => R (.panicked ch) w) fun v39 w40 =>
 ∃ (y41 : Option Addr) (l42 c43 : Nat), v39 = (.slice y41 l42 c43) ∧
 (w40.cell? ⟨b0, 0, none⟩ = some (.int .i64 x27) ∧ w40.cell? ⟨b0, 1, none⟩ = some (.int .i64 x28) ∧ w40.cell? ⟨b0, 2, none⟩ = some (.string x29) ∧ w40.cell? ⟨b0, 3, none⟩ = some (.slice x30 l31 c32) ∧ w40.cell? ⟨b0, 4, none⟩ = some (.slice x33 l34 c35) ∧ w40.cell? ⟨b0, 5, none⟩ = some (.slice x36 l37 c38)) ∧ (CallR pg f_aqueductref5_bare [(.agg #[(.int .i64 x27), (.int .i64 x28), (.string x29), (.slice x30 l31 c32), (.slice x33 l34 c35), (.slice x36 l37 c38)]), (.bool true), (.bool false), (.bool false), (.bool false), (.bool false)] w40 (fun ch w => R (.panicked ch) w) fun v44 w45 =>
 ∃ y46 : Bool, v44 = (.bool y46) ∧
 (cond y46
 (∃ x47 : Int, w45.cell? ⟨b0, 1, none⟩ = some (.int .i64 x47) ∧
 (cond (decide (x47 ≥ (-2147483648 : Int)))
 (∃ x48 : Int, w45.cell? ⟨b0, 1, none⟩ = some (.int .i64 x48) ∧
 J22 ((y41, l42, c43), (decide (x48 < (2147483648 : Int)))) w45)
 (J22 ((y41, l42, c43), false) w45)))
 (J22 ((y41, l42, c43), false) w45))))))
 (fun s23 w24 =>
 ∀ j49 : Nat → Value, R (.returned (.tuple #[(.slice s23.1.1 s23.1.2.1 s23.1.2.2), (.bool s23.2)])) w24)))
 ((Meet (σ := Bool) (fun J50 =>
 (cond (x2 == (4 : Int))
 (J50 true w5)
 (J50 (x2 == (11 : Int)) w5)))
 (fun s51 w52 =>
 ∀ j53 : Nat → Value, (cond s51
 ((Drew w52 fun w54 =>
 ∃ x55 : Int, w54.cell? ⟨b0, 1, none⟩ = some (.int .i64 x55) ∧
 ∃ x56 : Int, w54.cell? ⟨b0, 0, none⟩ = some (.int .i64 x56) ∧
 ∃ x57 : Int, w54.cell? ⟨b0, 1, none⟩ = some (.int .i64 x57) ∧
 ∃ x58 : ByteArray, w54.cell? ⟨b0, 2, none⟩ = some (.string x58) ∧
 ∃ (x59 : Option Addr) (l60 c61 : Nat), w54.cell? ⟨b0, 3, none⟩ = some (.slice x59 l60 c61) ∧
 ∃ (x62 : Option Addr) (l63 c64 : Nat), w54.cell? ⟨b0, 4, none⟩ = some (.slice x62 l63 c64) ∧
 ∃ (x65 : Option Addr) (l66 c67 : Nat), w54.cell? ⟨b0, 5, none⟩ = some (.slice x65 l66 c67) ∧
 (CallR pg f_aqueductref5_num [(.int .i64 x55), (.int .i64 (8 : Int))] w54 (fun ch w => R (.panicked ch) w) fun v68 w69 =>
 ∃ (y70 : Option Addr) (l71 c72 : Nat), v68 = (.slice y70 l71 c72) ∧
 (w69.cell? ⟨b0, 0, none⟩ = some (.int .i64 x56) ∧ w69.cell? ⟨b0, 1, none⟩ = some (.int .i64 x57) ∧ w69.cell? ⟨b0, 2, none⟩ = some (.string x58) ∧ w69.cell? ⟨b0, 3, none⟩ = some (.slice x59 l60 c61) ∧ w69.cell? ⟨b0, 4, none⟩ = some (.slice x62 l63 c64) ∧ w69.cell? ⟨b0, 5, none⟩ = some (.slice x65 l66 c67)) ∧ (CallR pg f_aqueductref5_bare [(.agg #[(.int .i64 x56), (.int .i64 x57), (.string x58), (.slice x59 l60 c61), (.slice x62 l63 c64), (.slice x65 l66 c67)]), (.bool true), (.bool false), (.bool false), (.bool false), (.bool false)] w69 (fun ch w => R (.panicked ch) w) fun v73 w74 =>
 ∃ y75 : Bool, v73 = (.bool y75) ∧
 R (.returned (.tuple #[(.slice y70 l71 c72), (.bool y75)])) w74))))
 ((cond (x2 == (10 : Int))
 ((Meet (σ := (Option Addr × Nat × Nat) × Bool) (fun J76 =>
 (Drew w52 fun w79 =>
 ∃ x80 : Int, w79.cell? ⟨b0, 1, none⟩ = some (.int .i64 x80) ∧
 ∃ x81 : Int, w79.cell? ⟨b0, 0, none⟩ = some (.int .i64 x81) ∧
 ∃ x82 : Int, w79.cell? ⟨b0, 1, none⟩ = some (.int .i64 x82) ∧
 ∃ x83 : ByteArray, w79.cell? ⟨b0, 2, none⟩ = some (.string x83) ∧
 ∃ (x84 : Option Addr) (l85 c86 : Nat), w79.cell? ⟨b0, 3, none⟩ = some (.slice x84 l85 c86) ∧
 ∃ (x87 : Option Addr) (l88 c89 : Nat), w79.cell? ⟨b0, 4, none⟩ = some (.slice x87 l88 c89) ∧
 ∃ (x90 : Option Addr) (l91 c92 : Nat), w79.cell? ⟨b0, 5, none⟩ = some (.slice x90 l91 c92) ∧
 (CallR pg f_aqueductref5_num [(.int .i64 x80), (.int .i64 (1 : Int))] w79 (fun ch w => R (.panicked ch) w) fun v93 w94 =>
 ∃ (y95 : Option Addr) (l96 c97 : Nat), v93 = (.slice y95 l96 c97) ∧
 (w94.cell? ⟨b0, 0, none⟩ = some (.int .i64 x81) ∧ w94.cell? ⟨b0, 1, none⟩ = some (.int .i64 x82) ∧ w94.cell? ⟨b0, 2, none⟩ = some (.string x83) ∧ w94.cell? ⟨b0, 3, none⟩ = some (.slice x84 l85 c86) ∧ w94.cell? ⟨b0, 4, none⟩ = some (.slice x87 l88 c89) ∧ w94.cell? ⟨b0, 5, none⟩ = some (.slice x90 l91 c92)) ∧ (CallR pg f_aqueductref5_bare [(.agg #[(.int .i64 x81), (.int .i64 x82), (.string x83), (.slice x84 l85 c86), (.slice x87 l88 c89), (.slice x90 l91 c92)]), (.bool true), (.bool false), (.bool false), (.bool false), (.bool false)] w94 (fun ch w => R (.panicked ch) w) fun v98 w99 =>
 ∃ y100 : Bool, v98 = (.bool y100) ∧
 (cond y100
 (∃ x101 : Int, w99.cell? ⟨b0, 1, none⟩ = some (.int .i64 x101) ∧
 (cond (x101 == (0 : Int))
 (J76 ((y95, l96, c97), true) w99)
 (∃ x102 : Int, w99.cell? ⟨b0, 1, none⟩ = some (.int .i64 x102) ∧
 J76 ((y95, l96, c97), (x102 == (1 : Int))) w99)))
 (J76 ((y95, l96, c97), false) w99))))))
 (fun s77 w78 =>
 ∀ j103 : Nat → Value, R (.returned (.tuple #[(.slice s77.1.1 s77.1.2.1 s77.1.2.2), (.bool s77.2)])) w78)))
 ((cond (x2 == (5 : Int))
 (∃ x104 : ByteArray, w52.cell? ⟨b0, 2, none⟩ = some (.string x104) ∧
 (cond (decide (((x104.size : Nat) : Int) > (65536 : Int)))
 (R (.returned (.tuple #[(.slice none 0 0), (.bool false)])) w52)
 ((Meet (σ := (Option Addr × Nat × Nat) × Bool) (fun J105 =>
 (Drew w52 fun w108 =>
 ∃ x109 : ByteArray, w108.cell? ⟨b0, 2, none⟩ = some (.string x109) ∧
 ∃ x110 : ByteArray, w108.cell? ⟨b0, 2, none⟩ = some (.string x110) ∧
 ∃ x111 : Int, w108.cell? ⟨b0, 0, none⟩ = some (.int .i64 x111) ∧
 ∃ x112 : Int, w108.cell? ⟨b0, 1, none⟩ = some (.int .i64 x112) ∧
 ∃ x113 : ByteArray, w108.cell? ⟨b0, 2, none⟩ = some (.string x113) ∧
 ∃ (x114 : Option Addr) (l115 c116 : Nat), w108.cell? ⟨b0, 3, none⟩ = some (.slice x114 l115 c116) ∧
 ∃ (x117 : Option Addr) (l118 c119 : Nat), w108.cell? ⟨b0, 4, none⟩ = some (.slice x117 l118 c119) ∧
 ∃ (x120 : Option Addr) (l121 c122 : Nat), w108.cell? ⟨b0, 5, none⟩ = some (.slice x120 l121 c122) ∧
 ((CallR pg f_aqueductref5_num [(.int .i64 (IntKind.i64.wrap (((x109.size : Nat) : Int) + (1 : Int)))), (.int .i64 (4 : Int))] w108 (fun ch w => R (.panicked ch) w) fun v123 w124 =>
 ∃ (y125 : Option Addr) (l126 c127 : Nat), v123 = (.slice y125 l126 c127) ∧
 (w124.cell? ⟨b0, 0, none⟩ = some (.int .i64 x111) ∧ w124.cell? ⟨b0, 1, none⟩ = some (.int .i64 x112) ∧ w124.cell? ⟨b0, 2, none⟩ = some (.string x113) ∧ w124.cell? ⟨b0, 3, none⟩ = some (.slice x114 l115 c116) ∧ w124.cell? ⟨b0, 4, none⟩ = some (.slice x117 l118 c119) ∧ w124.cell? ⟨b0, 5, none⟩ = some (.slice x120 l121 c122)) ∧ (w124.cell? ⟨b0, 2, none⟩ = some (.string x110)) ∧ ((Prim pg (Builtin.append_ #[t_Suint8, t_string] t_Suint8 #[(.slice y125 l126 c127), (.string x110)]) w124 fun v128 w129 =>
 ∃ (y130 : Option Addr) (l131 c132 : Nat), v128 = (.slice y130 l131 c132) ∧
 (w129.cell? ⟨b0, 0, none⟩ = some (.int .i64 x111) ∧ w129.cell? ⟨b0, 1, none⟩ = some (.int .i64 x112) ∧ w129.cell? ⟨b0, 2, none⟩ = some (.string x113) ∧ w129.cell? ⟨b0, 3, none⟩ = some (.slice x114 l115 c116) ∧ w129.cell? ⟨b0, 4, none⟩ = some (.slice x117 l118 c119) ∧ w129.cell? ⟨b0, 5, none⟩ = some (.slice x120 l121 c122)) ∧ (New w129 (.cells #[(.int .u8 (0 : Int))] t_uint8 (0, 0)) fun b133 w134 =>
 (w134.cell? ⟨b0, 0, none⟩ = some (.int .i64 x111) ∧ w134.cell? ⟨b0, 1, none⟩ = some (.int .i64 x112) ∧ w134.cell? ⟨b0, 2, none⟩ = some (.string x113) ∧ w134.cell? ⟨b0, 3, none⟩ = some (.slice x114 l115 c116) ∧ w134.cell? ⟨b0, 4, none⟩ = some (.slice x117 l118 c119) ∧ w134.cell? ⟨b0, 5, none⟩ = some (.slice x120 l121 c122)) ∧ (Prim pg (Builtin.append_ #[t_Suint8, t_Suint8] t_Suint8 #[(.slice y130 l131 c132), (.slice (some (⟨b133, 0, none⟩ : Addr)) 1 1)]) w134 fun v135 w136 =>
 ∃ (y137 : Option Addr) (l138 c139 : Nat), v135 = (.slice y137 l138 c139) ∧
 (w136.cell? ⟨b0, 0, none⟩ = some (.int .i64 x111) ∧ w136.cell? ⟨b0, 1, none⟩ = some (.int .i64 x112) ∧ w136.cell? ⟨b0, 2, none⟩ = some (.string x113) ∧ w136.cell? ⟨b0, 3, none⟩ = some (.slice x114 l115 c116) ∧ w136.cell? ⟨b0, 4, none⟩ = some (.slice x117 l118 c119) ∧ w136.cell? ⟨b0, 5, none⟩ = some (.slice x120 l121 c122)) ∧ (CallR pg f_aqueductref5_bare [(.agg #[(.int .i64 x111), (.int .i64 x112), (.string x113), (.slice x114 l115 c116), (.slice x117 l118 c119), (.slice x120 l121 c122)]), (.bool false), (.bool true), (.bool false), (.bool false), (.bool false)] w136 (fun ch w => R (.panicked ch) w) fun v140 w141 =>
 ∃ y142 : Bool, v140 = (.bool y142) ∧
 (cond y142
 (∃ x143 : ByteArray, w141.cell? ⟨b0, 2, none⟩ = some (.string x143) ∧
 (CallR pg f_aqueductref5_Utf8 [(.string x143)] w141 (fun ch w => R (.panicked ch) w) fun v144 w145 =>
 ∃ y146 : Bool, v144 = (.bool y146) ∧
 J105 ((y137, l138, c139), y146) w145))
 (J105 ((y137, l138, c139), false) w141))))))) ∧
 ((New w124 (.cells #[(.int .u8 (0 : Int))] t_uint8 (0, 0)) fun b147 w148 =>
 (w148.cell? ⟨b0, 0, none⟩ = some (.int .i64 x111) ∧ w148.cell? ⟨b0, 1, none⟩ = some (.int .i64 x112) ∧ w148.cell? ⟨b0, 2, none⟩ = some (.string x113) ∧ w148.cell? ⟨b0, 3, none⟩ = some (.slice x114 l115 c116) ∧ w148.cell? ⟨b0, 4, none⟩ = some (.slice x117 l118 c119) ∧ w148.cell? ⟨b0, 5, none⟩ = some (.slice x120 l121 c122)) ∧ (w148.cell? ⟨b0, 2, none⟩ = some (.string x110)) ∧ (Prim pg (Builtin.append_ #[t_Suint8, t_string] t_Suint8 #[(.slice y125 l126 c127), (.string x110)]) w148 fun v149 w150 =>
 ∃ (y151 : Option Addr) (l152 c153 : Nat), v149 = (.slice y151 l152 c153) ∧
 (w150.cell? ⟨b0, 0, none⟩ = some (.int .i64 x111) ∧ w150.cell? ⟨b0, 1, none⟩ = some (.int .i64 x112) ∧ w150.cell? ⟨b0, 2, none⟩ = some (.string x113) ∧ w150.cell? ⟨b0, 3, none⟩ = some (.slice x114 l115 c116) ∧ w150.cell? ⟨b0, 4, none⟩ = some (.slice x117 l118 c119) ∧ w150.cell? ⟨b0, 5, none⟩ = some (.slice x120 l121 c122)) ∧ (Prim pg (Builtin.append_ #[t_Suint8, t_Suint8] t_Suint8 #[(.slice y151 l152 c153), (.slice (some (⟨b147, 0, none⟩ : Addr)) 1 1)]) w150 fun v154 w155 =>
 ∃ (y156 : Option Addr) (l157 c158 : Nat), v154 = (.slice y156 l157 c158) ∧
 (w155.cell? ⟨b0, 0, none⟩ = some (.int .i64 x111) ∧ w155.cell? ⟨b0, 1, none⟩ = some (.int .i64 x112) ∧ w155.cell? ⟨b0, 2, none⟩ = some (.string x113) ∧ w155.cell? ⟨b0, 3, none⟩ = some (.slice x114 l115 c116) ∧ w155.cell? ⟨b0, 4, none⟩ = some (.slice x117 l118 c119) ∧ w155.cell? ⟨b0, 5, none⟩ = some (.slice x120 l121 c122)) ∧ (CallR pg f_aqueductref5_bare [(.agg #[(.int .i64 x111), (.int .i64 x112), (.string x113), (.slice x114 l115 c116), (.slice x117 l118 c119), (.slice x120 l121 c122)]), (.bool false), (.bool true), (.bool false), (.bool false), (.bool false)] w155 (fun ch w => R (.panicked ch) w) fun v159 w160 =>
 ∃ y161 : Bool, v159 = (.bool y161) ∧
 (cond y161
 (∃ x162 : ByteArray, w160.cell? ⟨b0, 2, none⟩ = some (.string x162) ∧
 (CallR pg f_aqueductref5_Utf8 [(.string x162)] w160 (fun ch w => R (.panicked ch) w) fun v163 w164 =>
 ∃ y165 : Bool, v163 = (.bool y165) ∧
 J105 ((y156, l157, c158), y165) w164))
 (J105 ((y156, l157, c158), false) w160))))))))) ∧
 ((New w108 (.cells #[(.int .u8 (0 : Int))] t_uint8 (0, 0)) fun b166 w167 =>
 (w167.cell? ⟨b0, 0, none⟩ = some (.int .i64 x111) ∧ w167.cell? ⟨b0, 1, none⟩ = some (.int .i64 x112) ∧ w167.cell? ⟨b0, 2, none⟩ = some (.string x113) ∧ w167.cell? ⟨b0, 3, none⟩ = some (.slice x114 l115 c116) ∧ w167.cell? ⟨b0, 4, none⟩ = some (.slice x117 l118 c119) ∧ w167.cell? ⟨b0, 5, none⟩ = some (.slice x120 l121 c122)) ∧ (w167.cell? ⟨b0, 2, none⟩ = some (.string x110)) ∧ (w167.cell? ⟨b0, 2, none⟩ = some (.string x109)) ∧ (CallR pg f_aqueductref5_num [(.int .i64 (IntKind.i64.wrap (((x109.size : Nat) : Int) + (1 : Int)))), (.int .i64 (4 : Int))] w167 (fun ch w => R (.panicked ch) w) fun v168 w169 =>
 ∃ (y170 : Option Addr) (l171 c172 : Nat), v168 = (.slice y170 l171 c172) ∧
 (w169.cell? ⟨b0, 0, none⟩ = some (.int .i64 x111) ∧ w169.cell? ⟨b0, 1, none⟩ = some (.int .i64 x112) ∧ w169.cell? ⟨b0, 2, none⟩ = some (.string x113) ∧ w169.cell? ⟨b0, 3, none⟩ = some (.slice x114 l115 c116) ∧ w169.cell? ⟨b0, 4, none⟩ = some (.slice x117 l118 c119) ∧ w169.cell? ⟨b0, 5, none⟩ = some (.slice x120 l121 c122)) ∧ (w169.cell? ⟨b0, 2, none⟩ = some (.string x110)) ∧ (Prim pg (Builtin.append_ #[t_Suint8, t_string] t_Suint8 #[(.slice y170 l171 c172), (.string x110)]) w169 fun v173 w174 =>
 ∃ (y175 : Option Addr) (l176 c177 : Nat), v173 = (.slice y175 l176 c177) ∧
 (w174.cell? ⟨b0, 0, none⟩ = some (.int .i64 x111) ∧ w174.cell? ⟨b0, 1, none⟩ = some (.int .i64 x112) ∧ w174.cell? ⟨b0, 2, none⟩ = some (.string x113) ∧ w174.cell? ⟨b0, 3, none⟩ = some (.slice x114 l115 c116) ∧ w174.cell? ⟨b0, 4, none⟩ = some (.slice x117 l118 c119) ∧ w174.cell? ⟨b0, 5, none⟩ = some (.slice x120 l121 c122)) ∧ (Prim pg (Builtin.append_ #[t_Suint8, t_Suint8] t_Suint8 #[(.slice y175 l176 c177), (.slice (some (⟨b166, 0, none⟩ : Addr)) 1 1)]) w174 fun v178 w179 =>
 ∃ (y180 : Option Addr) (l181 c182 : Nat), v178 = (.slice y180 l181 c182) ∧
 (w179.cell? ⟨b0, 0, none⟩ = some (.int .i64 x111) ∧ w179.cell? ⟨b0, 1, none⟩ = some (.int .i64 x112) ∧ w179.cell? ⟨b0, 2, none⟩ = some (.string x113) ∧ w179.cell? ⟨b0, 3, none⟩ = some (.slice x114 l115 c116) ∧ w179.cell? ⟨b0, 4, none⟩ = some (.slice x117 l118 c119) ∧ w179.cell? ⟨b0, 5, none⟩ = some (.slice x120 l121 c122)) ∧ (CallR pg f_aqueductref5_bare [(.agg #[(.int .i64 x111), (.int .i64 x112), (.string x113), (.slice x114 l115 c116), (.slice x117 l118 c119), (.slice x120 l121 c122)]), (.bool false), (.bool true), (.bool false), (.bool false), (.bool false)] w179 (fun ch w => R (.panicked ch) w) fun v183 w184 =>
 ∃ y185 : Bool, v183 = (.bool y185) ∧
 (cond y185
 (∃ x186 : ByteArray, w184.cell? ⟨b0, 2, none⟩ = some (.string x186) ∧
 (CallR pg f_aqueductref5_Utf8 [(.string x186)] w184 (fun ch w => R (.panicked ch) w) fun v187 w188 =>
 ∃ y189 : Bool, v187 = (.bool y189) ∧
 J105 ((y180, l181, c182), y189) w188))
 (J105 ((y180, l181, c182), false) w184))))))))))
 (fun s106 w107 =>
 ∀ j190 : Nat → Value, R (.returned (.tuple #[(.slice s106.1.1 s106.1.2.1 s106.1.2.2), (.bool s106.2)])) w107)))))
 ((cond (x2 == (8 : Int))
 (∃ (x191 : Option Addr) (l192 c193 : Nat), w52.cell? ⟨b0, 3, none⟩ = some (.slice x191 l192 c193) ∧
 (cond (decide (((l192 : Nat) : Int) > (65536 : Int)))
 (R (.returned (.tuple #[(.slice none 0 0), (.bool false)])) w52)
 ((Drew w52 fun w194 =>
 ∃ (x195 : Option Addr) (l196 c197 : Nat), w194.cell? ⟨b0, 3, none⟩ = some (.slice x195 l196 c197) ∧
 ∃ (x198 : Option Addr) (l199 c200 : Nat), w194.cell? ⟨b0, 3, none⟩ = some (.slice x198 l199 c200) ∧
 ∃ x201 : Int, w194.cell? ⟨b0, 0, none⟩ = some (.int .i64 x201) ∧
 ∃ x202 : Int, w194.cell? ⟨b0, 1, none⟩ = some (.int .i64 x202) ∧
 ∃ x203 : ByteArray, w194.cell? ⟨b0, 2, none⟩ = some (.string x203) ∧
 ∃ (x204 : Option Addr) (l205 c206 : Nat), w194.cell? ⟨b0, 3, none⟩ = some (.slice x204 l205 c206) ∧
 ∃ (x207 : Option Addr) (l208 c209 : Nat), w194.cell? ⟨b0, 4, none⟩ = some (.slice x207 l208 c209) ∧
 ∃ (x210 : Option Addr) (l211 c212 : Nat), w194.cell? ⟨b0, 5, none⟩ = some (.slice x210 l211 c212) ∧
 ((CallR pg f_aqueductref5_num [(.int .i64 ((l196 : Nat) : Int)), (.int .i64 (4 : Int))] w194 (fun ch w => R (.panicked ch) w) fun v213 w214 =>
 ∃ (y215 : Option Addr) (l216 c217 : Nat), v213 = (.slice y215 l216 c217) ∧
 (w214.cell? ⟨b0, 0, none⟩ = some (.int .i64 x201) ∧ w214.cell? ⟨b0, 1, none⟩ = some (.int .i64 x202) ∧ w214.cell? ⟨b0, 2, none⟩ = some (.string x203) ∧ w214.cell? ⟨b0, 3, none⟩ = some (.slice x204 l205 c206) ∧ w214.cell? ⟨b0, 4, none⟩ = some (.slice x207 l208 c209) ∧ w214.cell? ⟨b0, 5, none⟩ = some (.slice x210 l211 c212)) ∧ (w214.cell? ⟨b0, 3, none⟩ = some (.slice x198 l199 c200)) ∧ (New w214 (.cells #[(.int .u8 (0 : Int))] t_uint8 (0, 0)) fun b218 w219 =>
 (w219.cell? ⟨b0, 0, none⟩ = some (.int .i64 x201) ∧ w219.cell? ⟨b0, 1, none⟩ = some (.int .i64 x202) ∧ w219.cell? ⟨b0, 2, none⟩ = some (.string x203) ∧ w219.cell? ⟨b0, 3, none⟩ = some (.slice x204 l205 c206) ∧ w219.cell? ⟨b0, 4, none⟩ = some (.slice x207 l208 c209) ∧ w219.cell? ⟨b0, 5, none⟩ = some (.slice x210 l211 c212)) ∧ (w219.cell? ⟨b0, 3, none⟩ = some (.slice x198 l199 c200)) ∧ (Prim pg (Builtin.append_ #[t_Suint8, t_Suint8] t_Suint8 #[(.slice y215 l216 c217), (.slice (some (⟨b218, 0, none⟩ : Addr)) 1 1)]) w219 fun v220 w221 =>
 ∃ (y222 : Option Addr) (l223 c224 : Nat), v220 = (.slice y222 l223 c224) ∧
 (w221.cell? ⟨b0, 0, none⟩ = some (.int .i64 x201) ∧ w221.cell? ⟨b0, 1, none⟩ = some (.int .i64 x202) ∧ w221.cell? ⟨b0, 2, none⟩ = some (.string x203) ∧ w221.cell? ⟨b0, 3, none⟩ = some (.slice x204 l205 c206) ∧ w221.cell? ⟨b0, 4, none⟩ = some (.slice x207 l208 c209) ∧ w221.cell? ⟨b0, 5, none⟩ = some (.slice x210 l211 c212)) ∧ (w221.cell? ⟨b0, 3, none⟩ = some (.slice x198 l199 c200)) ∧ (Prim pg (Builtin.append_ #[t_Suint8, t_Suint8] t_Suint8 #[(.slice y222 l223 c224), (.slice x198 l199 c200)]) w221 fun v225 w226 =>
 ∃ (y227 : Option Addr) (l228 c229 : Nat), v225 = (.slice y227 l228 c229) ∧
 (w226.cell? ⟨b0, 0, none⟩ = some (.int .i64 x201) ∧ w226.cell? ⟨b0, 1, none⟩ = some (.int .i64 x202) ∧ w226.cell? ⟨b0, 2, none⟩ = some (.string x203) ∧ w226.cell? ⟨b0, 3, none⟩ = some (.slice x204 l205 c206) ∧ w226.cell? ⟨b0, 4, none⟩ = some (.slice x207 l208 c209) ∧ w226.cell? ⟨b0, 5, none⟩ = some (.slice x210 l211 c212)) ∧ (CallR pg f_aqueductref5_bare [(.agg #[(.int .i64 x201), (.int .i64 x202), (.string x203), (.slice x204 l205 c206), (.slice x207 l208 c209), (.slice x210 l211 c212)]), (.bool false), (.bool false), (.bool true), (.bool false), (.bool false)] w226 (fun ch w => R (.panicked ch) w) fun v230 w231 =>
 ∃ y232 : Bool, v230 = (.bool y232) ∧
 R (.returned (.tuple #[(.slice y227 l228 c229), (.bool y232)])) w231)))))) ∧
 ((New w194 (.cells #[(.int .u8 (0 : Int))] t_uint8 (0, 0)) fun b233 w234 =>
 (w234.cell? ⟨b0, 0, none⟩ = some (.int .i64 x201) ∧ w234.cell? ⟨b0, 1, none⟩ = some (.int .i64 x202) ∧ w234.cell? ⟨b0, 2, none⟩ = some (.string x203) ∧ w234.cell? ⟨b0, 3, none⟩ = some (.slice x204 l205 c206) ∧ w234.cell? ⟨b0, 4, none⟩ = some (.slice x207 l208 c209) ∧ w234.cell? ⟨b0, 5, none⟩ = some (.slice x210 l211 c212)) ∧ (w234.cell? ⟨b0, 3, none⟩ = some (.slice x198 l199 c200)) ∧ (w234.cell? ⟨b0, 3, none⟩ = some (.slice x195 l196 c197)) ∧ (CallR pg f_aqueductref5_num [(.int .i64 ((l196 : Nat) : Int)), (.int .i64 (4 : Int))] w234 (fun ch w => R (.panicked ch) w) fun v235 w236 =>
 ∃ (y237 : Option Addr) (l238 c239 : Nat), v235 = (.slice y237 l238 c239) ∧
 (w236.cell? ⟨b0, 0, none⟩ = some (.int .i64 x201) ∧ w236.cell? ⟨b0, 1, none⟩ = some (.int .i64 x202) ∧ w236.cell? ⟨b0, 2, none⟩ = some (.string x203) ∧ w236.cell? ⟨b0, 3, none⟩ = some (.slice x204 l205 c206) ∧ w236.cell? ⟨b0, 4, none⟩ = some (.slice x207 l208 c209) ∧ w236.cell? ⟨b0, 5, none⟩ = some (.slice x210 l211 c212)) ∧ (w236.cell? ⟨b0, 3, none⟩ = some (.slice x198 l199 c200)) ∧ (Prim pg (Builtin.append_ #[t_Suint8, t_Suint8] t_Suint8 #[(.slice y237 l238 c239), (.slice (some (⟨b233, 0, none⟩ : Addr)) 1 1)]) w236 fun v240 w241 =>
 ∃ (y242 : Option Addr) (l243 c244 : Nat), v240 = (.slice y242 l243 c244) ∧
 (w241.cell? ⟨b0, 0, none⟩ = some (.int .i64 x201) ∧ w241.cell? ⟨b0, 1, none⟩ = some (.int .i64 x202) ∧ w241.cell? ⟨b0, 2, none⟩ = some (.string x203) ∧ w241.cell? ⟨b0, 3, none⟩ = some (.slice x204 l205 c206) ∧ w241.cell? ⟨b0, 4, none⟩ = some (.slice x207 l208 c209) ∧ w241.cell? ⟨b0, 5, none⟩ = some (.slice x210 l211 c212)) ∧ (w241.cell? ⟨b0, 3, none⟩ = some (.slice x198 l199 c200)) ∧ (Prim pg (Builtin.append_ #[t_Suint8, t_Suint8] t_Suint8 #[(.slice y242 l243 c244), (.slice x198 l199 c200)]) w241 fun v245 w246 =>
 ∃ (y247 : Option Addr) (l248 c249 : Nat), v245 = (.slice y247 l248 c249) ∧
 (w246.cell? ⟨b0, 0, none⟩ = some (.int .i64 x201) ∧ w246.cell? ⟨b0, 1, none⟩ = some (.int .i64 x202) ∧ w246.cell? ⟨b0, 2, none⟩ = some (.string x203) ∧ w246.cell? ⟨b0, 3, none⟩ = some (.slice x204 l205 c206) ∧ w246.cell? ⟨b0, 4, none⟩ = some (.slice x207 l208 c209) ∧ w246.cell? ⟨b0, 5, none⟩ = some (.slice x210 l211 c212)) ∧ (CallR pg f_aqueductref5_bare [(.agg #[(.int .i64 x201), (.int .i64 x202), (.string x203), (.slice x204 l205 c206), (.slice x207 l208 c209), (.slice x210 l211 c212)]), (.bool false), (.bool false), (.bool true), (.bool false), (.bool false)] w246 (fun ch w => R (.panicked ch) w) fun v250 w251 =>
 ∃ y252 : Bool, v250 = (.bool y252) ∧
 R (.returned (.tuple #[(.slice y247 l248 c249), (.bool y252)])) w251))))))))))
 ((cond (x2 == (9 : Int))
 ((Meet (σ := (Option Addr × Nat × Nat) × Bool) (fun J253 =>
 (Drew w52 fun w256 =>
 ∃ (x257 : Option Addr) (l258 c259 : Nat), w256.cell? ⟨b0, 3, none⟩ = some (.slice x257 l258 c259) ∧
 ∃ x260 : Int, w256.cell? ⟨b0, 0, none⟩ = some (.int .i64 x260) ∧
 ∃ x261 : Int, w256.cell? ⟨b0, 1, none⟩ = some (.int .i64 x261) ∧
 ∃ x262 : ByteArray, w256.cell? ⟨b0, 2, none⟩ = some (.string x262) ∧
 ∃ (x263 : Option Addr) (l264 c265 : Nat), w256.cell? ⟨b0, 3, none⟩ = some (.slice x263 l264 c265) ∧
 ∃ (x266 : Option Addr) (l267 c268 : Nat), w256.cell? ⟨b0, 4, none⟩ = some (.slice x266 l267 c268) ∧
 ∃ (x269 : Option Addr) (l270 c271 : Nat), w256.cell? ⟨b0, 5, none⟩ = some (.slice x269 l270 c271) ∧
 (CallR pg f_aqueductref5_bare [(.agg #[(.int .i64 x260), (.int .i64 x261), (.string x262), (.slice x263 l264 c265), (.slice x266 l267 c268), (.slice x269 l270 c271)]), (.bool false), (.bool false), (.bool true), (.bool false), (.bool false)] w256 (fun ch w => R (.panicked ch) w) fun v272 w273 =>
 ∃ y274 : Bool, v272 = (.bool y274) ∧
 (w273.cell? ⟨b0, 3, none⟩ = some (.slice x257 l258 c259)) ∧ (cond y274
 (∃ (x275 : Option Addr) (l276 c277 : Nat), w273.cell? ⟨b0, 3, none⟩ = some (.slice x275 l276 c277) ∧
 J253 ((x257, l258, c259), (((l276 : Nat) : Int) == (12 : Int))) w273)
 (J253 ((x257, l258, c259), false) w273)))))
 (fun s254 w255 =>
 ∀ j278 : Nat → Value, R (.returned (.tuple #[(.slice s254.1.1 s254.1.2.1 s254.1.2.2), (.bool s254.2)])) w255)))
 ((cond (x2 == (6 : Int))
 ((Meet (σ := Bool) (fun J279 =>
 ∃ x282 : Int, w52.cell? ⟨b0, 0, none⟩ = some (.int .i64 x282) ∧
 ∃ x283 : Int, w52.cell? ⟨b0, 1, none⟩ = some (.int .i64 x283) ∧
 ∃ x284 : ByteArray, w52.cell? ⟨b0, 2, none⟩ = some (.string x284) ∧
 ∃ (x285 : Option Addr) (l286 c287 : Nat), w52.cell? ⟨b0, 3, none⟩ = some (.slice x285 l286 c287) ∧
 ∃ (x288 : Option Addr) (l289 c290 : Nat), w52.cell? ⟨b0, 4, none⟩ = some (.slice x288 l289 c290) ∧
 ∃ (x291 : Option Addr) (l292 c293 : Nat), w52.cell? ⟨b0, 5, none⟩ = some (.slice x291 l292 c293) ∧
 (CallR pg f_aqueductref5_bare [(.agg #[(.int .i64 x282), (.int .i64 x283), (.string x284), (.slice x285 l286 c287), (.slice x288 l289 c290), (.slice x291 l292 c293)]), (.bool false), (.bool false), (.bool false), (.bool true), (.bool false)] w52 (fun ch w => R (.panicked ch) w) fun v294 w295 =>
 ∃ y296 : Bool, v294 = (.bool y296) ∧
 (cond (!y296)
 (J279 true w295)
 (J279 (decide (depth_1 > (32 : Int))) w295))))
 (fun s280 w281 =>
 ∀ j297 : Nat → Value, (cond s280
 (R (.returned (.tuple #[(.slice none 0 0), (.bool false)])) w281)
 (∃ (x298 : Option Addr) (l299 c300 : Nat), w281.cell? ⟨b0, 4, none⟩ = some (.slice x298 l299 c300) ∧
 (CallR pg f_aqueductref5_fields [(.slice x298 l299 c300), (.int .i64 depth_1)] w281 (fun ch w => R (.panicked ch) w) fun v301 w302 =>
 ∃ (y303 : Option Addr) (l304 c305 : Nat), ∃ y306 : Bool, v301 = (.tuple #[(.slice y303 l304 c305), (.bool y306)]) ∧
 R (.returned (.tuple #[(.slice y303 l304 c305), (.bool y306)])) w302))))))
 ((cond (x2 == (7 : Int))
 ((Meet (σ := Bool) (fun J307 =>
 ∃ x310 : Int, w52.cell? ⟨b0, 0, none⟩ = some (.int .i64 x310) ∧
 ∃ x311 : Int, w52.cell? ⟨b0, 1, none⟩ = some (.int .i64 x311) ∧
 ∃ x312 : ByteArray, w52.cell? ⟨b0, 2, none⟩ = some (.string x312) ∧
 ∃ (x313 : Option Addr) (l314 c315 : Nat), w52.cell? ⟨b0, 3, none⟩ = some (.slice x313 l314 c315) ∧
 ∃ (x316 : Option Addr) (l317 c318 : Nat), w52.cell? ⟨b0, 4, none⟩ = some (.slice x316 l317 c318) ∧
 ∃ (x319 : Option Addr) (l320 c321 : Nat), w52.cell? ⟨b0, 5, none⟩ = some (.slice x319 l320 c321) ∧
 (CallR pg f_aqueductref5_bare [(.agg #[(.int .i64 x310), (.int .i64 x311), (.string x312), (.slice x313 l314 c315), (.slice x316 l317 c318), (.slice x319 l320 c321)]), (.bool false), (.bool false), (.bool false), (.bool false), (.bool true)] w52 (fun ch w => R (.panicked ch) w) fun v322 w323 =>
 ∃ y324 : Bool, v322 = (.bool y324) ∧
 (cond (!y324)
 (J307 true w323)
 ((cond (decide (depth_1 > (32 : Int)))
 (J307 true w323)
 (∃ (x325 : Option Addr) (l326 c327 : Nat), w323.cell? ⟨b0, 5, none⟩ = some (.slice x325 l326 c327) ∧
 J307 (decide (((l326 : Nat) : Int) > (65536 : Int))) w323))))))
 (fun s308 w309 =>
 ∀ j328 : Nat → Value, (cond s308
 (R (.returned (.tuple #[(.slice none 0 0), (.bool false)])) w309)
 ((Eng.Loop (σ := (Option Addr × Nat × Nat) × Int) (fun X329 s330 w331 =>
 ∀ j332 : Nat → Value, ∃ (x333 : Option Addr) (l334 c335 : Nat), w331.cell? ⟨b0, 5, none⟩ = some (.slice x333 l334 c335) ∧
 (cond (decide (s330.2 < ((l334 : Nat) : Int)))
 ((Drew w331 fun w336 =>
 ∃ (x337 : Option Addr) (l338 c339 : Nat), w336.cell? ⟨b0, 5, none⟩ = some (.slice x337 l338 c339) ∧
 (withSome x337 fun (a340 : Addr) =>
 (0 ≤ s330.2 ∧ s330.2 < ((l338 : Nat) : Int)) ∧
 ∃ x341 : Int, w336.cell? (a340.add ((s330.2).toNat * 6)) = some (.int .i64 x341) ∧
 ∃ x342 : Int, w336.cell? ((a340.add ((s330.2).toNat * 6)).add 1) = some (.int .i64 x342) ∧
 ∃ x343 : ByteArray, w336.cell? ((a340.add ((s330.2).toNat * 6)).add 2) = some (.string x343) ∧
 ∃ (x344 : Option Addr) (l345 c346 : Nat), w336.cell? ((a340.add ((s330.2).toNat * 6)).add 3) = some (.slice x344 l345 c346) ∧
 ∃ (x347 : Option Addr) (l348 c349 : Nat), w336.cell? ((a340.add ((s330.2).toNat * 6)).add 4) = some (.slice x347 l348 c349) ∧
 ∃ (x350 : Option Addr) (l351 c352 : Nat), w336.cell? ((a340.add ((s330.2).toNat * 6)).add 5) = some (.slice x350 l351 c352) ∧
 (CallR pg f_aqueductref5_digits [(.int .i64 s330.2)] w336 (fun ch w => R (.panicked ch) w) fun v353 w354 =>
 ∃ y355 : ByteArray, v353 = (.string y355) ∧
 (w354.cell? (a340.add ((s330.2).toNat * 6)) = some (.int .i64 x341) ∧ w354.cell? ((a340.add ((s330.2).toNat * 6)).add 1) = some (.int .i64 x342) ∧ w354.cell? ((a340.add ((s330.2).toNat * 6)).add 2) = some (.string x343) ∧ w354.cell? ((a340.add ((s330.2).toNat * 6)).add 3) = some (.slice x344 l345 c346) ∧ w354.cell? ((a340.add ((s330.2).toNat * 6)).add 4) = some (.slice x347 l348 c349) ∧ w354.cell? ((a340.add ((s330.2).toNat * 6)).add 5) = some (.slice x350 l351 c352)) ∧ (w354.cell? ⟨b0, 5, none⟩ = some (.slice x337 l338 c339)) ∧ (New w354 (.cells #[(.string y355), (.int .i64 x341), (.int .i64 x342), (.string x343), (.slice x344 l345 c346), (.slice x347 l348 c349), (.slice x350 l351 c352)] t_api_Field (0, 0)) fun b356 w357 =>
 (Prim pg (Builtin.append_ #[t_Sapi_Field, t_Sapi_Field] t_Sapi_Field #[(.slice s330.1.1 s330.1.2.1 s330.1.2.2), (.slice (some (⟨b356, 0, none⟩ : Addr)) 1 1)]) w357 fun v358 w359 =>
 ∃ (y360 : Option Addr) (l361 c362 : Nat), v358 = (.slice y360 l361 c362) ∧
 X329 ((y360, l361, c362), (IntKind.i64.wrap (s330.2 + (1 : Int)))) w359))))))
 ((CallR pg f_aqueductref5_fields [(.slice s330.1.1 s330.1.2.1 s330.1.2.2), (.int .i64 depth_1)] w331 (fun ch w => R (.panicked ch) w) fun v363 w364 =>
 ∃ (y365 : Option Addr) (l366 c367 : Nat), ∃ y368 : Bool, v363 = (.tuple #[(.slice y365 l366 c367), (.bool y368)]) ∧
 R (.returned (.tuple #[(.slice y365 l366 c367), (.bool y368)])) w364)))) ((none, 0, 0), (0 : Int)) w309))))))
 (R (.returned (.tuple #[(.slice none 0 0), (.bool false)])) w52)))))))))))))))))))))))
theorem e_aqueductref5_own (v_0x0 : Int) (v_0x1 : Int) (v_0x2 : ByteArray) (v_0x3 : Option Addr) (v_0x3l v_0x3c : Nat) (v_0x4 : Option Addr) (v_0x4l v_0x4c : Nat) (v_0x5 : Option Addr) (v_0x5l v_0x5c : Nat) (depth_1 : Int) (w : World) (R : Ending → World → Prop) : funcX pg T bl Try.f65 [(.agg #[(.int .i64 v_0x0), (.int .i64 v_0x1), (.string v_0x2), (.slice v_0x3 v_0x3l v_0x3c), (.slice v_0x4 v_0x4l v_0x4c), (.slice v_0x5 v_0x5l v_0x5c)]), (.int .i64 depth_1)] w R = c_aqueductref5_own v_0x0  v_0x1  v_0x2  v_0x3 v_0x3l v_0x3c  v_0x4 v_0x4l v_0x4c  v_0x5 v_0x5l v_0x5c  depth_1  w R := by kernel_rfl
theorem of_aqueductref5_own (v_0x0 : Int) (v_0x1 : Int) (v_0x2 : ByteArray) (v_0x3 : Option Addr) (v_0x3l v_0x3c : Nat) (v_0x4 : Option Addr) (v_0x4l v_0x4c : Nat) (v_0x5 : Option Addr) (v_0x5l v_0x5c : Nat) (depth_1 : Int) {w : World} {R : Ending → World → Prop} (h : c_aqueductref5_own v_0x0  v_0x1  v_0x2  v_0x3 v_0x3l v_0x3c  v_0x4 v_0x4l v_0x4c  v_0x5 v_0x5l v_0x5c  depth_1  w R) : Calls pg f_aqueductref5_own #[(.agg #[(.int .i64 v_0x0), (.int .i64 v_0x1), (.string v_0x2), (.slice v_0x3 v_0x3l v_0x3c), (.slice v_0x4 v_0x4l v_0x4c), (.slice v_0x5 v_0x5l v_0x5c)]), (.int .i64 depth_1)] w R :=
  funcX_of mixed tok blok Try.func65 (args := [(.agg #[(.int .i64 v_0x0), (.int .i64 v_0x1), (.string v_0x2), (.slice v_0x3 v_0x3l v_0x3c), (.slice v_0x4 v_0x4l v_0x4c), (.slice v_0x5 v_0x5l v_0x5c)]), (.int .i64 depth_1)]) (e_aqueductref5_own v_0x0  v_0x1  v_0x2  v_0x3 v_0x3l v_0x3c  v_0x4 v_0x4l v_0x4c  v_0x5 v_0x5l v_0x5c  depth_1  w R) h
/-- aqueduct/aqueductref5.bare -/
def c_aqueductref5_bare (v_0x0 : Int) (v_0x1 : Int) (v_0x2 : ByteArray) (v_0x3 : Option Addr) (v_0x3l v_0x3c : Nat) (v_0x4 : Option Addr) (v_0x4l v_0x4c : Nat) (v_0x5 : Option Addr) (v_0x5l v_0x5c : Nat) (n_1 : Bool) (s_2 : Bool) (b_3 : Bool) (f_4 : Bool) (l_5 : Bool) (w : World) (R : Ending → World → Prop) : Prop :=
 (New w (.cells #[(.int .i64 v_0x0), (.int .i64 v_0x1), (.string v_0x2), (.slice v_0x3 v_0x3l v_0x3c), (.slice v_0x4 v_0x4l v_0x4c), (.slice v_0x5 v_0x5l v_0x5c)] t_api_Value (0, 0)) fun b0 w1 =>
 (Meet (σ := Bool) (fun J2 =>
 (cond n_1
 ((cond s_2
 ((cond b_3
 ((cond f_4
 ((cond l_5
 (J2 true w1)
 (∃ (x5 : Option Addr) (l6 c7 : Nat), w1.cell? ⟨b0, 5, none⟩ = some (.slice x5 l6 c7) ∧
 J2 (((l6 : Nat) : Int) == (0 : Int)) w1)))
 (∃ (x8 : Option Addr) (l9 c10 : Nat), w1.cell? ⟨b0, 4, none⟩ = some (.slice x8 l9 c10) ∧
 (cond (((l9 : Nat) : Int) == (0 : Int))
 ((cond l_5
 (J2 true w1)
 (∃ (x11 : Option Addr) (l12 c13 : Nat), w1.cell? ⟨b0, 5, none⟩ = some (.slice x11 l12 c13) ∧
 J2 (((l12 : Nat) : Int) == (0 : Int)) w1)))
 (J2 false w1)))))
 (∃ (x14 : Option Addr) (l15 c16 : Nat), w1.cell? ⟨b0, 3, none⟩ = some (.slice x14 l15 c16) ∧
 (cond (((l15 : Nat) : Int) == (0 : Int))
 ((cond f_4
 ((cond l_5
 (J2 true w1)
 (∃ (x17 : Option Addr) (l18 c19 : Nat), w1.cell? ⟨b0, 5, none⟩ = some (.slice x17 l18 c19) ∧
 J2 (((l18 : Nat) : Int) == (0 : Int)) w1)))
 (∃ (x20 : Option Addr) (l21 c22 : Nat), w1.cell? ⟨b0, 4, none⟩ = some (.slice x20 l21 c22) ∧
 (cond (((l21 : Nat) : Int) == (0 : Int))
 ((cond l_5
 (J2 true w1)
 (∃ (x23 : Option Addr) (l24 c25 : Nat), w1.cell? ⟨b0, 5, none⟩ = some (.slice x23 l24 c25) ∧
 J2 (((l24 : Nat) : Int) == (0 : Int)) w1)))
 (J2 false w1)))))
 (J2 false w1)))))
 (∃ x26 : ByteArray, w1.cell? ⟨b0, 2, none⟩ = some (.string x26) ∧
 (cond (x26.toList == (⟨#[]⟩ : ByteArray).toList)
 ((cond b_3
 ((cond f_4
 ((cond l_5
 (J2 true w1)
 (∃ (x27 : Option Addr) (l28 c29 : Nat), w1.cell? ⟨b0, 5, none⟩ = some (.slice x27 l28 c29) ∧
 J2 (((l28 : Nat) : Int) == (0 : Int)) w1)))
 (∃ (x30 : Option Addr) (l31 c32 : Nat), w1.cell? ⟨b0, 4, none⟩ = some (.slice x30 l31 c32) ∧
 (cond (((l31 : Nat) : Int) == (0 : Int))
 ((cond l_5
 (J2 true w1)
 (∃ (x33 : Option Addr) (l34 c35 : Nat), w1.cell? ⟨b0, 5, none⟩ = some (.slice x33 l34 c35) ∧
 J2 (((l34 : Nat) : Int) == (0 : Int)) w1)))
 (J2 false w1)))))
 (∃ (x36 : Option Addr) (l37 c38 : Nat), w1.cell? ⟨b0, 3, none⟩ = some (.slice x36 l37 c38) ∧
 (cond (((l37 : Nat) : Int) == (0 : Int))
 ((cond f_4
 ((cond l_5
 (J2 true w1)
 (∃ (x39 : Option Addr) (l40 c41 : Nat), w1.cell? ⟨b0, 5, none⟩ = some (.slice x39 l40 c41) ∧
 J2 (((l40 : Nat) : Int) == (0 : Int)) w1)))
 (∃ (x42 : Option Addr) (l43 c44 : Nat), w1.cell? ⟨b0, 4, none⟩ = some (.slice x42 l43 c44) ∧
 (cond (((l43 : Nat) : Int) == (0 : Int))
 ((cond l_5
 (J2 true w1)
 (∃ (x45 : Option Addr) (l46 c47 : Nat), w1.cell? ⟨b0, 5, none⟩ = some (.slice x45 l46 c47) ∧
 J2 (((l46 : Nat) : Int) == (0 : Int)) w1)))
 (J2 false w1)))))
 (J2 false w1)))))
 (J2 false w1)))))
 (∃ x48 : Int, w1.cell? ⟨b0, 1, none⟩ = some (.int .i64 x48) ∧
 (cond (x48 == (0 : Int))
 ((cond s_2
 ((cond b_3
 ((cond f_4
 ((cond l_5
 (J2 true w1)
 (∃ (x49 : Option Addr) (l50 c51 : Nat), w1.cell? ⟨b0, 5, none⟩ = some (.slice x49 l50 c51) ∧
 J2 (((l50 : Nat) : Int) == (0 : Int)) w1)))
 (∃ (x52 : Option Addr) (l53 c54 : Nat), w1.cell? ⟨b0, 4, none⟩ = some (.slice x52 l53 c54) ∧
 (cond (((l53 : Nat) : Int) == (0 : Int))
 ((cond l_5
 (J2 true w1)
 (∃ (x55 : Option Addr) (l56 c57 : Nat), w1.cell? ⟨b0, 5, none⟩ = some (.slice x55 l56 c57) ∧
 J2 (((l56 : Nat) : Int) == (0 : Int)) w1)))
 (J2 false w1)))))
 (∃ (x58 : Option Addr) (l59 c60 : Nat), w1.cell? ⟨b0, 3, none⟩ = some (.slice x58 l59 c60) ∧
 (cond (((l59 : Nat) : Int) == (0 : Int))
 ((cond f_4
 ((cond l_5
 (J2 true w1)
 (∃ (x61 : Option Addr) (l62 c63 : Nat), w1.cell? ⟨b0, 5, none⟩ = some (.slice x61 l62 c63) ∧
 J2 (((l62 : Nat) : Int) == (0 : Int)) w1)))
 (∃ (x64 : Option Addr) (l65 c66 : Nat), w1.cell? ⟨b0, 4, none⟩ = some (.slice x64 l65 c66) ∧
 (cond (((l65 : Nat) : Int) == (0 : Int))
 ((cond l_5
 (J2 true w1)
 (∃ (x67 : Option Addr) (l68 c69 : Nat), w1.cell? ⟨b0, 5, none⟩ = some (.slice x67 l68 c69) ∧
 J2 (((l68 : Nat) : Int) == (0 : Int)) w1)))
 (J2 false w1)))))
 (J2 false w1)))))
 (∃ x70 : ByteArray, w1.cell? ⟨b0, 2, none⟩ = some (.string x70) ∧
 (cond (x70.toList == (⟨#[]⟩ : ByteArray).toList)
 ((cond b_3
 ((cond f_4
 ((cond l_5
 (J2 true w1)
 (∃ (x71 : Option Addr) (l72 c73 : Nat), w1.cell? ⟨b0, 5, none⟩ = some (.slice x71 l72 c73) ∧
 J2 (((l72 : Nat) : Int) == (0 : Int)) w1)))
 (∃ (x74 : Option Addr) (l75 c76 : Nat), w1.cell? ⟨b0, 4, none⟩ = some (.slice x74 l75 c76) ∧
 (cond (((l75 : Nat) : Int) == (0 : Int))
 ((cond l_5
 (J2 true w1)
 (∃ (x77 : Option Addr) (l78 c79 : Nat), w1.cell? ⟨b0, 5, none⟩ = some (.slice x77 l78 c79) ∧
 J2 (((l78 : Nat) : Int) == (0 : Int)) w1)))
 (J2 false w1)))))
 (∃ (x80 : Option Addr) (l81 c82 : Nat), w1.cell? ⟨b0, 3, none⟩ = some (.slice x80 l81 c82) ∧
 (cond (((l81 : Nat) : Int) == (0 : Int))
 ((cond f_4
 ((cond l_5
 (J2 true w1)
 (∃ (x83 : Option Addr) (l84 c85 : Nat), w1.cell? ⟨b0, 5, none⟩ = some (.slice x83 l84 c85) ∧
 J2 (((l84 : Nat) : Int) == (0 : Int)) w1)))
 (∃ (x86 : Option Addr) (l87 c88 : Nat), w1.cell? ⟨b0, 4, none⟩ = some (.slice x86 l87 c88) ∧
 (cond (((l87 : Nat) : Int) == (0 : Int))
 ((cond l_5
 (J2 true w1)
 (∃ (x89 : Option Addr) (l90 c91 : Nat), w1.cell? ⟨b0, 5, none⟩ = some (.slice x89 l90 c91) ∧
 J2 (((l90 : Nat) : Int) == (0 : Int)) w1)))
 (J2 false w1)))))
 (J2 false w1)))))
 (J2 false w1)))))
 (J2 false w1)))))
 (fun s3 w4 =>
 ∀ j92 : Nat → Value, R (.returned (.bool s3)) w4)))
theorem e_aqueductref5_bare (v_0x0 : Int) (v_0x1 : Int) (v_0x2 : ByteArray) (v_0x3 : Option Addr) (v_0x3l v_0x3c : Nat) (v_0x4 : Option Addr) (v_0x4l v_0x4c : Nat) (v_0x5 : Option Addr) (v_0x5l v_0x5c : Nat) (n_1 : Bool) (s_2 : Bool) (b_3 : Bool) (f_4 : Bool) (l_5 : Bool) (w : World) (R : Ending → World → Prop) : funcX pg T bl Try.f85 [(.agg #[(.int .i64 v_0x0), (.int .i64 v_0x1), (.string v_0x2), (.slice v_0x3 v_0x3l v_0x3c), (.slice v_0x4 v_0x4l v_0x4c), (.slice v_0x5 v_0x5l v_0x5c)]), (.bool n_1), (.bool s_2), (.bool b_3), (.bool f_4), (.bool l_5)] w R = c_aqueductref5_bare v_0x0  v_0x1  v_0x2  v_0x3 v_0x3l v_0x3c  v_0x4 v_0x4l v_0x4c  v_0x5 v_0x5l v_0x5c  n_1  s_2  b_3  f_4  l_5  w R := by kernel_rfl
theorem of_aqueductref5_bare (v_0x0 : Int) (v_0x1 : Int) (v_0x2 : ByteArray) (v_0x3 : Option Addr) (v_0x3l v_0x3c : Nat) (v_0x4 : Option Addr) (v_0x4l v_0x4c : Nat) (v_0x5 : Option Addr) (v_0x5l v_0x5c : Nat) (n_1 : Bool) (s_2 : Bool) (b_3 : Bool) (f_4 : Bool) (l_5 : Bool) {w : World} {R : Ending → World → Prop} (h : c_aqueductref5_bare v_0x0  v_0x1  v_0x2  v_0x3 v_0x3l v_0x3c  v_0x4 v_0x4l v_0x4c  v_0x5 v_0x5l v_0x5c  n_1  s_2  b_3  f_4  l_5  w R) : Calls pg f_aqueductref5_bare #[(.agg #[(.int .i64 v_0x0), (.int .i64 v_0x1), (.string v_0x2), (.slice v_0x3 v_0x3l v_0x3c), (.slice v_0x4 v_0x4l v_0x4c), (.slice v_0x5 v_0x5l v_0x5c)]), (.bool n_1), (.bool s_2), (.bool b_3), (.bool f_4), (.bool l_5)] w R :=
  funcX_of mixed tok blok Try.func85 (args := [(.agg #[(.int .i64 v_0x0), (.int .i64 v_0x1), (.string v_0x2), (.slice v_0x3 v_0x3l v_0x3c), (.slice v_0x4 v_0x4l v_0x4c), (.slice v_0x5 v_0x5l v_0x5c)]), (.bool n_1), (.bool s_2), (.bool b_3), (.bool f_4), (.bool l_5)]) (e_aqueductref5_bare v_0x0  v_0x1  v_0x2  v_0x3 v_0x3l v_0x3c  v_0x4 v_0x4l v_0x4c  v_0x5 v_0x5l v_0x5c  n_1  s_2  b_3  f_4  l_5  w R) h
/-- aqueduct/aqueductref5.num -/
def c_aqueductref5_num (n_0 : Int) (width_1 : Int) (w : World) (R : Ending → World → Prop) : Prop :=
 (Eng.Loop (σ := (Option Addr × Nat × Nat) × Int) (fun X0 s1 w2 =>
 ∀ j3 : Nat → Value, (cond (decide (s1.2 < width_1))
 ((cond (decide ((IntKind.u64.wrap (IntKind.i64.wrap ((8 : Int) * s1.2))) < 0))
 (False)
 ((New w2 (.cells #[(.int .u8 (IntKind.u8.wrap ((IntKind.u64.wrap n_0).fdiv (2 ^ (min ((IntKind.u64.wrap (IntKind.i64.wrap ((8 : Int) * s1.2)))).toNat IntKind.u64.bits)))))] t_uint8 (0, 0)) fun b4 w5 =>
 (Prim pg (Builtin.append_ #[t_Suint8, t_Suint8] t_Suint8 #[(.slice s1.1.1 s1.1.2.1 s1.1.2.2), (.slice (some (⟨b4, 0, none⟩ : Addr)) 1 1)]) w5 fun v6 w7 =>
 ∃ (y8 : Option Addr) (l9 c10 : Nat), v6 = (.slice y8 l9 c10) ∧
 X0 ((y8, l9, c10), (IntKind.i64.wrap (s1.2 + (1 : Int)))) w7)))))
 (R (.returned (.slice s1.1.1 s1.1.2.1 s1.1.2.2)) w2))) ((none, 0, 0), (0 : Int)) w)
theorem e_aqueductref5_num (n_0 : Int) (width_1 : Int) (w : World) (R : Ending → World → Prop) : funcX pg T bl Try.f86 [(.int .i64 n_0), (.int .i64 width_1)] w R = c_aqueductref5_num n_0  width_1  w R := by kernel_rfl
theorem of_aqueductref5_num (n_0 : Int) (width_1 : Int) {w : World} {R : Ending → World → Prop} (h : c_aqueductref5_num n_0  width_1  w R) : Calls pg f_aqueductref5_num #[(.int .i64 n_0), (.int .i64 width_1)] w R :=
  funcX_of mixed tok blok Try.func86 (args := [(.int .i64 n_0), (.int .i64 width_1)]) (e_aqueductref5_num n_0  width_1  w R) h
/-- aqueduct/aqueductref5.digits -/
def c_aqueductref5_digits (n_0 : Int) (w : World) (R : Ending → World → Prop) : Prop :=
 (Eng.Loop (σ := ByteArray × Int) (fun X0 s1 w2 =>
 ∀ j3 : Nat → Value, (cond ((10 : Int) == 0)
 (False)
 ((New w2 (.cells #[(.int .u8 (IntKind.u8.wrap ((48 : Int) + (IntKind.u8.wrap (s1.2.tmod (10 : Int))))))] t_uint8 (0, 0)) fun b4 w5 =>
 (Prim pg (Go.convert t_Suint8 t_string (.slice (some (⟨b4, 0, none⟩ : Addr)) 1 1)) w5 fun v6 w7 =>
 ∃ y8 : ByteArray, v6 = (.string y8) ∧
 (y8.size + s1.1.size ≤ 9223372036854775807) ∧
 (cond ((10 : Int) == 0)
 (False)
 ((cond ((IntKind.i64.wrap (s1.2.tdiv (10 : Int))) == (0 : Int))
 (R (.returned (.string (y8 ++ s1.1))) w7)
 (X0 ((y8 ++ s1.1), (IntKind.i64.wrap (s1.2.tdiv (10 : Int)))) w7))))))))) ((⟨#[]⟩ : ByteArray), n_0) w)
theorem e_aqueductref5_digits (n_0 : Int) (w : World) (R : Ending → World → Prop) : funcX pg T bl Try.f88 [(.int .i64 n_0)] w R = c_aqueductref5_digits n_0  w R := by kernel_rfl
theorem of_aqueductref5_digits (n_0 : Int) {w : World} {R : Ending → World → Prop} (h : c_aqueductref5_digits n_0  w R) : Calls pg f_aqueductref5_digits #[(.int .i64 n_0)] w R :=
  funcX_of mixed tok blok Try.func88 (args := [(.int .i64 n_0)]) (e_aqueductref5_digits n_0  w R) h
/-- (*aqueduct/source.row).Next -/
def c_Psource_row_Next (r_0 : Option Addr) (w : World) (R : Ending → World → Prop) : Prop :=
 (New w (.cells #[(.int .i64 (0 : Int)), (.int .i64 (0 : Int)), (.string (⟨#[]⟩ : ByteArray)), (.slice none 0 0), (.slice none 0 0), (.slice none 0 0)] t_api_Value (0, 0)) fun b0 w1 =>
 (withSome r_0 fun (a2 : Addr) =>
 ∃ (x3 : Option Addr) (l4 c5 : Nat), w1.cell? a2 = some (.slice x3 l4 c5) ∧
 (cond (((l4 : Nat) : Int) == (0 : Int))
 ((withSome r_0 fun (a6 : Addr) =>
 ∃ x7 : Int, w1.cell? (a6.add 1) = some (.int .i64 x7) ∧
 (CallR pg f_Psource_row_Close [(.pointer r_0)] w1 (fun ch w => R (.panicked ch) w) fun v8 w9 =>
 v8 = (.tuple #[]) ∧
 (St w9 ⟨b0, 0, none⟩ (.int .i64 (0 : Int)) fun w10 =>
 (St w10 ⟨b0, 1, none⟩ (.int .i64 (0 : Int)) fun w11 =>
 (St w11 ⟨b0, 2, none⟩ (.string (⟨#[]⟩ : ByteArray)) fun w12 =>
 (St w12 ⟨b0, 3, none⟩ (.slice none 0 0) fun w13 =>
 (St w13 ⟨b0, 4, none⟩ (.slice none 0 0) fun w14 =>
 (St w14 ⟨b0, 5, none⟩ (.slice none 0 0) fun w15 =>
 ∃ x16 : Int, w15.cell? ⟨b0, 0, none⟩ = some (.int .i64 x16) ∧
 ∃ x17 : Int, w15.cell? ⟨b0, 1, none⟩ = some (.int .i64 x17) ∧
 ∃ x18 : ByteArray, w15.cell? ⟨b0, 2, none⟩ = some (.string x18) ∧
 ∃ (x19 : Option Addr) (l20 c21 : Nat), w15.cell? ⟨b0, 3, none⟩ = some (.slice x19 l20 c21) ∧
 ∃ (x22 : Option Addr) (l23 c24 : Nat), w15.cell? ⟨b0, 4, none⟩ = some (.slice x22 l23 c24) ∧
 ∃ (x25 : Option Addr) (l26 c27 : Nat), w15.cell? ⟨b0, 5, none⟩ = some (.slice x25 l26 c27) ∧
 R (.returned (.tuple #[(.agg #[(.int .i64 x16), (.int .i64 x17), (.string x18), (.slice x19 l20 c21), (.slice x22 l23 c24), (.slice x25 l26 c27)]), (.bool false), (.int .i64 x7)])) w15)))))))))
 ((withSome r_0 fun (a28 : Addr) =>
 ∃ (x29 : Option Addr) (l30 c31 : Nat), w1.cell? a28 = some (.slice x29 l30 c31) ∧
 (withSome x29 fun (a32 : Addr) =>
 (0 ≤ (0 : Int) ∧ (0 : Int) < ((l30 : Nat) : Int)) ∧
 ∃ x33 : Int, w1.cell? (a32.add (((0 : Int)).toNat * 6)) = some (.int .i64 x33) ∧
 ∃ x34 : Int, w1.cell? ((a32.add (((0 : Int)).toNat * 6)).add 1) = some (.int .i64 x34) ∧
 ∃ x35 : ByteArray, w1.cell? ((a32.add (((0 : Int)).toNat * 6)).add 2) = some (.string x35) ∧
 ∃ (x36 : Option Addr) (l37 c38 : Nat), w1.cell? ((a32.add (((0 : Int)).toNat * 6)).add 3) = some (.slice x36 l37 c38) ∧
 ∃ (x39 : Option Addr) (l40 c41 : Nat), w1.cell? ((a32.add (((0 : Int)).toNat * 6)).add 4) = some (.slice x39 l40 c41) ∧
 ∃ (x42 : Option Addr) (l43 c44 : Nat), w1.cell? ((a32.add (((0 : Int)).toNat * 6)).add 5) = some (.slice x42 l43 c44) ∧
 (New w1 (.cells #[(.int .i64 (0 : Int)), (.int .i64 (0 : Int)), (.string (⟨#[]⟩ : ByteArray)), (.slice none 0 0), (.slice none 0 0), (.slice none 0 0)] t_api_Value (0, 0)) fun b45 w46 =>
 (St w46 ⟨b45, 0, none⟩ (.int .i64 x33) fun w47 =>
 (St w47 ⟨b45, 1, none⟩ (.int .i64 x34) fun w48 =>
 (St w48 ⟨b45, 2, none⟩ (.string x35) fun w49 =>
 (St w49 ⟨b45, 3, none⟩ (.slice x36 l37 c38) fun w50 =>
 (St w50 ⟨b45, 4, none⟩ (.slice x39 l40 c41) fun w51 =>
 (St w51 ⟨b45, 5, none⟩ (.slice x42 l43 c44) fun w52 =>
 (withSome r_0 fun (a53 : Addr) =>
 ∃ (x54 : Option Addr) (l55 c56 : Nat), w52.cell? a53 = some (.slice x54 l55 c56) ∧
 (0 ≤ (1 : Int) ∧ (1 : Int) ≤ ((l55 : Nat) : Int)) ∧
 (withSome r_0 fun (a57 : Addr) =>
 (St w52 a57 (.slice (if c56 = ((1 : Int)).toNat then x54 else x54.map (·.add (((1 : Int)).toNat * 6))) (l55 - ((1 : Int)).toNat) (c56 - ((1 : Int)).toNat)) fun w58 =>
 ∃ x59 : Int, w58.cell? ⟨b45, 0, none⟩ = some (.int .i64 x59) ∧
 ∃ x60 : Int, w58.cell? ⟨b45, 1, none⟩ = some (.int .i64 x60) ∧
 ∃ x61 : ByteArray, w58.cell? ⟨b45, 2, none⟩ = some (.string x61) ∧
 ∃ (x62 : Option Addr) (l63 c64 : Nat), w58.cell? ⟨b45, 3, none⟩ = some (.slice x62 l63 c64) ∧
 ∃ (x65 : Option Addr) (l66 c67 : Nat), w58.cell? ⟨b45, 4, none⟩ = some (.slice x65 l66 c67) ∧
 ∃ (x68 : Option Addr) (l69 c70 : Nat), w58.cell? ⟨b45, 5, none⟩ = some (.slice x68 l69 c70) ∧
 (St w58 ⟨b0, 0, none⟩ (.int .i64 x59) fun w71 =>
 (St w71 ⟨b0, 1, none⟩ (.int .i64 x60) fun w72 =>
 (St w72 ⟨b0, 2, none⟩ (.string x61) fun w73 =>
 (St w73 ⟨b0, 3, none⟩ (.slice x62 l63 c64) fun w74 =>
 (St w74 ⟨b0, 4, none⟩ (.slice x65 l66 c67) fun w75 =>
 (St w75 ⟨b0, 5, none⟩ (.slice x68 l69 c70) fun w76 =>
 ∃ x77 : Int, w76.cell? ⟨b0, 0, none⟩ = some (.int .i64 x77) ∧
 ∃ x78 : Int, w76.cell? ⟨b0, 1, none⟩ = some (.int .i64 x78) ∧
 ∃ x79 : ByteArray, w76.cell? ⟨b0, 2, none⟩ = some (.string x79) ∧
 ∃ (x80 : Option Addr) (l81 c82 : Nat), w76.cell? ⟨b0, 3, none⟩ = some (.slice x80 l81 c82) ∧
 ∃ (x83 : Option Addr) (l84 c85 : Nat), w76.cell? ⟨b0, 4, none⟩ = some (.slice x83 l84 c85) ∧
 ∃ (x86 : Option Addr) (l87 c88 : Nat), w76.cell? ⟨b0, 5, none⟩ = some (.slice x86 l87 c88) ∧
 R (.returned (.tuple #[(.agg #[(.int .i64 x77), (.int .i64 x78), (.string x79), (.slice x80 l81 c82), (.slice x83 l84 c85), (.slice x86 l87 c88)]), (.bool true), (.int .i64 (0 : Int))])) w76))))))))))))))))))))))
theorem e_Psource_row_Next (r_0 : Option Addr) (w : World) (R : Ending → World → Prop) : funcX pg T bl Try.f120 [(.pointer r_0)] w R = c_Psource_row_Next r_0  w R := by kernel_rfl
theorem of_Psource_row_Next (r_0 : Option Addr) {w : World} {R : Ending → World → Prop} (h : c_Psource_row_Next r_0  w R) : Calls pg f_Psource_row_Next #[(.pointer r_0)] w R :=
  funcX_of mixed tok blok Try.func120 (args := [(.pointer r_0)]) (e_Psource_row_Next r_0  w R) h
end Go.Proofs.Sw
