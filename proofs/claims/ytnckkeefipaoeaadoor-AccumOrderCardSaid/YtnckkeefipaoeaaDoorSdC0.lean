/- By a program of mine (Gen): the conditions of the functions, part 0. -/
import Derived.Test.YtnckkeefipaoeaaDoorSdTab
set_option linter.unusedVariables false
set_option maxRecDepth 100000
namespace Go.Proofs.Sd
open Go Go.Eng
open Go.Proofs
/-- aqueduct/accum.New -/
def c_accum_New (kind_0 : Int) (w : World) (R : Ending → World → Prop) : Prop :=
 (New w (.cells #[.nilFunc, (.int .i64 (0 : Int)), (.int .i64 (0 : Int)), (.int .i64 (0 : Int)), (.string (⟨#[]⟩ : ByteArray)), (.slice none 0 0), (.slice none 0 0), (.slice none 0 0), (.int .i64 (0 : Int)), (.bool false)] t_accum_State (0, 0)) fun b0 w1 =>
 (St w1 ⟨b0, 0, none⟩ (.func (.func f_Paccum_State_none) #[(.pointer (some (⟨b0, 0, none⟩ : Addr)))] #[]) fun w2 =>
 (Meet (σ := Unit) (fun J3 =>
 (cond (kind_0 == (1 : Int))
 ((CallR pg f_num_Of [(.int .i64 (0 : Int))] w2 (fun ch w => R (.panicked ch) w) fun v6 w7 =>
 ∃ y8 : Int, ∃ y9 : Int, ∃ y10 : ByteArray, ∃ (y11 : Option Addr) (l12 c13 : Nat), ∃ (y14 : Option Addr) (l15 c16 : Nat), ∃ (y17 : Option Addr) (l18 c19 : Nat), v6 = (.agg #[(.int .i64 y8), (.int .i64 y9), (.string y10), (.slice y11 l12 c13), (.slice y14 l15 c16), (.slice y17 l18 c19)]) ∧
 (St w7 ⟨b0, 0, none⟩ (.func (.func f_Paccum_State_sum) #[(.pointer (some (⟨b0, 0, none⟩ : Addr)))] #[]) fun w20 =>
 (St w20 ⟨b0, 2, none⟩ (.int .i64 y8) fun w21 =>
 (St w21 ⟨b0, 3, none⟩ (.int .i64 y9) fun w22 =>
 (St w22 ⟨b0, 4, none⟩ (.string y10) fun w23 =>
 (St w23 ⟨b0, 5, none⟩ (.slice y11 l12 c13) fun w24 =>
 (St w24 ⟨b0, 6, none⟩ (.slice y14 l15 c16) fun w25 =>
 (St w25 ⟨b0, 7, none⟩ (.slice y17 l18 c19) fun w26 =>
 J3 () w26)))))))))
 ((cond (kind_0 == (2 : Int))
 ((St w2 ⟨b0, 0, none⟩ (.func (.func f_Paccum_State_least) #[(.pointer (some (⟨b0, 0, none⟩ : Addr)))] #[]) fun w27 =>
 J3 () w27))
 ((cond (kind_0 == (3 : Int))
 ((St w2 ⟨b0, 0, none⟩ (.func (.func f_Paccum_State_greatest) #[(.pointer (some (⟨b0, 0, none⟩ : Addr)))] #[]) fun w28 =>
 J3 () w28))
 ((cond (kind_0 == (4 : Int))
 ((St w2 ⟨b0, 0, none⟩ (.func (.func f_Paccum_State_first) #[(.pointer (some (⟨b0, 0, none⟩ : Addr)))] #[]) fun w29 =>
 J3 () w29))
 ((cond (kind_0 == (5 : Int))
 ((St w2 ⟨b0, 0, none⟩ (.func (.func f_Paccum_State_last) #[(.pointer (some (⟨b0, 0, none⟩ : Addr)))] #[]) fun w30 =>
 J3 () w30))
 ((Meet (σ := Bool) (fun J31 =>
 (cond (kind_0 == (6 : Int))
 (J31 true w2)
 (J31 (kind_0 == (7 : Int)) w2)))
 (fun s32 w33 =>
 ∀ j34 : Nat → Value, (cond s32
 ((St w33 ⟨b0, 0, none⟩ (.func (.func f_Paccum_State_push) #[(.pointer (some (⟨b0, 0, none⟩ : Addr)))] #[]) fun w35 =>
 (St w35 ⟨b0, 2, none⟩ (.int .i64 (7 : Int)) fun w36 =>
 (St w36 ⟨b0, 3, none⟩ (.int .i64 (0 : Int)) fun w37 =>
 (St w37 ⟨b0, 4, none⟩ (.string (⟨#[]⟩ : ByteArray)) fun w38 =>
 (St w38 ⟨b0, 5, none⟩ (.slice none 0 0) fun w39 =>
 (St w39 ⟨b0, 6, none⟩ (.slice none 0 0) fun w40 =>
 (St w40 ⟨b0, 7, none⟩ (.slice none 0 0) fun w41 =>
 ∃ x42 : Int, w41.cell? ⟨b0, 2, none⟩ = some (.int .i64 x42) ∧
 ∃ x43 : Int, w41.cell? ⟨b0, 3, none⟩ = some (.int .i64 x43) ∧
 ∃ x44 : ByteArray, w41.cell? ⟨b0, 4, none⟩ = some (.string x44) ∧
 ∃ (x45 : Option Addr) (l46 c47 : Nat), w41.cell? ⟨b0, 5, none⟩ = some (.slice x45 l46 c47) ∧
 ∃ (x48 : Option Addr) (l49 c50 : Nat), w41.cell? ⟨b0, 6, none⟩ = some (.slice x48 l49 c50) ∧
 ∃ (x51 : Option Addr) (l52 c53 : Nat), w41.cell? ⟨b0, 7, none⟩ = some (.slice x51 l52 c53) ∧
 (CallR pg f_accum_own [(.agg #[(.int .i64 x42), (.int .i64 x43), (.string x44), (.slice x45 l46 c47), (.slice x48 l49 c50), (.slice x51 l52 c53)])] w41 (fun ch w => R (.panicked ch) w) fun v54 w55 =>
 ∃ y56 : Int, v54 = (.int .i64 y56) ∧
 (St w55 ⟨b0, 8, none⟩ (.int .i64 y56) fun w57 =>
 (cond (kind_0 == (7 : Int))
 ((St w57 ⟨b0, 0, none⟩ (.func (.func f_Paccum_State_set) #[(.pointer (some (⟨b0, 0, none⟩ : Addr)))] #[]) fun w58 =>
 J3 () w58))
 (J3 () w57))))))))))))
 ((cond (kind_0 == (8 : Int))
 ((St w33 ⟨b0, 9, none⟩ (.bool true) fun w59 =>
 J3 () w59))
 (J3 () w33)))))))))))))))))
 (fun s4 w5 =>
 ∀ j60 : Nat → Value, R (.returned (.pointer (some (⟨b0, 0, none⟩ : Addr)))) w5))))
theorem e_accum_New (kind_0 : Int) (w : World) (R : Ending → World → Prop) : funcX pg T bl Tryd.f8 [(.int .i64 kind_0)] w R = c_accum_New kind_0  w R := by kernel_rfl
theorem of_accum_New (kind_0 : Int) {w : World} {R : Ending → World → Prop} (h : c_accum_New kind_0  w R) : Calls pg f_accum_New #[(.int .i64 kind_0)] w R :=
  funcX_of mixed tok blok Tryd.func8 (args := [(.int .i64 kind_0)]) (e_accum_New kind_0  w R) h
/-- (*aqueduct/accum.State).Add -/
def c_Paccum_State_Add (s_0 : Option Addr) (v_1x0 : Int) (v_1x1 : Int) (v_1x2 : ByteArray) (v_1x3 : Option Addr) (v_1x3l v_1x3c : Nat) (v_1x4 : Option Addr) (v_1x4l v_1x4c : Nat) (v_1x5 : Option Addr) (v_1x5l v_1x5c : Nat) (w : World) (R : Ending → World → Prop) : Prop :=
 (New w (.cells #[(.int .i64 v_1x0), (.int .i64 v_1x1), (.string v_1x2), (.slice v_1x3 v_1x3l v_1x3c), (.slice v_1x4 v_1x4l v_1x4c), (.slice v_1x5 v_1x5l v_1x5c)] t_api_Value (0, 0)) fun b0 w1 =>
 (Meet (σ := Bool) (fun J2 =>
 (cond s_0.isNone
 (J2 true w1)
 ((withSome s_0 fun (a5 : Addr) =>
 ∃ x6 : Value, w1.cell? a5 = some x6 ∧
 (isNilFn x6 fun q7 =>
 J2 q7 w1)))))
 (fun s3 w4 =>
 ∀ j8 : Nat → Value, (cond s3
 (R (.returned (.int .i64 (1 : Int))) w4)
 ((Drew w4 fun w9 =>
 (withSome s_0 fun (a10 : Addr) =>
 ∃ x11 : Value, w9.cell? a10 = some x11 ∧
 ∃ x12 : Int, w9.cell? ⟨b0, 0, none⟩ = some (.int .i64 x12) ∧
 ∃ x13 : Int, w9.cell? ⟨b0, 1, none⟩ = some (.int .i64 x13) ∧
 ∃ x14 : ByteArray, w9.cell? ⟨b0, 2, none⟩ = some (.string x14) ∧
 ∃ (x15 : Option Addr) (l16 c17 : Nat), w9.cell? ⟨b0, 3, none⟩ = some (.slice x15 l16 c17) ∧
 ∃ (x18 : Option Addr) (l19 c20 : Nat), w9.cell? ⟨b0, 4, none⟩ = some (.slice x18 l19 c20) ∧
 ∃ (x21 : Option Addr) (l22 c23 : Nat), w9.cell? ⟨b0, 5, none⟩ = some (.slice x21 l22 c23) ∧
 (CallV pg bl x11 [(.agg #[(.int .i64 x12), (.int .i64 x13), (.string x14), (.slice x15 l16 c17), (.slice x18 l19 c20), (.slice x21 l22 c23)])] w9 (fun ch w => R (.panicked ch) w) fun v24 w25 =>
 ∃ y26 : Int, v24 = (.int .i64 y26) ∧
 (Meet (σ := Unit) (fun J27 =>
 (cond (y26 == (0 : Int))
 ((withSome s_0 fun (a30 : Addr) =>
 ∃ x31 : Int, w25.cell? (a30.add 1) = some (.int .i64 x31) ∧
 (withSome s_0 fun (a32 : Addr) =>
 (St w25 (a32.add 1) (.int .i64 (IntKind.i64.wrap (x31 + (1 : Int)))) fun w33 =>
 J27 () w33))))
 (J27 () w25)))
 (fun s28 w29 =>
 ∀ j34 : Nat → Value, R (.returned (.int .i64 y26)) w29))))))))))
theorem e_Paccum_State_Add (s_0 : Option Addr) (v_1x0 : Int) (v_1x1 : Int) (v_1x2 : ByteArray) (v_1x3 : Option Addr) (v_1x3l v_1x3c : Nat) (v_1x4 : Option Addr) (v_1x4l v_1x4c : Nat) (v_1x5 : Option Addr) (v_1x5l v_1x5c : Nat) (w : World) (R : Ending → World → Prop) : funcX pg T bl Tryd.f9 [(.pointer s_0), (.agg #[(.int .i64 v_1x0), (.int .i64 v_1x1), (.string v_1x2), (.slice v_1x3 v_1x3l v_1x3c), (.slice v_1x4 v_1x4l v_1x4c), (.slice v_1x5 v_1x5l v_1x5c)])] w R = c_Paccum_State_Add s_0  v_1x0  v_1x1  v_1x2  v_1x3 v_1x3l v_1x3c  v_1x4 v_1x4l v_1x4c  v_1x5 v_1x5l v_1x5c  w R := by kernel_rfl
theorem of_Paccum_State_Add (s_0 : Option Addr) (v_1x0 : Int) (v_1x1 : Int) (v_1x2 : ByteArray) (v_1x3 : Option Addr) (v_1x3l v_1x3c : Nat) (v_1x4 : Option Addr) (v_1x4l v_1x4c : Nat) (v_1x5 : Option Addr) (v_1x5l v_1x5c : Nat) {w : World} {R : Ending → World → Prop} (h : c_Paccum_State_Add s_0  v_1x0  v_1x1  v_1x2  v_1x3 v_1x3l v_1x3c  v_1x4 v_1x4l v_1x4c  v_1x5 v_1x5l v_1x5c  w R) : Calls pg f_Paccum_State_Add #[(.pointer s_0), (.agg #[(.int .i64 v_1x0), (.int .i64 v_1x1), (.string v_1x2), (.slice v_1x3 v_1x3l v_1x3c), (.slice v_1x4 v_1x4l v_1x4c), (.slice v_1x5 v_1x5l v_1x5c)])] w R :=
  funcX_of mixed tok blok Tryd.func9 (args := [(.pointer s_0), (.agg #[(.int .i64 v_1x0), (.int .i64 v_1x1), (.string v_1x2), (.slice v_1x3 v_1x3l v_1x3c), (.slice v_1x4 v_1x4l v_1x4c), (.slice v_1x5 v_1x5l v_1x5c)])]) (e_Paccum_State_Add s_0  v_1x0  v_1x1  v_1x2  v_1x3 v_1x3l v_1x3c  v_1x4 v_1x4l v_1x4c  v_1x5 v_1x5l v_1x5c  w R) h
/-- aqueduct/aqueductlaw12.AccumKnown$1 -/
def c_aqueductlaw12_AccumKnown_1 (v_0 : Int) (w : World) (R : Ending → World → Prop) : Prop :=
 (New w (.cells #[(.int .i64 (0 : Int)), (.int .i64 (0 : Int)), (.string (⟨#[]⟩ : ByteArray)), (.slice none 0 0), (.slice none 0 0), (.slice none 0 0)] t_api_Value (0, 0)) fun b0 w1 =>
 (St w1 ⟨b0, 0, none⟩ (.int .i64 (4 : Int)) fun w2 =>
 (St w2 ⟨b0, 1, none⟩ (.int .i64 v_0) fun w3 =>
 (St w3 ⟨b0, 2, none⟩ (.string (⟨#[]⟩ : ByteArray)) fun w4 =>
 (St w4 ⟨b0, 3, none⟩ (.slice none 0 0) fun w5 =>
 (St w5 ⟨b0, 4, none⟩ (.slice none 0 0) fun w6 =>
 (St w6 ⟨b0, 5, none⟩ (.slice none 0 0) fun w7 =>
 ∃ x8 : Int, w7.cell? ⟨b0, 0, none⟩ = some (.int .i64 x8) ∧
 ∃ x9 : Int, w7.cell? ⟨b0, 1, none⟩ = some (.int .i64 x9) ∧
 ∃ x10 : ByteArray, w7.cell? ⟨b0, 2, none⟩ = some (.string x10) ∧
 ∃ (x11 : Option Addr) (l12 c13 : Nat), w7.cell? ⟨b0, 3, none⟩ = some (.slice x11 l12 c13) ∧
 ∃ (x14 : Option Addr) (l15 c16 : Nat), w7.cell? ⟨b0, 4, none⟩ = some (.slice x14 l15 c16) ∧
 ∃ (x17 : Option Addr) (l18 c19 : Nat), w7.cell? ⟨b0, 5, none⟩ = some (.slice x17 l18 c19) ∧
 R (.returned (.agg #[(.int .i64 x8), (.int .i64 x9), (.string x10), (.slice x11 l12 c13), (.slice x14 l15 c16), (.slice x17 l18 c19)])) w7)))))))
theorem e_aqueductlaw12_AccumKnown_1 (v_0 : Int) (w : World) (R : Ending → World → Prop) : funcX pg T bl Tryd.f11 [(.int .i64 v_0)] w R = c_aqueductlaw12_AccumKnown_1 v_0  w R := by kernel_rfl
theorem of_aqueductlaw12_AccumKnown_1 (v_0 : Int) {w : World} {R : Ending → World → Prop} (h : c_aqueductlaw12_AccumKnown_1 v_0  w R) : Calls pg f_aqueductlaw12_AccumKnown_1 #[(.int .i64 v_0)] w R :=
  funcX_of mixed tok blok Tryd.func11 (args := [(.int .i64 v_0)]) (e_aqueductlaw12_AccumKnown_1 v_0  w R) h
/-- aqueduct/aqueductlaw5.Small -/
def c_aqueductlaw5_Small (v_0x0 : Int) (v_0x1 : Int) (v_0x2 : ByteArray) (v_0x3 : Option Addr) (v_0x3l v_0x3c : Nat) (v_0x4 : Option Addr) (v_0x4l v_0x4c : Nat) (v_0x5 : Option Addr) (v_0x5l v_0x5c : Nat) (w : World) (R : Ending → World → Prop) : Prop :=
 (New w (.cells #[(.int .i64 v_0x0), (.int .i64 v_0x1), (.string v_0x2), (.slice v_0x3 v_0x3l v_0x3c), (.slice v_0x4 v_0x4l v_0x4c), (.slice v_0x5 v_0x5l v_0x5c)] t_api_Value (0, 0)) fun b0 w1 =>
 (Meet (σ := Bool) (fun J2 =>
 ∃ x5 : Int, w1.cell? ⟨b0, 0, none⟩ = some (.int .i64 x5) ∧
 ∃ x6 : Int, w1.cell? ⟨b0, 1, none⟩ = some (.int .i64 x6) ∧
 ∃ x7 : ByteArray, w1.cell? ⟨b0, 2, none⟩ = some (.string x7) ∧
 ∃ (x8 : Option Addr) (l9 c10 : Nat), w1.cell? ⟨b0, 3, none⟩ = some (.slice x8 l9 c10) ∧
 ∃ (x11 : Option Addr) (l12 c13 : Nat), w1.cell? ⟨b0, 4, none⟩ = some (.slice x11 l12 c13) ∧
 ∃ (x14 : Option Addr) (l15 c16 : Nat), w1.cell? ⟨b0, 5, none⟩ = some (.slice x14 l15 c16) ∧
 (CallR pg f_aqueductlaw5_Weight [(.agg #[(.int .i64 x5), (.int .i64 x6), (.string x7), (.slice x8 l9 c10), (.slice x11 l12 c13), (.slice x14 l15 c16)]), (.int .i64 (3000 : Int))] w1 (fun ch w => R (.panicked ch) w) fun v17 w18 =>
 ∃ y19 : Int, v17 = (.int .i64 y19) ∧
 (cond (decide (y19 ≤ (3000 : Int)))
 (∃ x20 : Int, w18.cell? ⟨b0, 0, none⟩ = some (.int .i64 x20) ∧
 ∃ x21 : Int, w18.cell? ⟨b0, 1, none⟩ = some (.int .i64 x21) ∧
 ∃ x22 : ByteArray, w18.cell? ⟨b0, 2, none⟩ = some (.string x22) ∧
 ∃ (x23 : Option Addr) (l24 c25 : Nat), w18.cell? ⟨b0, 3, none⟩ = some (.slice x23 l24 c25) ∧
 ∃ (x26 : Option Addr) (l27 c28 : Nat), w18.cell? ⟨b0, 4, none⟩ = some (.slice x26 l27 c28) ∧
 ∃ (x29 : Option Addr) (l30 c31 : Nat), w18.cell? ⟨b0, 5, none⟩ = some (.slice x29 l30 c31) ∧
 (CallR pg f_aqueductlaw5_Shallow [(.agg #[(.int .i64 x20), (.int .i64 x21), (.string x22), (.slice x23 l24 c25), (.slice x26 l27 c28), (.slice x29 l30 c31)]), (.int .i64 (60 : Int))] w18 (fun ch w => R (.panicked ch) w) fun v32 w33 =>
 ∃ y34 : Bool, v32 = (.bool y34) ∧
 J2 y34 w33))
 (J2 false w18))))
 (fun s3 w4 =>
 ∀ j35 : Nat → Value, R (.returned (.bool s3)) w4)))
theorem e_aqueductlaw5_Small (v_0x0 : Int) (v_0x1 : Int) (v_0x2 : ByteArray) (v_0x3 : Option Addr) (v_0x3l v_0x3c : Nat) (v_0x4 : Option Addr) (v_0x4l v_0x4c : Nat) (v_0x5 : Option Addr) (v_0x5l v_0x5c : Nat) (w : World) (R : Ending → World → Prop) : funcX pg T bl Tryd.f14 [(.agg #[(.int .i64 v_0x0), (.int .i64 v_0x1), (.string v_0x2), (.slice v_0x3 v_0x3l v_0x3c), (.slice v_0x4 v_0x4l v_0x4c), (.slice v_0x5 v_0x5l v_0x5c)])] w R = c_aqueductlaw5_Small v_0x0  v_0x1  v_0x2  v_0x3 v_0x3l v_0x3c  v_0x4 v_0x4l v_0x4c  v_0x5 v_0x5l v_0x5c  w R := by kernel_rfl
theorem of_aqueductlaw5_Small (v_0x0 : Int) (v_0x1 : Int) (v_0x2 : ByteArray) (v_0x3 : Option Addr) (v_0x3l v_0x3c : Nat) (v_0x4 : Option Addr) (v_0x4l v_0x4c : Nat) (v_0x5 : Option Addr) (v_0x5l v_0x5c : Nat) {w : World} {R : Ending → World → Prop} (h : c_aqueductlaw5_Small v_0x0  v_0x1  v_0x2  v_0x3 v_0x3l v_0x3c  v_0x4 v_0x4l v_0x4c  v_0x5 v_0x5l v_0x5c  w R) : Calls pg f_aqueductlaw5_Small #[(.agg #[(.int .i64 v_0x0), (.int .i64 v_0x1), (.string v_0x2), (.slice v_0x3 v_0x3l v_0x3c), (.slice v_0x4 v_0x4l v_0x4c), (.slice v_0x5 v_0x5l v_0x5c)])] w R :=
  funcX_of mixed tok blok Tryd.func14 (args := [(.agg #[(.int .i64 v_0x0), (.int .i64 v_0x1), (.string v_0x2), (.slice v_0x3 v_0x3l v_0x3c), (.slice v_0x4 v_0x4l v_0x4c), (.slice v_0x5 v_0x5l v_0x5c)])]) (e_aqueductlaw5_Small v_0x0  v_0x1  v_0x2  v_0x3 v_0x3l v_0x3c  v_0x4 v_0x4l v_0x4c  v_0x5 v_0x5l v_0x5c  w R) h
/-- aqueduct/aqueductref5.Encode -/
def c_aqueductref5_Encode (v_0x0 : Int) (v_0x1 : Int) (v_0x2 : ByteArray) (v_0x3 : Option Addr) (v_0x3l v_0x3c : Nat) (v_0x4 : Option Addr) (v_0x4l v_0x4c : Nat) (v_0x5 : Option Addr) (v_0x5l v_0x5c : Nat) (w : World) (R : Ending → World → Prop) : Prop :=
 (New w (.cells #[(.int .i64 v_0x0), (.int .i64 v_0x1), (.string v_0x2), (.slice v_0x3 v_0x3l v_0x3c), (.slice v_0x4 v_0x4l v_0x4c), (.slice v_0x5 v_0x5l v_0x5c)] t_api_Value (0, 0)) fun b0 w1 =>
 ∃ x2 : Int, w1.cell? ⟨b0, 0, none⟩ = some (.int .i64 x2) ∧
 (cond (x2 != (6 : Int))
 (R (.returned (.tuple #[(.slice none 0 0), (.int .i64 (1 : Int))])) w1)
 (∃ x3 : Int, w1.cell? ⟨b0, 0, none⟩ = some (.int .i64 x3) ∧
 ∃ x4 : Int, w1.cell? ⟨b0, 1, none⟩ = some (.int .i64 x4) ∧
 ∃ x5 : ByteArray, w1.cell? ⟨b0, 2, none⟩ = some (.string x5) ∧
 ∃ (x6 : Option Addr) (l7 c8 : Nat), w1.cell? ⟨b0, 3, none⟩ = some (.slice x6 l7 c8) ∧
 ∃ (x9 : Option Addr) (l10 c11 : Nat), w1.cell? ⟨b0, 4, none⟩ = some (.slice x9 l10 c11) ∧
 ∃ (x12 : Option Addr) (l13 c14 : Nat), w1.cell? ⟨b0, 5, none⟩ = some (.slice x12 l13 c14) ∧
 (CallR pg f_aqueductref5_own [(.agg #[(.int .i64 x3), (.int .i64 x4), (.string x5), (.slice x6 l7 c8), (.slice x9 l10 c11), (.slice x12 l13 c14)]), (.int .i64 (1 : Int))] w1 (fun ch w => R (.panicked ch) w) fun v15 w16 =>
 ∃ (y17 : Option Addr) (l18 c19 : Nat), ∃ y20 : Bool, v15 = (.tuple #[(.slice y17 l18 c19), (.bool y20)]) ∧
 (cond (!y20)
 (R (.returned (.tuple #[(.slice none 0 0), (.int .i64 (1 : Int))])) w16)
 (R (.returned (.tuple #[(.slice y17 l18 c19), (.int .i64 (0 : Int))])) w16))))))
theorem e_aqueductref5_Encode (v_0x0 : Int) (v_0x1 : Int) (v_0x2 : ByteArray) (v_0x3 : Option Addr) (v_0x3l v_0x3c : Nat) (v_0x4 : Option Addr) (v_0x4l v_0x4c : Nat) (v_0x5 : Option Addr) (v_0x5l v_0x5c : Nat) (w : World) (R : Ending → World → Prop) : funcX pg T bl Tryd.f16 [(.agg #[(.int .i64 v_0x0), (.int .i64 v_0x1), (.string v_0x2), (.slice v_0x3 v_0x3l v_0x3c), (.slice v_0x4 v_0x4l v_0x4c), (.slice v_0x5 v_0x5l v_0x5c)])] w R = c_aqueductref5_Encode v_0x0  v_0x1  v_0x2  v_0x3 v_0x3l v_0x3c  v_0x4 v_0x4l v_0x4c  v_0x5 v_0x5l v_0x5c  w R := by kernel_rfl
theorem of_aqueductref5_Encode (v_0x0 : Int) (v_0x1 : Int) (v_0x2 : ByteArray) (v_0x3 : Option Addr) (v_0x3l v_0x3c : Nat) (v_0x4 : Option Addr) (v_0x4l v_0x4c : Nat) (v_0x5 : Option Addr) (v_0x5l v_0x5c : Nat) {w : World} {R : Ending → World → Prop} (h : c_aqueductref5_Encode v_0x0  v_0x1  v_0x2  v_0x3 v_0x3l v_0x3c  v_0x4 v_0x4l v_0x4c  v_0x5 v_0x5l v_0x5c  w R) : Calls pg f_aqueductref5_Encode #[(.agg #[(.int .i64 v_0x0), (.int .i64 v_0x1), (.string v_0x2), (.slice v_0x3 v_0x3l v_0x3c), (.slice v_0x4 v_0x4l v_0x4c), (.slice v_0x5 v_0x5l v_0x5c)])] w R :=
  funcX_of mixed tok blok Tryd.func16 (args := [(.agg #[(.int .i64 v_0x0), (.int .i64 v_0x1), (.string v_0x2), (.slice v_0x3 v_0x3l v_0x3c), (.slice v_0x4 v_0x4l v_0x4c), (.slice v_0x5 v_0x5l v_0x5c)])]) (e_aqueductref5_Encode v_0x0  v_0x1  v_0x2  v_0x3 v_0x3l v_0x3c  v_0x4 v_0x4l v_0x4c  v_0x5 v_0x5l v_0x5c  w R) h
/-- aqueduct/num.Of -/
def c_num_Of (n_0 : Int) (w : World) (R : Ending → World → Prop) : Prop :=
 (New w (.cells #[(.int .i64 (0 : Int)), (.int .i64 (0 : Int)), (.string (⟨#[]⟩ : ByteArray)), (.slice none 0 0), (.slice none 0 0), (.slice none 0 0)] t_api_Value (0, 0)) fun b0 w1 =>
 (cond (n_0 == (IntKind.i64.wrap (IntKind.i32.wrap n_0)))
 ((St w1 ⟨b0, 0, none⟩ (.int .i64 (3 : Int)) fun w2 =>
 (St w2 ⟨b0, 1, none⟩ (.int .i64 n_0) fun w3 =>
 (St w3 ⟨b0, 2, none⟩ (.string (⟨#[]⟩ : ByteArray)) fun w4 =>
 (St w4 ⟨b0, 3, none⟩ (.slice none 0 0) fun w5 =>
 (St w5 ⟨b0, 4, none⟩ (.slice none 0 0) fun w6 =>
 (St w6 ⟨b0, 5, none⟩ (.slice none 0 0) fun w7 =>
 ∃ x8 : Int, w7.cell? ⟨b0, 0, none⟩ = some (.int .i64 x8) ∧
 ∃ x9 : Int, w7.cell? ⟨b0, 1, none⟩ = some (.int .i64 x9) ∧
 ∃ x10 : ByteArray, w7.cell? ⟨b0, 2, none⟩ = some (.string x10) ∧
 ∃ (x11 : Option Addr) (l12 c13 : Nat), w7.cell? ⟨b0, 3, none⟩ = some (.slice x11 l12 c13) ∧
 ∃ (x14 : Option Addr) (l15 c16 : Nat), w7.cell? ⟨b0, 4, none⟩ = some (.slice x14 l15 c16) ∧
 ∃ (x17 : Option Addr) (l18 c19 : Nat), w7.cell? ⟨b0, 5, none⟩ = some (.slice x17 l18 c19) ∧
 R (.returned (.agg #[(.int .i64 x8), (.int .i64 x9), (.string x10), (.slice x11 l12 c13), (.slice x14 l15 c16), (.slice x17 l18 c19)])) w7)))))))
 ((St w1 ⟨b0, 0, none⟩ (.int .i64 (4 : Int)) fun w20 =>
 (St w20 ⟨b0, 1, none⟩ (.int .i64 n_0) fun w21 =>
 (St w21 ⟨b0, 2, none⟩ (.string (⟨#[]⟩ : ByteArray)) fun w22 =>
 (St w22 ⟨b0, 3, none⟩ (.slice none 0 0) fun w23 =>
 (St w23 ⟨b0, 4, none⟩ (.slice none 0 0) fun w24 =>
 (St w24 ⟨b0, 5, none⟩ (.slice none 0 0) fun w25 =>
 ∃ x26 : Int, w25.cell? ⟨b0, 0, none⟩ = some (.int .i64 x26) ∧
 ∃ x27 : Int, w25.cell? ⟨b0, 1, none⟩ = some (.int .i64 x27) ∧
 ∃ x28 : ByteArray, w25.cell? ⟨b0, 2, none⟩ = some (.string x28) ∧
 ∃ (x29 : Option Addr) (l30 c31 : Nat), w25.cell? ⟨b0, 3, none⟩ = some (.slice x29 l30 c31) ∧
 ∃ (x32 : Option Addr) (l33 c34 : Nat), w25.cell? ⟨b0, 4, none⟩ = some (.slice x32 l33 c34) ∧
 ∃ (x35 : Option Addr) (l36 c37 : Nat), w25.cell? ⟨b0, 5, none⟩ = some (.slice x35 l36 c37) ∧
 R (.returned (.agg #[(.int .i64 x26), (.int .i64 x27), (.string x28), (.slice x29 l30 c31), (.slice x32 l33 c34), (.slice x35 l36 c37)])) w25)))))))))
theorem e_num_Of (n_0 : Int) (w : World) (R : Ending → World → Prop) : funcX pg T bl Tryd.f19 [(.int .i64 n_0)] w R = c_num_Of n_0  w R := by kernel_rfl
theorem of_num_Of (n_0 : Int) {w : World} {R : Ending → World → Prop} (h : c_num_Of n_0  w R) : Calls pg f_num_Of #[(.int .i64 n_0)] w R :=
  funcX_of mixed tok blok Tryd.func19 (args := [(.int .i64 n_0)]) (e_num_Of n_0  w R) h
/-- (*aqueduct/accum.State).least -/
def c_Paccum_State_least (s_0 : Option Addr) (v_1x0 : Int) (v_1x1 : Int) (v_1x2 : ByteArray) (v_1x3 : Option Addr) (v_1x3l v_1x3c : Nat) (v_1x4 : Option Addr) (v_1x4l v_1x4c : Nat) (v_1x5 : Option Addr) (v_1x5l v_1x5c : Nat) (w : World) (R : Ending → World → Prop) : Prop :=
 (New w (.cells #[(.int .i64 v_1x0), (.int .i64 v_1x1), (.string v_1x2), (.slice v_1x3 v_1x3l v_1x3c), (.slice v_1x4 v_1x4l v_1x4c), (.slice v_1x5 v_1x5l v_1x5c)] t_api_Value (0, 0)) fun b0 w1 =>
 ∃ x2 : Int, w1.cell? ⟨b0, 0, none⟩ = some (.int .i64 x2) ∧
 ∃ x3 : Int, w1.cell? ⟨b0, 1, none⟩ = some (.int .i64 x3) ∧
 ∃ x4 : ByteArray, w1.cell? ⟨b0, 2, none⟩ = some (.string x4) ∧
 ∃ (x5 : Option Addr) (l6 c7 : Nat), w1.cell? ⟨b0, 3, none⟩ = some (.slice x5 l6 c7) ∧
 ∃ (x8 : Option Addr) (l9 c10 : Nat), w1.cell? ⟨b0, 4, none⟩ = some (.slice x8 l9 c10) ∧
 ∃ (x11 : Option Addr) (l12 c13 : Nat), w1.cell? ⟨b0, 5, none⟩ = some (.slice x11 l12 c13) ∧
 (CallR pg f_Paccum_State_better [(.pointer s_0), (.agg #[(.int .i64 x2), (.int .i64 x3), (.string x4), (.slice x5 l6 c7), (.slice x8 l9 c10), (.slice x11 l12 c13)]), (.int .i64 (-1 : Int))] w1 (fun ch w => R (.panicked ch) w) fun v14 w15 =>
 v14 = (.tuple #[]) ∧
 R (.returned (.int .i64 (0 : Int))) w15))
theorem e_Paccum_State_least (s_0 : Option Addr) (v_1x0 : Int) (v_1x1 : Int) (v_1x2 : ByteArray) (v_1x3 : Option Addr) (v_1x3l v_1x3c : Nat) (v_1x4 : Option Addr) (v_1x4l v_1x4c : Nat) (v_1x5 : Option Addr) (v_1x5l v_1x5c : Nat) (w : World) (R : Ending → World → Prop) : funcX pg T bl Tryd.f20 [(.pointer s_0), (.agg #[(.int .i64 v_1x0), (.int .i64 v_1x1), (.string v_1x2), (.slice v_1x3 v_1x3l v_1x3c), (.slice v_1x4 v_1x4l v_1x4c), (.slice v_1x5 v_1x5l v_1x5c)])] w R = c_Paccum_State_least s_0  v_1x0  v_1x1  v_1x2  v_1x3 v_1x3l v_1x3c  v_1x4 v_1x4l v_1x4c  v_1x5 v_1x5l v_1x5c  w R := by kernel_rfl
theorem of_Paccum_State_least (s_0 : Option Addr) (v_1x0 : Int) (v_1x1 : Int) (v_1x2 : ByteArray) (v_1x3 : Option Addr) (v_1x3l v_1x3c : Nat) (v_1x4 : Option Addr) (v_1x4l v_1x4c : Nat) (v_1x5 : Option Addr) (v_1x5l v_1x5c : Nat) {w : World} {R : Ending → World → Prop} (h : c_Paccum_State_least s_0  v_1x0  v_1x1  v_1x2  v_1x3 v_1x3l v_1x3c  v_1x4 v_1x4l v_1x4c  v_1x5 v_1x5l v_1x5c  w R) : Calls pg f_Paccum_State_least #[(.pointer s_0), (.agg #[(.int .i64 v_1x0), (.int .i64 v_1x1), (.string v_1x2), (.slice v_1x3 v_1x3l v_1x3c), (.slice v_1x4 v_1x4l v_1x4c), (.slice v_1x5 v_1x5l v_1x5c)])] w R :=
  funcX_of mixed tok blok Tryd.func20 (args := [(.pointer s_0), (.agg #[(.int .i64 v_1x0), (.int .i64 v_1x1), (.string v_1x2), (.slice v_1x3 v_1x3l v_1x3c), (.slice v_1x4 v_1x4l v_1x4c), (.slice v_1x5 v_1x5l v_1x5c)])]) (e_Paccum_State_least s_0  v_1x0  v_1x1  v_1x2  v_1x3 v_1x3l v_1x3c  v_1x4 v_1x4l v_1x4c  v_1x5 v_1x5l v_1x5c  w R) h
/-- aqueduct/bson.Copy -/
def c_bson_Copy (v_0x0 : Int) (v_0x1 : Int) (v_0x2 : ByteArray) (v_0x3 : Option Addr) (v_0x3l v_0x3c : Nat) (v_0x4 : Option Addr) (v_0x4l v_0x4c : Nat) (v_0x5 : Option Addr) (v_0x5l v_0x5c : Nat) (w : World) (R : Ending → World → Prop) : Prop :=
 (New w (.cells #[(.int .i64 v_0x0), (.int .i64 v_0x1), (.string v_0x2), (.slice v_0x3 v_0x3l v_0x3c), (.slice v_0x4 v_0x4l v_0x4c), (.slice v_0x5 v_0x5l v_0x5c)] t_api_Value (0, 0)) fun b0 w1 =>
 (New w1 (.cells #[(.int .i64 (0 : Int)), (.int .i64 (0 : Int)), (.string (⟨#[]⟩ : ByteArray)), (.slice none 0 0), (.slice none 0 0), (.slice none 0 0)] t_api_Value (0, 0)) fun b2 w3 =>
 ∃ (x4 : Option Addr) (l5 c6 : Nat), w3.cell? ⟨b0, 3, none⟩ = some (.slice x4 l5 c6) ∧
 (CallR pg f_bytes_Clone [(.slice x4 l5 c6)] w3 (fun ch w => R (.panicked ch) w) fun v7 w8 =>
 ∃ (y9 : Option Addr) (l10 c11 : Nat), v7 = (.slice y9 l10 c11) ∧
 (St w8 ⟨b0, 3, none⟩ (.slice y9 l10 c11) fun w12 =>
 ∃ (x13 : Option Addr) (l14 c15 : Nat), w12.cell? ⟨b0, 4, none⟩ = some (.slice x13 l14 c15) ∧
 (CallR pg f_slices_Clone_Sapi_Field_api_Field [(.slice x13 l14 c15)] w12 (fun ch w => R (.panicked ch) w) fun v16 w17 =>
 ∃ (y18 : Option Addr) (l19 c20 : Nat), v16 = (.slice y18 l19 c20) ∧
 (St w17 ⟨b0, 4, none⟩ (.slice y18 l19 c20) fun w21 =>
 ∃ (x22 : Option Addr) (l23 c24 : Nat), w21.cell? ⟨b0, 4, none⟩ = some (.slice x22 l23 c24) ∧
 (Eng.Loop (σ := Int) (fun X25 s26 w27 =>
 ∀ j28 : Nat → Value, (cond (decide (s26 < ((l23 : Nat) : Int)))
 ((withSome x22 fun (a29 : Addr) =>
 (0 ≤ s26 ∧ s26 < ((l23 : Nat) : Int)) ∧
 ∃ x30 : ByteArray, w27.cell? (a29.add ((s26).toNat * 7)) = some (.string x30) ∧
 ∃ x31 : Int, w27.cell? ((a29.add ((s26).toNat * 7)).add 1) = some (.int .i64 x31) ∧
 ∃ x32 : Int, w27.cell? ((a29.add ((s26).toNat * 7)).add 2) = some (.int .i64 x32) ∧
 ∃ x33 : ByteArray, w27.cell? ((a29.add ((s26).toNat * 7)).add 3) = some (.string x33) ∧
 ∃ (x34 : Option Addr) (l35 c36 : Nat), w27.cell? ((a29.add ((s26).toNat * 7)).add 4) = some (.slice x34 l35 c36) ∧
 ∃ (x37 : Option Addr) (l38 c39 : Nat), w27.cell? ((a29.add ((s26).toNat * 7)).add 5) = some (.slice x37 l38 c39) ∧
 ∃ (x40 : Option Addr) (l41 c42 : Nat), w27.cell? ((a29.add ((s26).toNat * 7)).add 6) = some (.slice x40 l41 c42) ∧
 (New w27 (.cells #[(.string (⟨#[]⟩ : ByteArray)), (.int .i64 (0 : Int)), (.int .i64 (0 : Int)), (.string (⟨#[]⟩ : ByteArray)), (.slice none 0 0), (.slice none 0 0), (.slice none 0 0)] t_api_Field (0, 0)) fun b43 w44 =>
 (St w44 ⟨b43, 0, none⟩ (.string x30) fun w45 =>
 (St w45 ⟨b43, 1, none⟩ (.int .i64 x31) fun w46 =>
 (St w46 ⟨b43, 2, none⟩ (.int .i64 x32) fun w47 =>
 (St w47 ⟨b43, 3, none⟩ (.string x33) fun w48 =>
 (St w48 ⟨b43, 4, none⟩ (.slice x34 l35 c36) fun w49 =>
 (St w49 ⟨b43, 5, none⟩ (.slice x37 l38 c39) fun w50 =>
 (St w50 ⟨b43, 6, none⟩ (.slice x40 l41 c42) fun w51 =>
 (Drew w51 fun w52 =>
 ∃ (x53 : Option Addr) (l54 c55 : Nat), w52.cell? ⟨b0, 4, none⟩ = some (.slice x53 l54 c55) ∧
 ∃ x56 : Int, w52.cell? ⟨b43, 1, none⟩ = some (.int .i64 x56) ∧
 ∃ x57 : Int, w52.cell? ⟨b43, 2, none⟩ = some (.int .i64 x57) ∧
 ∃ x58 : ByteArray, w52.cell? ⟨b43, 3, none⟩ = some (.string x58) ∧
 ∃ (x59 : Option Addr) (l60 c61 : Nat), w52.cell? ⟨b43, 4, none⟩ = some (.slice x59 l60 c61) ∧
 ∃ (x62 : Option Addr) (l63 c64 : Nat), w52.cell? ⟨b43, 5, none⟩ = some (.slice x62 l63 c64) ∧
 ∃ (x65 : Option Addr) (l66 c67 : Nat), w52.cell? ⟨b43, 6, none⟩ = some (.slice x65 l66 c67) ∧
 (CallR pg f_bson_Copy [(.agg #[(.int .i64 x56), (.int .i64 x57), (.string x58), (.slice x59 l60 c61), (.slice x62 l63 c64), (.slice x65 l66 c67)])] w52 (fun ch w => R (.panicked ch) w) fun v68 w69 =>
 ∃ y70 : Int, ∃ y71 : Int, ∃ y72 : ByteArray, ∃ (y73 : Option Addr) (l74 c75 : Nat), ∃ (y76 : Option Addr) (l77 c78 : Nat), ∃ (y79 : Option Addr) (l80 c81 : Nat), v68 = (.agg #[(.int .i64 y70), (.int .i64 y71), (.string y72), (.slice y73 l74 c75), (.slice y76 l77 c78), (.slice y79 l80 c81)]) ∧
 (w69.cell? ⟨b0, 4, none⟩ = some (.slice x53 l54 c55)) ∧ (withSome x53 fun (a82 : Addr) =>
 (0 ≤ s26 ∧ s26 < ((l54 : Nat) : Int)) ∧
 (St w69 ((a82.add ((s26).toNat * 7)).add 1) (.int .i64 y70) fun w83 =>
 (St w83 (((a82.add ((s26).toNat * 7)).add 1).add 1) (.int .i64 y71) fun w84 =>
 (St w84 (((a82.add ((s26).toNat * 7)).add 1).add 2) (.string y72) fun w85 =>
 (St w85 (((a82.add ((s26).toNat * 7)).add 1).add 3) (.slice y73 l74 c75) fun w86 =>
 (St w86 (((a82.add ((s26).toNat * 7)).add 1).add 4) (.slice y76 l77 c78) fun w87 =>
 (St w87 (((a82.add ((s26).toNat * 7)).add 1).add 5) (.slice y79 l80 c81) fun w88 =>
 X25 (IntKind.i64.wrap (s26 + (1 : Int))) w88)))))))))))))))))))
 (∃ (x89 : Option Addr) (l90 c91 : Nat), w27.cell? ⟨b0, 5, none⟩ = some (.slice x89 l90 c91) ∧
 (CallR pg f_slices_Clone_Sapi_Value_api_Value [(.slice x89 l90 c91)] w27 (fun ch w => R (.panicked ch) w) fun v92 w93 =>
 ∃ (y94 : Option Addr) (l95 c96 : Nat), v92 = (.slice y94 l95 c96) ∧
 (St w93 ⟨b0, 5, none⟩ (.slice y94 l95 c96) fun w97 =>
 ∃ (x98 : Option Addr) (l99 c100 : Nat), w97.cell? ⟨b0, 5, none⟩ = some (.slice x98 l99 c100) ∧
 (Eng.Loop (σ := Int) (fun X101 s102 w103 =>
 ∀ j104 : Nat → Value, (cond (decide (s102 < ((l99 : Nat) : Int)))
 ((withSome x98 fun (a105 : Addr) =>
 (0 ≤ s102 ∧ s102 < ((l99 : Nat) : Int)) ∧
 ∃ x106 : Int, w103.cell? (a105.add ((s102).toNat * 6)) = some (.int .i64 x106) ∧
 ∃ x107 : Int, w103.cell? ((a105.add ((s102).toNat * 6)).add 1) = some (.int .i64 x107) ∧
 ∃ x108 : ByteArray, w103.cell? ((a105.add ((s102).toNat * 6)).add 2) = some (.string x108) ∧
 ∃ (x109 : Option Addr) (l110 c111 : Nat), w103.cell? ((a105.add ((s102).toNat * 6)).add 3) = some (.slice x109 l110 c111) ∧
 ∃ (x112 : Option Addr) (l113 c114 : Nat), w103.cell? ((a105.add ((s102).toNat * 6)).add 4) = some (.slice x112 l113 c114) ∧
 ∃ (x115 : Option Addr) (l116 c117 : Nat), w103.cell? ((a105.add ((s102).toNat * 6)).add 5) = some (.slice x115 l116 c117) ∧
 (New w103 (.cells #[(.int .i64 (0 : Int)), (.int .i64 (0 : Int)), (.string (⟨#[]⟩ : ByteArray)), (.slice none 0 0), (.slice none 0 0), (.slice none 0 0)] t_api_Value (0, 0)) fun b118 w119 =>
 (St w119 ⟨b118, 0, none⟩ (.int .i64 x106) fun w120 =>
 (St w120 ⟨b118, 1, none⟩ (.int .i64 x107) fun w121 =>
 (St w121 ⟨b118, 2, none⟩ (.string x108) fun w122 =>
 (St w122 ⟨b118, 3, none⟩ (.slice x109 l110 c111) fun w123 =>
 (St w123 ⟨b118, 4, none⟩ (.slice x112 l113 c114) fun w124 =>
 (St w124 ⟨b118, 5, none⟩ (.slice x115 l116 c117) fun w125 =>
 (Drew w125 fun w126 =>
 ∃ (x127 : Option Addr) (l128 c129 : Nat), w126.cell? ⟨b0, 5, none⟩ = some (.slice x127 l128 c129) ∧
 ∃ x130 : Int, w126.cell? ⟨b118, 0, none⟩ = some (.int .i64 x130) ∧
 ∃ x131 : Int, w126.cell? ⟨b118, 1, none⟩ = some (.int .i64 x131) ∧
 ∃ x132 : ByteArray, w126.cell? ⟨b118, 2, none⟩ = some (.string x132) ∧
 ∃ (x133 : Option Addr) (l134 c135 : Nat), w126.cell? ⟨b118, 3, none⟩ = some (.slice x133 l134 c135) ∧
 ∃ (x136 : Option Addr) (l137 c138 : Nat), w126.cell? ⟨b118, 4, none⟩ = some (.slice x136 l137 c138) ∧
 ∃ (x139 : Option Addr) (l140 c141 : Nat), w126.cell? ⟨b118, 5, none⟩ = some (.slice x139 l140 c141) ∧
 (CallR pg f_bson_Copy [(.agg #[(.int .i64 x130), (.int .i64 x131), (.string x132), (.slice x133 l134 c135), (.slice x136 l137 c138), (.slice x139 l140 c141)])] w126 (fun ch w => R (.panicked ch) w) fun v142 w143 =>
 ∃ y144 : Int, ∃ y145 : Int, ∃ y146 : ByteArray, ∃ (y147 : Option Addr) (l148 c149 : Nat), ∃ (y150 : Option Addr) (l151 c152 : Nat), ∃ (y153 : Option Addr) (l154 c155 : Nat), v142 = (.agg #[(.int .i64 y144), (.int .i64 y145), (.string y146), (.slice y147 l148 c149), (.slice y150 l151 c152), (.slice y153 l154 c155)]) ∧
 (w143.cell? ⟨b0, 5, none⟩ = some (.slice x127 l128 c129)) ∧ (withSome x127 fun (a156 : Addr) =>
 (0 ≤ s102 ∧ s102 < ((l128 : Nat) : Int)) ∧
 (St w143 (a156.add ((s102).toNat * 6)) (.int .i64 y144) fun w157 =>
 (St w157 ((a156.add ((s102).toNat * 6)).add 1) (.int .i64 y145) fun w158 =>
 (St w158 ((a156.add ((s102).toNat * 6)).add 2) (.string y146) fun w159 =>
 (St w159 ((a156.add ((s102).toNat * 6)).add 3) (.slice y147 l148 c149) fun w160 =>
 (St w160 ((a156.add ((s102).toNat * 6)).add 4) (.slice y150 l151 c152) fun w161 =>
 (St w161 ((a156.add ((s102).toNat * 6)).add 5) (.slice y153 l154 c155) fun w162 =>
 X101 (IntKind.i64.wrap (s102 + (1 : Int))) w162))))))))))))))))))
 (∃ x163 : Int, w103.cell? ⟨b0, 0, none⟩ = some (.int .i64 x163) ∧
 ∃ x164 : Int, w103.cell? ⟨b0, 1, none⟩ = some (.int .i64 x164) ∧
 ∃ x165 : ByteArray, w103.cell? ⟨b0, 2, none⟩ = some (.string x165) ∧
 ∃ (x166 : Option Addr) (l167 c168 : Nat), w103.cell? ⟨b0, 3, none⟩ = some (.slice x166 l167 c168) ∧
 ∃ (x169 : Option Addr) (l170 c171 : Nat), w103.cell? ⟨b0, 4, none⟩ = some (.slice x169 l170 c171) ∧
 ∃ (x172 : Option Addr) (l173 c174 : Nat), w103.cell? ⟨b0, 5, none⟩ = some (.slice x172 l173 c174) ∧
 (St w103 ⟨b2, 0, none⟩ (.int .i64 x163) fun w175 =>
 (St w175 ⟨b2, 1, none⟩ (.int .i64 x164) fun w176 =>
 (St w176 ⟨b2, 2, none⟩ (.string x165) fun w177 =>
 (St w177 ⟨b2, 3, none⟩ (.slice x166 l167 c168) fun w178 =>
 (St w178 ⟨b2, 4, none⟩ (.slice x169 l170 c171) fun w179 =>
 (St w179 ⟨b2, 5, none⟩ (.slice x172 l173 c174) fun w180 =>
 ∃ x181 : Int, w180.cell? ⟨b2, 0, none⟩ = some (.int .i64 x181) ∧
 ∃ x182 : Int, w180.cell? ⟨b2, 1, none⟩ = some (.int .i64 x182) ∧
 ∃ x183 : ByteArray, w180.cell? ⟨b2, 2, none⟩ = some (.string x183) ∧
 ∃ (x184 : Option Addr) (l185 c186 : Nat), w180.cell? ⟨b2, 3, none⟩ = some (.slice x184 l185 c186) ∧
 ∃ (x187 : Option Addr) (l188 c189 : Nat), w180.cell? ⟨b2, 4, none⟩ = some (.slice x187 l188 c189) ∧
 ∃ (x190 : Option Addr) (l191 c192 : Nat), w180.cell? ⟨b2, 5, none⟩ = some (.slice x190 l191 c192) ∧
 R (.returned (.agg #[(.int .i64 x181), (.int .i64 x182), (.string x183), (.slice x184 l185 c186), (.slice x187 l188 c189), (.slice x190 l191 c192)])) w180))))))))) (0 : Int) w97)))))) (0 : Int) w21)))))))
theorem e_bson_Copy (v_0x0 : Int) (v_0x1 : Int) (v_0x2 : ByteArray) (v_0x3 : Option Addr) (v_0x3l v_0x3c : Nat) (v_0x4 : Option Addr) (v_0x4l v_0x4c : Nat) (v_0x5 : Option Addr) (v_0x5l v_0x5c : Nat) (w : World) (R : Ending → World → Prop) : funcX pg T bl Tryd.f27 [(.agg #[(.int .i64 v_0x0), (.int .i64 v_0x1), (.string v_0x2), (.slice v_0x3 v_0x3l v_0x3c), (.slice v_0x4 v_0x4l v_0x4c), (.slice v_0x5 v_0x5l v_0x5c)])] w R = c_bson_Copy v_0x0  v_0x1  v_0x2  v_0x3 v_0x3l v_0x3c  v_0x4 v_0x4l v_0x4c  v_0x5 v_0x5l v_0x5c  w R := by kernel_rfl
theorem of_bson_Copy (v_0x0 : Int) (v_0x1 : Int) (v_0x2 : ByteArray) (v_0x3 : Option Addr) (v_0x3l v_0x3c : Nat) (v_0x4 : Option Addr) (v_0x4l v_0x4c : Nat) (v_0x5 : Option Addr) (v_0x5l v_0x5c : Nat) {w : World} {R : Ending → World → Prop} (h : c_bson_Copy v_0x0  v_0x1  v_0x2  v_0x3 v_0x3l v_0x3c  v_0x4 v_0x4l v_0x4c  v_0x5 v_0x5l v_0x5c  w R) : Calls pg f_bson_Copy #[(.agg #[(.int .i64 v_0x0), (.int .i64 v_0x1), (.string v_0x2), (.slice v_0x3 v_0x3l v_0x3c), (.slice v_0x4 v_0x4l v_0x4c), (.slice v_0x5 v_0x5l v_0x5c)])] w R :=
  funcX_of mixed tok blok Tryd.func27 (args := [(.agg #[(.int .i64 v_0x0), (.int .i64 v_0x1), (.string v_0x2), (.slice v_0x3 v_0x3l v_0x3c), (.slice v_0x4 v_0x4l v_0x4c), (.slice v_0x5 v_0x5l v_0x5c)])]) (e_bson_Copy v_0x0  v_0x1  v_0x2  v_0x3 v_0x3l v_0x3c  v_0x4 v_0x4l v_0x4c  v_0x5 v_0x5l v_0x5c  w R) h
/-- aqueduct/num.Add -/
def c_num_Add (a_0x0 : Int) (a_0x1 : Int) (a_0x2 : ByteArray) (a_0x3 : Option Addr) (a_0x3l a_0x3c : Nat) (a_0x4 : Option Addr) (a_0x4l a_0x4c : Nat) (a_0x5 : Option Addr) (a_0x5l a_0x5c : Nat) (b_1x0 : Int) (b_1x1 : Int) (b_1x2 : ByteArray) (b_1x3 : Option Addr) (b_1x3l b_1x3c : Nat) (b_1x4 : Option Addr) (b_1x4l b_1x4c : Nat) (b_1x5 : Option Addr) (b_1x5l b_1x5c : Nat) (w : World) (R : Ending → World → Prop) : Prop :=
 (New w (.cells #[(.int .i64 a_0x0), (.int .i64 a_0x1), (.string a_0x2), (.slice a_0x3 a_0x3l a_0x3c), (.slice a_0x4 a_0x4l a_0x4c), (.slice a_0x5 a_0x5l a_0x5c)] t_api_Value (0, 0)) fun b0 w1 =>
 (New w1 (.cells #[(.int .i64 b_1x0), (.int .i64 b_1x1), (.string b_1x2), (.slice b_1x3 b_1x3l b_1x3c), (.slice b_1x4 b_1x4l b_1x4c), (.slice b_1x5 b_1x5l b_1x5c)] t_api_Value (0, 0)) fun b2 w3 =>
 (New w3 (.cells #[(.int .i64 (0 : Int)), (.int .i64 (0 : Int)), (.string (⟨#[]⟩ : ByteArray)), (.slice none 0 0), (.slice none 0 0), (.slice none 0 0)] t_api_Value (0, 0)) fun b4 w5 =>
 ∃ x6 : Int, w5.cell? ⟨b0, 0, none⟩ = some (.int .i64 x6) ∧
 ∃ x7 : Int, w5.cell? ⟨b0, 1, none⟩ = some (.int .i64 x7) ∧
 ∃ x8 : ByteArray, w5.cell? ⟨b0, 2, none⟩ = some (.string x8) ∧
 ∃ (x9 : Option Addr) (l10 c11 : Nat), w5.cell? ⟨b0, 3, none⟩ = some (.slice x9 l10 c11) ∧
 ∃ (x12 : Option Addr) (l13 c14 : Nat), w5.cell? ⟨b0, 4, none⟩ = some (.slice x12 l13 c14) ∧
 ∃ (x15 : Option Addr) (l16 c17 : Nat), w5.cell? ⟨b0, 5, none⟩ = some (.slice x15 l16 c17) ∧
 ∃ x18 : Int, w5.cell? ⟨b2, 0, none⟩ = some (.int .i64 x18) ∧
 ∃ x19 : Int, w5.cell? ⟨b2, 1, none⟩ = some (.int .i64 x19) ∧
 ∃ x20 : ByteArray, w5.cell? ⟨b2, 2, none⟩ = some (.string x20) ∧
 ∃ (x21 : Option Addr) (l22 c23 : Nat), w5.cell? ⟨b2, 3, none⟩ = some (.slice x21 l22 c23) ∧
 ∃ (x24 : Option Addr) (l25 c26 : Nat), w5.cell? ⟨b2, 4, none⟩ = some (.slice x24 l25 c26) ∧
 ∃ (x27 : Option Addr) (l28 c29 : Nat), w5.cell? ⟨b2, 5, none⟩ = some (.slice x27 l28 c29) ∧
 (CallR pg f_num_reckoned [(.agg #[(.int .i64 x6), (.int .i64 x7), (.string x8), (.slice x9 l10 c11), (.slice x12 l13 c14), (.slice x15 l16 c17)]), (.agg #[(.int .i64 x18), (.int .i64 x19), (.string x20), (.slice x21 l22 c23), (.slice x24 l25 c26), (.slice x27 l28 c29)]), (.func (.func f_num_add) #[] #[])] w5 (fun ch w => R (.panicked ch) w) fun v30 w31 =>
 ∃ y32 : Int, ∃ y33 : Int, ∃ y34 : ByteArray, ∃ (y35 : Option Addr) (l36 c37 : Nat), ∃ (y38 : Option Addr) (l39 c40 : Nat), ∃ (y41 : Option Addr) (l42 c43 : Nat), ∃ y44 : Int, v30 = (.tuple #[(.agg #[(.int .i64 y32), (.int .i64 y33), (.string y34), (.slice y35 l36 c37), (.slice y38 l39 c40), (.slice y41 l42 c43)]), (.int .i64 y44)]) ∧
 (St w31 ⟨b4, 0, none⟩ (.int .i64 y32) fun w45 =>
 (St w45 ⟨b4, 1, none⟩ (.int .i64 y33) fun w46 =>
 (St w46 ⟨b4, 2, none⟩ (.string y34) fun w47 =>
 (St w47 ⟨b4, 3, none⟩ (.slice y35 l36 c37) fun w48 =>
 (St w48 ⟨b4, 4, none⟩ (.slice y38 l39 c40) fun w49 =>
 (St w49 ⟨b4, 5, none⟩ (.slice y41 l42 c43) fun w50 =>
 ∃ x51 : Int, w50.cell? ⟨b4, 0, none⟩ = some (.int .i64 x51) ∧
 ∃ x52 : Int, w50.cell? ⟨b4, 1, none⟩ = some (.int .i64 x52) ∧
 ∃ x53 : ByteArray, w50.cell? ⟨b4, 2, none⟩ = some (.string x53) ∧
 ∃ (x54 : Option Addr) (l55 c56 : Nat), w50.cell? ⟨b4, 3, none⟩ = some (.slice x54 l55 c56) ∧
 ∃ (x57 : Option Addr) (l58 c59 : Nat), w50.cell? ⟨b4, 4, none⟩ = some (.slice x57 l58 c59) ∧
 ∃ (x60 : Option Addr) (l61 c62 : Nat), w50.cell? ⟨b4, 5, none⟩ = some (.slice x60 l61 c62) ∧
 R (.returned (.tuple #[(.agg #[(.int .i64 x51), (.int .i64 x52), (.string x53), (.slice x54 l55 c56), (.slice x57 l58 c59), (.slice x60 l61 c62)]), (.int .i64 y44)])) w50))))))))))
theorem e_num_Add (a_0x0 : Int) (a_0x1 : Int) (a_0x2 : ByteArray) (a_0x3 : Option Addr) (a_0x3l a_0x3c : Nat) (a_0x4 : Option Addr) (a_0x4l a_0x4c : Nat) (a_0x5 : Option Addr) (a_0x5l a_0x5c : Nat) (b_1x0 : Int) (b_1x1 : Int) (b_1x2 : ByteArray) (b_1x3 : Option Addr) (b_1x3l b_1x3c : Nat) (b_1x4 : Option Addr) (b_1x4l b_1x4c : Nat) (b_1x5 : Option Addr) (b_1x5l b_1x5c : Nat) (w : World) (R : Ending → World → Prop) : funcX pg T bl Tryd.f30 [(.agg #[(.int .i64 a_0x0), (.int .i64 a_0x1), (.string a_0x2), (.slice a_0x3 a_0x3l a_0x3c), (.slice a_0x4 a_0x4l a_0x4c), (.slice a_0x5 a_0x5l a_0x5c)]), (.agg #[(.int .i64 b_1x0), (.int .i64 b_1x1), (.string b_1x2), (.slice b_1x3 b_1x3l b_1x3c), (.slice b_1x4 b_1x4l b_1x4c), (.slice b_1x5 b_1x5l b_1x5c)])] w R = c_num_Add a_0x0  a_0x1  a_0x2  a_0x3 a_0x3l a_0x3c  a_0x4 a_0x4l a_0x4c  a_0x5 a_0x5l a_0x5c  b_1x0  b_1x1  b_1x2  b_1x3 b_1x3l b_1x3c  b_1x4 b_1x4l b_1x4c  b_1x5 b_1x5l b_1x5c  w R := by kernel_rfl
theorem of_num_Add (a_0x0 : Int) (a_0x1 : Int) (a_0x2 : ByteArray) (a_0x3 : Option Addr) (a_0x3l a_0x3c : Nat) (a_0x4 : Option Addr) (a_0x4l a_0x4c : Nat) (a_0x5 : Option Addr) (a_0x5l a_0x5c : Nat) (b_1x0 : Int) (b_1x1 : Int) (b_1x2 : ByteArray) (b_1x3 : Option Addr) (b_1x3l b_1x3c : Nat) (b_1x4 : Option Addr) (b_1x4l b_1x4c : Nat) (b_1x5 : Option Addr) (b_1x5l b_1x5c : Nat) {w : World} {R : Ending → World → Prop} (h : c_num_Add a_0x0  a_0x1  a_0x2  a_0x3 a_0x3l a_0x3c  a_0x4 a_0x4l a_0x4c  a_0x5 a_0x5l a_0x5c  b_1x0  b_1x1  b_1x2  b_1x3 b_1x3l b_1x3c  b_1x4 b_1x4l b_1x4c  b_1x5 b_1x5l b_1x5c  w R) : Calls pg f_num_Add #[(.agg #[(.int .i64 a_0x0), (.int .i64 a_0x1), (.string a_0x2), (.slice a_0x3 a_0x3l a_0x3c), (.slice a_0x4 a_0x4l a_0x4c), (.slice a_0x5 a_0x5l a_0x5c)]), (.agg #[(.int .i64 b_1x0), (.int .i64 b_1x1), (.string b_1x2), (.slice b_1x3 b_1x3l b_1x3c), (.slice b_1x4 b_1x4l b_1x4c), (.slice b_1x5 b_1x5l b_1x5c)])] w R :=
  funcX_of mixed tok blok Tryd.func30 (args := [(.agg #[(.int .i64 a_0x0), (.int .i64 a_0x1), (.string a_0x2), (.slice a_0x3 a_0x3l a_0x3c), (.slice a_0x4 a_0x4l a_0x4c), (.slice a_0x5 a_0x5l a_0x5c)]), (.agg #[(.int .i64 b_1x0), (.int .i64 b_1x1), (.string b_1x2), (.slice b_1x3 b_1x3l b_1x3c), (.slice b_1x4 b_1x4l b_1x4c), (.slice b_1x5 b_1x5l b_1x5c)])]) (e_num_Add a_0x0  a_0x1  a_0x2  a_0x3 a_0x3l a_0x3c  a_0x4 a_0x4l a_0x4c  a_0x5 a_0x5l a_0x5c  b_1x0  b_1x1  b_1x2  b_1x3 b_1x3l b_1x3c  b_1x4 b_1x4l b_1x4c  b_1x5 b_1x5l b_1x5c  w R) h
/-- (*aqueduct/accum.State).better -/
def c_Paccum_State_better (s_0 : Option Addr) (v_1x0 : Int) (v_1x1 : Int) (v_1x2 : ByteArray) (v_1x3 : Option Addr) (v_1x3l v_1x3c : Nat) (v_1x4 : Option Addr) (v_1x4l v_1x4c : Nat) (v_1x5 : Option Addr) (v_1x5l v_1x5c : Nat) (n_2 : Int) (w : World) (R : Ending → World → Prop) : Prop :=
 (New w (.cells #[(.int .i64 v_1x0), (.int .i64 v_1x1), (.string v_1x2), (.slice v_1x3 v_1x3l v_1x3c), (.slice v_1x4 v_1x4l v_1x4c), (.slice v_1x5 v_1x5l v_1x5c)] t_api_Value (0, 0)) fun b0 w1 =>
 (Meet (σ := Bool) (fun J2 =>
 ∃ x5 : Int, w1.cell? ⟨b0, 0, none⟩ = some (.int .i64 x5) ∧
 (cond (x5 == (0 : Int))
 (J2 true w1)
 (∃ x6 : Int, w1.cell? ⟨b0, 0, none⟩ = some (.int .i64 x6) ∧
 J2 (x6 == (2 : Int)) w1)))
 (fun s3 w4 =>
 ∀ j7 : Nat → Value, (cond s3
 (R (.returned (.tuple #[])) w4)
 ((Meet (σ := Bool) (fun J8 =>
 (Drew w4 fun w11 =>
 (withSome s_0 fun (a12 : Addr) =>
 ∃ x13 : Int, w11.cell? (a12.add 2) = some (.int .i64 x13) ∧
 (cond (x13 == (0 : Int))
 (J8 true w11)
 (∃ x14 : Int, w11.cell? ⟨b0, 0, none⟩ = some (.int .i64 x14) ∧
 ∃ x15 : Int, w11.cell? ⟨b0, 1, none⟩ = some (.int .i64 x15) ∧
 ∃ x16 : ByteArray, w11.cell? ⟨b0, 2, none⟩ = some (.string x16) ∧
 ∃ (x17 : Option Addr) (l18 c19 : Nat), w11.cell? ⟨b0, 3, none⟩ = some (.slice x17 l18 c19) ∧
 ∃ (x20 : Option Addr) (l21 c22 : Nat), w11.cell? ⟨b0, 4, none⟩ = some (.slice x20 l21 c22) ∧
 ∃ (x23 : Option Addr) (l24 c25 : Nat), w11.cell? ⟨b0, 5, none⟩ = some (.slice x23 l24 c25) ∧
 (withSome s_0 fun (a26 : Addr) =>
 ∃ x27 : Int, w11.cell? (a26.add 2) = some (.int .i64 x27) ∧
 ∃ x28 : Int, w11.cell? ((a26.add 2).add 1) = some (.int .i64 x28) ∧
 ∃ x29 : ByteArray, w11.cell? ((a26.add 2).add 2) = some (.string x29) ∧
 ∃ (x30 : Option Addr) (l31 c32 : Nat), w11.cell? ((a26.add 2).add 3) = some (.slice x30 l31 c32) ∧
 ∃ (x33 : Option Addr) (l34 c35 : Nat), w11.cell? ((a26.add 2).add 4) = some (.slice x33 l34 c35) ∧
 ∃ (x36 : Option Addr) (l37 c38 : Nat), w11.cell? ((a26.add 2).add 5) = some (.slice x36 l37 c38) ∧
 (CallR pg f_order_Compare [(.agg #[(.int .i64 x14), (.int .i64 x15), (.string x16), (.slice x17 l18 c19), (.slice x20 l21 c22), (.slice x23 l24 c25)]), (.agg #[(.int .i64 x27), (.int .i64 x28), (.string x29), (.slice x30 l31 c32), (.slice x33 l34 c35), (.slice x36 l37 c38)])] w11 (fun ch w => R (.panicked ch) w) fun v39 w40 =>
 ∃ y41 : Int, v39 = (.int .i64 y41) ∧
 J8 (y41 == n_2) w40)))))))
 (fun s9 w10 =>
 ∀ j42 : Nat → Value, (cond s9
 (∃ x43 : Int, w10.cell? ⟨b0, 0, none⟩ = some (.int .i64 x43) ∧
 ∃ x44 : Int, w10.cell? ⟨b0, 1, none⟩ = some (.int .i64 x44) ∧
 ∃ x45 : ByteArray, w10.cell? ⟨b0, 2, none⟩ = some (.string x45) ∧
 ∃ (x46 : Option Addr) (l47 c48 : Nat), w10.cell? ⟨b0, 3, none⟩ = some (.slice x46 l47 c48) ∧
 ∃ (x49 : Option Addr) (l50 c51 : Nat), w10.cell? ⟨b0, 4, none⟩ = some (.slice x49 l50 c51) ∧
 ∃ (x52 : Option Addr) (l53 c54 : Nat), w10.cell? ⟨b0, 5, none⟩ = some (.slice x52 l53 c54) ∧
 (CallR pg f_bson_Copy [(.agg #[(.int .i64 x43), (.int .i64 x44), (.string x45), (.slice x46 l47 c48), (.slice x49 l50 c51), (.slice x52 l53 c54)])] w10 (fun ch w => R (.panicked ch) w) fun v55 w56 =>
 ∃ y57 : Int, ∃ y58 : Int, ∃ y59 : ByteArray, ∃ (y60 : Option Addr) (l61 c62 : Nat), ∃ (y63 : Option Addr) (l64 c65 : Nat), ∃ (y66 : Option Addr) (l67 c68 : Nat), v55 = (.agg #[(.int .i64 y57), (.int .i64 y58), (.string y59), (.slice y60 l61 c62), (.slice y63 l64 c65), (.slice y66 l67 c68)]) ∧
 (withSome s_0 fun (a69 : Addr) =>
 (St w56 (a69.add 2) (.int .i64 y57) fun w70 =>
 (St w70 ((a69.add 2).add 1) (.int .i64 y58) fun w71 =>
 (St w71 ((a69.add 2).add 2) (.string y59) fun w72 =>
 (St w72 ((a69.add 2).add 3) (.slice y60 l61 c62) fun w73 =>
 (St w73 ((a69.add 2).add 4) (.slice y63 l64 c65) fun w74 =>
 (St w74 ((a69.add 2).add 5) (.slice y66 l67 c68) fun w75 =>
 R (.returned (.tuple #[])) w75)))))))))
 (R (.returned (.tuple #[])) w10)))))))))
theorem e_Paccum_State_better (s_0 : Option Addr) (v_1x0 : Int) (v_1x1 : Int) (v_1x2 : ByteArray) (v_1x3 : Option Addr) (v_1x3l v_1x3c : Nat) (v_1x4 : Option Addr) (v_1x4l v_1x4c : Nat) (v_1x5 : Option Addr) (v_1x5l v_1x5c : Nat) (n_2 : Int) (w : World) (R : Ending → World → Prop) : funcX pg T bl Tryd.f31 [(.pointer s_0), (.agg #[(.int .i64 v_1x0), (.int .i64 v_1x1), (.string v_1x2), (.slice v_1x3 v_1x3l v_1x3c), (.slice v_1x4 v_1x4l v_1x4c), (.slice v_1x5 v_1x5l v_1x5c)]), (.int .i64 n_2)] w R = c_Paccum_State_better s_0  v_1x0  v_1x1  v_1x2  v_1x3 v_1x3l v_1x3c  v_1x4 v_1x4l v_1x4c  v_1x5 v_1x5l v_1x5c  n_2  w R := by kernel_rfl
theorem of_Paccum_State_better (s_0 : Option Addr) (v_1x0 : Int) (v_1x1 : Int) (v_1x2 : ByteArray) (v_1x3 : Option Addr) (v_1x3l v_1x3c : Nat) (v_1x4 : Option Addr) (v_1x4l v_1x4c : Nat) (v_1x5 : Option Addr) (v_1x5l v_1x5c : Nat) (n_2 : Int) {w : World} {R : Ending → World → Prop} (h : c_Paccum_State_better s_0  v_1x0  v_1x1  v_1x2  v_1x3 v_1x3l v_1x3c  v_1x4 v_1x4l v_1x4c  v_1x5 v_1x5l v_1x5c  n_2  w R) : Calls pg f_Paccum_State_better #[(.pointer s_0), (.agg #[(.int .i64 v_1x0), (.int .i64 v_1x1), (.string v_1x2), (.slice v_1x3 v_1x3l v_1x3c), (.slice v_1x4 v_1x4l v_1x4c), (.slice v_1x5 v_1x5l v_1x5c)]), (.int .i64 n_2)] w R :=
  funcX_of mixed tok blok Tryd.func31 (args := [(.pointer s_0), (.agg #[(.int .i64 v_1x0), (.int .i64 v_1x1), (.string v_1x2), (.slice v_1x3 v_1x3l v_1x3c), (.slice v_1x4 v_1x4l v_1x4c), (.slice v_1x5 v_1x5l v_1x5c)]), (.int .i64 n_2)]) (e_Paccum_State_better s_0  v_1x0  v_1x1  v_1x2  v_1x3 v_1x3l v_1x3c  v_1x4 v_1x4l v_1x4c  v_1x5 v_1x5l v_1x5c  n_2  w R) h
/-- strconv.Itoa -/
def c_strconv_Itoa (i_0 : Int) (w : World) (R : Ending → World → Prop) : Prop :=
 (CallR pg f_internal_strconv_Itoa [(.int .i64 i_0)] w (fun ch w => R (.panicked ch) w) fun v0 w1 =>
 ∃ y2 : ByteArray, v0 = (.string y2) ∧
 R (.returned (.string y2)) w1)
theorem e_strconv_Itoa (i_0 : Int) (w : World) (R : Ending → World → Prop) : funcX pg T bl Tryd.f32 [(.int .i64 i_0)] w R = c_strconv_Itoa i_0  w R := by kernel_rfl
theorem of_strconv_Itoa (i_0 : Int) {w : World} {R : Ending → World → Prop} (h : c_strconv_Itoa i_0  w R) : Calls pg f_strconv_Itoa #[(.int .i64 i_0)] w R :=
  funcX_of mixed tok blok Tryd.func32 (args := [(.int .i64 i_0)]) (e_strconv_Itoa i_0  w R) h
/-- slices.Clone[[]aqueduct/api.Field,aqueduct/api.Field] -/
def c_slices_Clone_Sapi_Field_api_Field (s_0 : Option Addr) (s_0l s_0c : Nat) (w : World) (R : Ending → World → Prop) : Prop :=
 (cond s_0.isNone
 (R (.returned (.slice none 0 0)) w)
 ((New w (.cells #[] t_api_Field (0, 0)) fun b0 w1 =>
 (Prim pg (Builtin.append_ #[t_Sapi_Field, t_Sapi_Field] t_Sapi_Field #[(.slice (some (⟨b0, 0, none⟩ : Addr)) 0 0), (.slice s_0 s_0l s_0c)]) w1 fun v2 w3 =>
 ∃ (y4 : Option Addr) (l5 c6 : Nat), v2 = (.slice y4 l5 c6) ∧
 R (.returned (.slice y4 l5 c6)) w3))))
theorem e_slices_Clone_Sapi_Field_api_Field (s_0 : Option Addr) (s_0l s_0c : Nat) (w : World) (R : Ending → World → Prop) : funcX pg T bl Tryd.f36 [(.slice s_0 s_0l s_0c)] w R = c_slices_Clone_Sapi_Field_api_Field s_0 s_0l s_0c  w R := by kernel_rfl
theorem of_slices_Clone_Sapi_Field_api_Field (s_0 : Option Addr) (s_0l s_0c : Nat) {w : World} {R : Ending → World → Prop} (h : c_slices_Clone_Sapi_Field_api_Field s_0 s_0l s_0c  w R) : Calls pg f_slices_Clone_Sapi_Field_api_Field #[(.slice s_0 s_0l s_0c)] w R :=
  funcX_of mixed tok blok Tryd.func36 (args := [(.slice s_0 s_0l s_0c)]) (e_slices_Clone_Sapi_Field_api_Field s_0 s_0l s_0c  w R) h
/-- aqueduct/aqueductref5.bare -/
def c_aqueductref5_bare (v_0x0 : Int) (v_0x1 : Int) (v_0x2 : ByteArray) (v_0x3 : Option Addr) (v_0x3l v_0x3c : Nat) (v_0x4 : Option Addr) (v_0x4l v_0x4c : Nat) (v_0x5 : Option Addr) (v_0x5l v_0x5c : Nat) (n_1 : Bool) (s_2 : Bool) (b_3 : Bool) (f_4 : Bool) (l_5 : Bool) (w : World) (R : Ending → World → Prop) : Prop :=
 (New w (.cells #[(.int .i64 v_0x0), (.int .i64 v_0x1), (.string v_0x2), (.slice v_0x3 v_0x3l v_0x3c), (.slice v_0x4 v_0x4l v_0x4c), (.slice v_0x5 v_0x5l v_0x5c)] t_api_Value (0, 0)) fun b0 w1 =>
 (Meet (σ := Bool) (fun J2 =>
 (cond n_1
 ((cond s_2
 ((cond b_3
 ((cond f_4
 ((cond l_5
 (J2 true w1)
 (∃ (x5 : Option Addr) (l6 c7 : Nat), w1.cell? ⟨b0, 5, none⟩ = some (.slice x5 l6 c7) ∧
 J2 (((l6 : Nat) : Int) == (0 : Int)) w1)))
 (∃ (x8 : Option Addr) (l9 c10 : Nat), w1.cell? ⟨b0, 4, none⟩ = some (.slice x8 l9 c10) ∧
 (cond (((l9 : Nat) : Int) == (0 : Int))
 ((cond l_5
 (J2 true w1)
 (∃ (x11 : Option Addr) (l12 c13 : Nat), w1.cell? ⟨b0, 5, none⟩ = some (.slice x11 l12 c13) ∧
 J2 (((l12 : Nat) : Int) == (0 : Int)) w1)))
 (J2 false w1)))))
 (∃ (x14 : Option Addr) (l15 c16 : Nat), w1.cell? ⟨b0, 3, none⟩ = some (.slice x14 l15 c16) ∧
 (cond (((l15 : Nat) : Int) == (0 : Int))
 ((cond f_4
 ((cond l_5
 (J2 true w1)
 (∃ (x17 : Option Addr) (l18 c19 : Nat), w1.cell? ⟨b0, 5, none⟩ = some (.slice x17 l18 c19) ∧
 J2 (((l18 : Nat) : Int) == (0 : Int)) w1)))
 (∃ (x20 : Option Addr) (l21 c22 : Nat), w1.cell? ⟨b0, 4, none⟩ = some (.slice x20 l21 c22) ∧
 (cond (((l21 : Nat) : Int) == (0 : Int))
 ((cond l_5
 (J2 true w1)
 (∃ (x23 : Option Addr) (l24 c25 : Nat), w1.cell? ⟨b0, 5, none⟩ = some (.slice x23 l24 c25) ∧
 J2 (((l24 : Nat) : Int) == (0 : Int)) w1)))
 (J2 false w1)))))
 (J2 false w1)))))
 (∃ x26 : ByteArray, w1.cell? ⟨b0, 2, none⟩ = some (.string x26) ∧
 (cond (x26.toList == (⟨#[]⟩ : ByteArray).toList)
 ((cond b_3
 ((cond f_4
 ((cond l_5
 (J2 true w1)
 (∃ (x27 : Option Addr) (l28 c29 : Nat), w1.cell? ⟨b0, 5, none⟩ = some (.slice x27 l28 c29) ∧
 J2 (((l28 : Nat) : Int) == (0 : Int)) w1)))
 (∃ (x30 : Option Addr) (l31 c32 : Nat), w1.cell? ⟨b0, 4, none⟩ = some (.slice x30 l31 c32) ∧
 (cond (((l31 : Nat) : Int) == (0 : Int))
 ((cond l_5
 (J2 true w1)
 (∃ (x33 : Option Addr) (l34 c35 : Nat), w1.cell? ⟨b0, 5, none⟩ = some (.slice x33 l34 c35) ∧
 J2 (((l34 : Nat) : Int) == (0 : Int)) w1)))
 (J2 false w1)))))
 (∃ (x36 : Option Addr) (l37 c38 : Nat), w1.cell? ⟨b0, 3, none⟩ = some (.slice x36 l37 c38) ∧
 (cond (((l37 : Nat) : Int) == (0 : Int))
 ((cond f_4
 ((cond l_5
 (J2 true w1)
 (∃ (x39 : Option Addr) (l40 c41 : Nat), w1.cell? ⟨b0, 5, none⟩ = some (.slice x39 l40 c41) ∧
 J2 (((l40 : Nat) : Int) == (0 : Int)) w1)))
 (∃ (x42 : Option Addr) (l43 c44 : Nat), w1.cell? ⟨b0, 4, none⟩ = some (.slice x42 l43 c44) ∧
 (cond (((l43 : Nat) : Int) == (0 : Int))
 ((cond l_5
 (J2 true w1)
 (∃ (x45 : Option Addr) (l46 c47 : Nat), w1.cell? ⟨b0, 5, none⟩ = some (.slice x45 l46 c47) ∧
 J2 (((l46 : Nat) : Int) == (0 : Int)) w1)))
 (J2 false w1)))))
 (J2 false w1)))))
 (J2 false w1)))))
 (∃ x48 : Int, w1.cell? ⟨b0, 1, none⟩ = some (.int .i64 x48) ∧
 (cond (x48 == (0 : Int))
 ((cond s_2
 ((cond b_3
 ((cond f_4
 ((cond l_5
 (J2 true w1)
 (∃ (x49 : Option Addr) (l50 c51 : Nat), w1.cell? ⟨b0, 5, none⟩ = some (.slice x49 l50 c51) ∧
 J2 (((l50 : Nat) : Int) == (0 : Int)) w1)))
 (∃ (x52 : Option Addr) (l53 c54 : Nat), w1.cell? ⟨b0, 4, none⟩ = some (.slice x52 l53 c54) ∧
 (cond (((l53 : Nat) : Int) == (0 : Int))
 ((cond l_5
 (J2 true w1)
 (∃ (x55 : Option Addr) (l56 c57 : Nat), w1.cell? ⟨b0, 5, none⟩ = some (.slice x55 l56 c57) ∧
 J2 (((l56 : Nat) : Int) == (0 : Int)) w1)))
 (J2 false w1)))))
 (∃ (x58 : Option Addr) (l59 c60 : Nat), w1.cell? ⟨b0, 3, none⟩ = some (.slice x58 l59 c60) ∧
 (cond (((l59 : Nat) : Int) == (0 : Int))
 ((cond f_4
 ((cond l_5
 (J2 true w1)
 (∃ (x61 : Option Addr) (l62 c63 : Nat), w1.cell? ⟨b0, 5, none⟩ = some (.slice x61 l62 c63) ∧
 J2 (((l62 : Nat) : Int) == (0 : Int)) w1)))
 (∃ (x64 : Option Addr) (l65 c66 : Nat), w1.cell? ⟨b0, 4, none⟩ = some (.slice x64 l65 c66) ∧
 (cond (((l65 : Nat) : Int) == (0 : Int))
 ((cond l_5
 (J2 true w1)
 (∃ (x67 : Option Addr) (l68 c69 : Nat), w1.cell? ⟨b0, 5, none⟩ = some (.slice x67 l68 c69) ∧
 J2 (((l68 : Nat) : Int) == (0 : Int)) w1)))
 (J2 false w1)))))
 (J2 false w1)))))
 (∃ x70 : ByteArray, w1.cell? ⟨b0, 2, none⟩ = some (.string x70) ∧
 (cond (x70.toList == (⟨#[]⟩ : ByteArray).toList)
 ((cond b_3
 ((cond f_4
 ((cond l_5
 (J2 true w1)
 (∃ (x71 : Option Addr) (l72 c73 : Nat), w1.cell? ⟨b0, 5, none⟩ = some (.slice x71 l72 c73) ∧
 J2 (((l72 : Nat) : Int) == (0 : Int)) w1)))
 (∃ (x74 : Option Addr) (l75 c76 : Nat), w1.cell? ⟨b0, 4, none⟩ = some (.slice x74 l75 c76) ∧
 (cond (((l75 : Nat) : Int) == (0 : Int))
 ((cond l_5
 (J2 true w1)
 (∃ (x77 : Option Addr) (l78 c79 : Nat), w1.cell? ⟨b0, 5, none⟩ = some (.slice x77 l78 c79) ∧
 J2 (((l78 : Nat) : Int) == (0 : Int)) w1)))
 (J2 false w1)))))
 (∃ (x80 : Option Addr) (l81 c82 : Nat), w1.cell? ⟨b0, 3, none⟩ = some (.slice x80 l81 c82) ∧
 (cond (((l81 : Nat) : Int) == (0 : Int))
 ((cond f_4
 ((cond l_5
 (J2 true w1)
 (∃ (x83 : Option Addr) (l84 c85 : Nat), w1.cell? ⟨b0, 5, none⟩ = some (.slice x83 l84 c85) ∧
 J2 (((l84 : Nat) : Int) == (0 : Int)) w1)))
 (∃ (x86 : Option Addr) (l87 c88 : Nat), w1.cell? ⟨b0, 4, none⟩ = some (.slice x86 l87 c88) ∧
 (cond (((l87 : Nat) : Int) == (0 : Int))
 ((cond l_5
 (J2 true w1)
 (∃ (x89 : Option Addr) (l90 c91 : Nat), w1.cell? ⟨b0, 5, none⟩ = some (.slice x89 l90 c91) ∧
 J2 (((l90 : Nat) : Int) == (0 : Int)) w1)))
 (J2 false w1)))))
 (J2 false w1)))))
 (J2 false w1)))))
 (J2 false w1)))))
 (fun s3 w4 =>
 ∀ j92 : Nat → Value, R (.returned (.bool s3)) w4)))
theorem e_aqueductref5_bare (v_0x0 : Int) (v_0x1 : Int) (v_0x2 : ByteArray) (v_0x3 : Option Addr) (v_0x3l v_0x3c : Nat) (v_0x4 : Option Addr) (v_0x4l v_0x4c : Nat) (v_0x5 : Option Addr) (v_0x5l v_0x5c : Nat) (n_1 : Bool) (s_2 : Bool) (b_3 : Bool) (f_4 : Bool) (l_5 : Bool) (w : World) (R : Ending → World → Prop) : funcX pg T bl Tryd.f38 [(.agg #[(.int .i64 v_0x0), (.int .i64 v_0x1), (.string v_0x2), (.slice v_0x3 v_0x3l v_0x3c), (.slice v_0x4 v_0x4l v_0x4c), (.slice v_0x5 v_0x5l v_0x5c)]), (.bool n_1), (.bool s_2), (.bool b_3), (.bool f_4), (.bool l_5)] w R = c_aqueductref5_bare v_0x0  v_0x1  v_0x2  v_0x3 v_0x3l v_0x3c  v_0x4 v_0x4l v_0x4c  v_0x5 v_0x5l v_0x5c  n_1  s_2  b_3  f_4  l_5  w R := by kernel_rfl
theorem of_aqueductref5_bare (v_0x0 : Int) (v_0x1 : Int) (v_0x2 : ByteArray) (v_0x3 : Option Addr) (v_0x3l v_0x3c : Nat) (v_0x4 : Option Addr) (v_0x4l v_0x4c : Nat) (v_0x5 : Option Addr) (v_0x5l v_0x5c : Nat) (n_1 : Bool) (s_2 : Bool) (b_3 : Bool) (f_4 : Bool) (l_5 : Bool) {w : World} {R : Ending → World → Prop} (h : c_aqueductref5_bare v_0x0  v_0x1  v_0x2  v_0x3 v_0x3l v_0x3c  v_0x4 v_0x4l v_0x4c  v_0x5 v_0x5l v_0x5c  n_1  s_2  b_3  f_4  l_5  w R) : Calls pg f_aqueductref5_bare #[(.agg #[(.int .i64 v_0x0), (.int .i64 v_0x1), (.string v_0x2), (.slice v_0x3 v_0x3l v_0x3c), (.slice v_0x4 v_0x4l v_0x4c), (.slice v_0x5 v_0x5l v_0x5c)]), (.bool n_1), (.bool s_2), (.bool b_3), (.bool f_4), (.bool l_5)] w R :=
  funcX_of mixed tok blok Tryd.func38 (args := [(.agg #[(.int .i64 v_0x0), (.int .i64 v_0x1), (.string v_0x2), (.slice v_0x3 v_0x3l v_0x3c), (.slice v_0x4 v_0x4l v_0x4c), (.slice v_0x5 v_0x5l v_0x5c)]), (.bool n_1), (.bool s_2), (.bool b_3), (.bool f_4), (.bool l_5)]) (e_aqueductref5_bare v_0x0  v_0x1  v_0x2  v_0x3 v_0x3l v_0x3c  v_0x4 v_0x4l v_0x4c  v_0x5 v_0x5l v_0x5c  n_1  s_2  b_3  f_4  l_5  w R) h
/-- aqueduct/aqueductref5.num -/
def c_aqueductref5_num (n_0 : Int) (width_1 : Int) (w : World) (R : Ending → World → Prop) : Prop :=
 (Eng.Loop (σ := (Option Addr × Nat × Nat) × Int) (fun X0 s1 w2 =>
 ∀ j3 : Nat → Value, (cond (decide (s1.2 < width_1))
 ((cond (decide ((IntKind.u64.wrap (IntKind.i64.wrap ((8 : Int) * s1.2))) < 0))
 (False)
 ((New w2 (.cells #[(.int .u8 (IntKind.u8.wrap ((IntKind.u64.wrap n_0).fdiv (2 ^ (min ((IntKind.u64.wrap (IntKind.i64.wrap ((8 : Int) * s1.2)))).toNat IntKind.u64.bits)))))] t_uint8 (0, 0)) fun b4 w5 =>
 (Prim pg (Builtin.append_ #[t_Suint8, t_Suint8] t_Suint8 #[(.slice s1.1.1 s1.1.2.1 s1.1.2.2), (.slice (some (⟨b4, 0, none⟩ : Addr)) 1 1)]) w5 fun v6 w7 =>
 ∃ (y8 : Option Addr) (l9 c10 : Nat), v6 = (.slice y8 l9 c10) ∧
 X0 ((y8, l9, c10), (IntKind.i64.wrap (s1.2 + (1 : Int)))) w7)))))
 (R (.returned (.slice s1.1.1 s1.1.2.1 s1.1.2.2)) w2))) ((none, 0, 0), (0 : Int)) w)
theorem e_aqueductref5_num (n_0 : Int) (width_1 : Int) (w : World) (R : Ending → World → Prop) : funcX pg T bl Tryd.f39 [(.int .i64 n_0), (.int .i64 width_1)] w R = c_aqueductref5_num n_0  width_1  w R := by kernel_rfl
theorem of_aqueductref5_num (n_0 : Int) (width_1 : Int) {w : World} {R : Ending → World → Prop} (h : c_aqueductref5_num n_0  width_1  w R) : Calls pg f_aqueductref5_num #[(.int .i64 n_0), (.int .i64 width_1)] w R :=
  funcX_of mixed tok blok Tryd.func39 (args := [(.int .i64 n_0), (.int .i64 width_1)]) (e_aqueductref5_num n_0  width_1  w R) h
/-- aqueduct/bson.plain -/
def c_bson_plain (v_0x0 : Int) (v_0x1 : Int) (v_0x2 : ByteArray) (v_0x3 : Option Addr) (v_0x3l v_0x3c : Nat) (v_0x4 : Option Addr) (v_0x4l v_0x4c : Nat) (v_0x5 : Option Addr) (v_0x5l v_0x5c : Nat) (w : World) (R : Ending → World → Prop) : Prop :=
 (New w (.cells #[(.int .i64 v_0x0), (.int .i64 v_0x1), (.string v_0x2), (.slice v_0x3 v_0x3l v_0x3c), (.slice v_0x4 v_0x4l v_0x4c), (.slice v_0x5 v_0x5l v_0x5c)] t_api_Value (0, 0)) fun b0 w1 =>
 (Meet (σ := Unit) (fun J2 =>
 ∃ x5 : Int, w1.cell? ⟨b0, 0, none⟩ = some (.int .i64 x5) ∧
 (Meet (σ := Bool) (fun J6 =>
 (cond (x5 == (3 : Int))
 (J6 true w1)
 ((cond (x5 == (4 : Int))
 (J6 true w1)
 ((cond (x5 == (10 : Int))
 (J6 true w1)
 (J6 (x5 == (11 : Int)) w1)))))))
 (fun s7 w8 =>
 ∀ j9 : Nat → Value, (cond s7
 ((St w8 ⟨b0, 1, none⟩ (.int .i64 (0 : Int)) fun w10 =>
 J2 () w10))
 ((cond (x5 == (5 : Int))
 ((St w8 ⟨b0, 2, none⟩ (.string (⟨#[]⟩ : ByteArray)) fun w11 =>
 J2 () w11))
 ((Meet (σ := Bool) (fun J12 =>
 (cond (x5 == (8 : Int))
 (J12 true w8)
 (J12 (x5 == (9 : Int)) w8)))
 (fun s13 w14 =>
 ∀ j15 : Nat → Value, (cond s13
 ((St w14 ⟨b0, 3, none⟩ (.slice none 0 0) fun w16 =>
 J2 () w16))
 ((cond (x5 == (6 : Int))
 ((St w14 ⟨b0, 4, none⟩ (.slice none 0 0) fun w17 =>
 J2 () w17))
 ((cond (x5 == (7 : Int))
 ((St w14 ⟨b0, 5, none⟩ (.slice none 0 0) fun w18 =>
 J2 () w18))
 (J2 () w14)))))))))))))))
 (fun s3 w4 =>
 ∀ j19 : Nat → Value, (Meet (σ := Bool) (fun J20 =>
 ∃ x23 : Int, w4.cell? ⟨b0, 1, none⟩ = some (.int .i64 x23) ∧
 (cond (x23 == (0 : Int))
 (∃ x24 : ByteArray, w4.cell? ⟨b0, 2, none⟩ = some (.string x24) ∧
 (cond (x24.toList == (⟨#[]⟩ : ByteArray).toList)
 (∃ (x25 : Option Addr) (l26 c27 : Nat), w4.cell? ⟨b0, 3, none⟩ = some (.slice x25 l26 c27) ∧
 ∃ (x28 : Option Addr) (l29 c30 : Nat), w4.cell? ⟨b0, 4, none⟩ = some (.slice x28 l29 c30) ∧
 ∃ (x31 : Option Addr) (l32 c33 : Nat), w4.cell? ⟨b0, 5, none⟩ = some (.slice x31 l32 c33) ∧
 J20 ((IntKind.i64.wrap ((IntKind.i64.wrap (((l26 : Nat) : Int) + ((l29 : Nat) : Int))) + ((l32 : Nat) : Int))) == (0 : Int)) w4)
 (J20 false w4)))
 (J20 false w4)))
 (fun s21 w22 =>
 ∀ j34 : Nat → Value, R (.returned (.bool s21)) w22)))))
theorem e_bson_plain (v_0x0 : Int) (v_0x1 : Int) (v_0x2 : ByteArray) (v_0x3 : Option Addr) (v_0x3l v_0x3c : Nat) (v_0x4 : Option Addr) (v_0x4l v_0x4c : Nat) (v_0x5 : Option Addr) (v_0x5l v_0x5c : Nat) (w : World) (R : Ending → World → Prop) : funcX pg T bl Tryd.f46 [(.agg #[(.int .i64 v_0x0), (.int .i64 v_0x1), (.string v_0x2), (.slice v_0x3 v_0x3l v_0x3c), (.slice v_0x4 v_0x4l v_0x4c), (.slice v_0x5 v_0x5l v_0x5c)])] w R = c_bson_plain v_0x0  v_0x1  v_0x2  v_0x3 v_0x3l v_0x3c  v_0x4 v_0x4l v_0x4c  v_0x5 v_0x5l v_0x5c  w R := by kernel_rfl
theorem of_bson_plain (v_0x0 : Int) (v_0x1 : Int) (v_0x2 : ByteArray) (v_0x3 : Option Addr) (v_0x3l v_0x3c : Nat) (v_0x4 : Option Addr) (v_0x4l v_0x4c : Nat) (v_0x5 : Option Addr) (v_0x5l v_0x5c : Nat) {w : World} {R : Ending → World → Prop} (h : c_bson_plain v_0x0  v_0x1  v_0x2  v_0x3 v_0x3l v_0x3c  v_0x4 v_0x4l v_0x4c  v_0x5 v_0x5l v_0x5c  w R) : Calls pg f_bson_plain #[(.agg #[(.int .i64 v_0x0), (.int .i64 v_0x1), (.string v_0x2), (.slice v_0x3 v_0x3l v_0x3c), (.slice v_0x4 v_0x4l v_0x4c), (.slice v_0x5 v_0x5l v_0x5c)])] w R :=
  funcX_of mixed tok blok Tryd.func46 (args := [(.agg #[(.int .i64 v_0x0), (.int .i64 v_0x1), (.string v_0x2), (.slice v_0x3 v_0x3l v_0x3c), (.slice v_0x4 v_0x4l v_0x4c), (.slice v_0x5 v_0x5l v_0x5c)])]) (e_bson_plain v_0x0  v_0x1  v_0x2  v_0x3 v_0x3l v_0x3c  v_0x4 v_0x4l v_0x4c  v_0x5 v_0x5l v_0x5c  w R) h
/-- aqueduct/num.none -/
def c_num_none (v_0x0 : Int) (v_0x1 : Int) (v_0x2 : ByteArray) (v_0x3 : Option Addr) (v_0x3l v_0x3c : Nat) (v_0x4 : Option Addr) (v_0x4l v_0x4c : Nat) (v_0x5 : Option Addr) (v_0x5l v_0x5c : Nat) (w : World) (R : Ending → World → Prop) : Prop :=
 (New w (.cells #[(.int .i64 v_0x0), (.int .i64 v_0x1), (.string v_0x2), (.slice v_0x3 v_0x3l v_0x3c), (.slice v_0x4 v_0x4l v_0x4c), (.slice v_0x5 v_0x5l v_0x5c)] t_api_Value (0, 0)) fun b0 w1 =>
 (Meet (σ := Bool) (fun J2 =>
 ∃ x5 : Int, w1.cell? ⟨b0, 0, none⟩ = some (.int .i64 x5) ∧
 (cond (x5 == (0 : Int))
 (J2 true w1)
 (∃ x6 : Int, w1.cell? ⟨b0, 0, none⟩ = some (.int .i64 x6) ∧
 J2 (x6 == (2 : Int)) w1)))
 (fun s3 w4 =>
 ∀ j7 : Nat → Value, R (.returned (.bool s3)) w4)))
theorem e_num_none (v_0x0 : Int) (v_0x1 : Int) (v_0x2 : ByteArray) (v_0x3 : Option Addr) (v_0x3l v_0x3c : Nat) (v_0x4 : Option Addr) (v_0x4l v_0x4c : Nat) (v_0x5 : Option Addr) (v_0x5l v_0x5c : Nat) (w : World) (R : Ending → World → Prop) : funcX pg T bl Tryd.f55 [(.agg #[(.int .i64 v_0x0), (.int .i64 v_0x1), (.string v_0x2), (.slice v_0x3 v_0x3l v_0x3c), (.slice v_0x4 v_0x4l v_0x4c), (.slice v_0x5 v_0x5l v_0x5c)])] w R = c_num_none v_0x0  v_0x1  v_0x2  v_0x3 v_0x3l v_0x3c  v_0x4 v_0x4l v_0x4c  v_0x5 v_0x5l v_0x5c  w R := by kernel_rfl
theorem of_num_none (v_0x0 : Int) (v_0x1 : Int) (v_0x2 : ByteArray) (v_0x3 : Option Addr) (v_0x3l v_0x3c : Nat) (v_0x4 : Option Addr) (v_0x4l v_0x4c : Nat) (v_0x5 : Option Addr) (v_0x5l v_0x5c : Nat) {w : World} {R : Ending → World → Prop} (h : c_num_none v_0x0  v_0x1  v_0x2  v_0x3 v_0x3l v_0x3c  v_0x4 v_0x4l v_0x4c  v_0x5 v_0x5l v_0x5c  w R) : Calls pg f_num_none #[(.agg #[(.int .i64 v_0x0), (.int .i64 v_0x1), (.string v_0x2), (.slice v_0x3 v_0x3l v_0x3c), (.slice v_0x4 v_0x4l v_0x4c), (.slice v_0x5 v_0x5l v_0x5c)])] w R :=
  funcX_of mixed tok blok Tryd.func55 (args := [(.agg #[(.int .i64 v_0x0), (.int .i64 v_0x1), (.string v_0x2), (.slice v_0x3 v_0x3l v_0x3c), (.slice v_0x4 v_0x4l v_0x4c), (.slice v_0x5 v_0x5l v_0x5c)])]) (e_num_none v_0x0  v_0x1  v_0x2  v_0x3 v_0x3l v_0x3c  v_0x4 v_0x4l v_0x4c  v_0x5 v_0x5l v_0x5c  w R) h
/-- aqueduct/num.within -/
def c_num_within (n_0 : Int) (ok_1 : Bool) (w : World) (R : Ending → World → Prop) : Prop :=
 (cond (!ok_1)
 (R (.returned (.tuple #[(.int .i64 (0 : Int)), (.int .i64 (10 : Int))])) w)
 (R (.returned (.tuple #[(.int .i64 n_0), (.int .i64 (0 : Int))])) w))
theorem e_num_within (n_0 : Int) (ok_1 : Bool) (w : World) (R : Ending → World → Prop) : funcX pg T bl Tryd.f57 [(.int .i64 n_0), (.bool ok_1)] w R = c_num_within n_0  ok_1  w R := by kernel_rfl
theorem of_num_within (n_0 : Int) (ok_1 : Bool) {w : World} {R : Ending → World → Prop} (h : c_num_within n_0  ok_1  w R) : Calls pg f_num_within #[(.int .i64 n_0), (.bool ok_1)] w R :=
  funcX_of mixed tok blok Tryd.func57 (args := [(.int .i64 n_0), (.bool ok_1)]) (e_num_within n_0  ok_1  w R) h
/-- aqueduct/bson.tried$1 -/
def c_bson_tried_1 (p_0 : Option Addr) (w : World) (R : Ending → World → Prop) : Prop :=
 False
theorem e_bson_tried_1 (p_0 : Option Addr) (w : World) (R : Ending → World → Prop) : funcX pg T bl Tryd.f59 [(.pointer p_0)] w R = c_bson_tried_1 p_0  w R := by kernel_rfl
theorem of_bson_tried_1 (p_0 : Option Addr) {w : World} {R : Ending → World → Prop} (h : c_bson_tried_1 p_0  w R) : Calls pg f_bson_tried_1 #[(.pointer p_0)] w R :=
  funcX_of mixed tok blok Tryd.func59 (args := [(.pointer p_0)]) (e_bson_tried_1 p_0  w R) h
/-- (*aqueduct/bson.weigher).add -/
def c_Pbson_weigher_add (w_0 : Option Addr) (n_1 : Int) (w : World) (R : Ending → World → Prop) : Prop :=
 (withSome w_0 fun (a0 : Addr) =>
 ∃ x1 : Int, w.cell? a0 = some (.int .i64 x1) ∧
 (CallR pg f_bson_must [(.bool (decide (n_1 ≤ (IntKind.i64.wrap ((65536 : Int) - x1))))), (.int .i64 (1 : Int))] w (fun ch w => R (.panicked ch) w) fun v2 w3 =>
 v2 = (.tuple #[]) ∧
 (withSome w_0 fun (a4 : Addr) =>
 ∃ x5 : Int, w3.cell? a4 = some (.int .i64 x5) ∧
 (withSome w_0 fun (a6 : Addr) =>
 (St w3 a6 (.int .i64 (IntKind.i64.wrap (x5 + n_1))) fun w7 =>
 R (.returned (.tuple #[])) w7)))))
theorem e_Pbson_weigher_add (w_0 : Option Addr) (n_1 : Int) (w : World) (R : Ending → World → Prop) : funcX pg T bl Tryd.f61 [(.pointer w_0), (.int .i64 n_1)] w R = c_Pbson_weigher_add w_0  n_1  w R := by kernel_rfl
theorem of_Pbson_weigher_add (w_0 : Option Addr) (n_1 : Int) {w : World} {R : Ending → World → Prop} (h : c_Pbson_weigher_add w_0  n_1  w R) : Calls pg f_Pbson_weigher_add #[(.pointer w_0), (.int .i64 n_1)] w R :=
  funcX_of mixed tok blok Tryd.func61 (args := [(.pointer w_0), (.int .i64 n_1)]) (e_Pbson_weigher_add w_0  n_1  w R) h
/-- cmp.Compare[int64] -/
def c_cmp_Compare_int64 (x_0 : Int) (y_1 : Int) (w : World) (R : Ending → World → Prop) : Prop :=
 (CallR pg f_cmp_isNaN_int64 [(.int .i64 x_0)] w (fun ch w => R (.panicked ch) w) fun v0 w1 =>
 ∃ y2 : Bool, v0 = (.bool y2) ∧
 (CallR pg f_cmp_isNaN_int64 [(.int .i64 y_1)] w1 (fun ch w => R (.panicked ch) w) fun v3 w4 =>
 ∃ y5 : Bool, v3 = (.bool y5) ∧
 (cond y2
 ((cond y5
 (R (.returned (.int .i64 (0 : Int))) w4)
 (R (.returned (.int .i64 (-1 : Int))) w4)))
 ((cond y5
 (R (.returned (.int .i64 (1 : Int))) w4)
 ((cond (decide (x_0 < y_1))
 (R (.returned (.int .i64 (-1 : Int))) w4)
 ((cond (decide (x_0 > y_1))
 (R (.returned (.int .i64 (1 : Int))) w4)
 (R (.returned (.int .i64 (0 : Int))) w4))))))))))
theorem e_cmp_Compare_int64 (x_0 : Int) (y_1 : Int) (w : World) (R : Ending → World → Prop) : funcX pg T bl Tryd.f67 [(.int .i64 x_0), (.int .i64 y_1)] w R = c_cmp_Compare_int64 x_0  y_1  w R := by kernel_rfl
theorem of_cmp_Compare_int64 (x_0 : Int) (y_1 : Int) {w : World} {R : Ending → World → Prop} (h : c_cmp_Compare_int64 x_0  y_1  w R) : Calls pg f_cmp_Compare_int64 #[(.int .i64 x_0), (.int .i64 y_1)] w R :=
  funcX_of mixed tok blok Tryd.func67 (args := [(.int .i64 x_0), (.int .i64 y_1)]) (e_cmp_Compare_int64 x_0  y_1  w R) h
/-- aqueduct/order.way$3 -/
def c_order_way_3 (a_0x0 : Int) (a_0x1 : Int) (a_0x2 : ByteArray) (a_0x3 : Option Addr) (a_0x3l a_0x3c : Nat) (a_0x4 : Option Addr) (a_0x4l a_0x4c : Nat) (a_0x5 : Option Addr) (a_0x5l a_0x5c : Nat) (b_1x0 : Int) (b_1x1 : Int) (b_1x2 : ByteArray) (b_1x3 : Option Addr) (b_1x3l b_1x3c : Nat) (b_1x4 : Option Addr) (b_1x4l b_1x4c : Nat) (b_1x5 : Option Addr) (b_1x5l b_1x5c : Nat) (w : World) (R : Ending → World → Prop) : Prop :=
 (New w (.cells #[(.int .i64 a_0x0), (.int .i64 a_0x1), (.string a_0x2), (.slice a_0x3 a_0x3l a_0x3c), (.slice a_0x4 a_0x4l a_0x4c), (.slice a_0x5 a_0x5l a_0x5c)] t_api_Value (0, 0)) fun b0 w1 =>
 (New w1 (.cells #[(.int .i64 b_1x0), (.int .i64 b_1x1), (.string b_1x2), (.slice b_1x3 b_1x3l b_1x3c), (.slice b_1x4 b_1x4l b_1x4c), (.slice b_1x5 b_1x5l b_1x5c)] t_api_Value (0, 0)) fun b2 w3 =>
 ∃ (x4 : Option Addr) (l5 c6 : Nat), w3.cell? ⟨b0, 4, none⟩ = some (.slice x4 l5 c6) ∧
 ∃ (x7 : Option Addr) (l8 c9 : Nat), w3.cell? ⟨b2, 4, none⟩ = some (.slice x7 l8 c9) ∧
 (CallR pg f_slices_CompareFunc_Sapi_Field_Sapi_Field_api_Field_api_Field [(.slice x4 l5 c6), (.slice x7 l8 c9), (.func (.func f_order_fields) #[] #[])] w3 (fun ch w => R (.panicked ch) w) fun v10 w11 =>
 ∃ y12 : Int, v10 = (.int .i64 y12) ∧
 R (.returned (.int .i64 y12)) w11)))
theorem e_order_way_3 (a_0x0 : Int) (a_0x1 : Int) (a_0x2 : ByteArray) (a_0x3 : Option Addr) (a_0x3l a_0x3c : Nat) (a_0x4 : Option Addr) (a_0x4l a_0x4c : Nat) (a_0x5 : Option Addr) (a_0x5l a_0x5c : Nat) (b_1x0 : Int) (b_1x1 : Int) (b_1x2 : ByteArray) (b_1x3 : Option Addr) (b_1x3l b_1x3c : Nat) (b_1x4 : Option Addr) (b_1x4l b_1x4c : Nat) (b_1x5 : Option Addr) (b_1x5l b_1x5c : Nat) (w : World) (R : Ending → World → Prop) : funcX pg T bl Tryd.f70 [(.agg #[(.int .i64 a_0x0), (.int .i64 a_0x1), (.string a_0x2), (.slice a_0x3 a_0x3l a_0x3c), (.slice a_0x4 a_0x4l a_0x4c), (.slice a_0x5 a_0x5l a_0x5c)]), (.agg #[(.int .i64 b_1x0), (.int .i64 b_1x1), (.string b_1x2), (.slice b_1x3 b_1x3l b_1x3c), (.slice b_1x4 b_1x4l b_1x4c), (.slice b_1x5 b_1x5l b_1x5c)])] w R = c_order_way_3 a_0x0  a_0x1  a_0x2  a_0x3 a_0x3l a_0x3c  a_0x4 a_0x4l a_0x4c  a_0x5 a_0x5l a_0x5c  b_1x0  b_1x1  b_1x2  b_1x3 b_1x3l b_1x3c  b_1x4 b_1x4l b_1x4c  b_1x5 b_1x5l b_1x5c  w R := by kernel_rfl
theorem of_order_way_3 (a_0x0 : Int) (a_0x1 : Int) (a_0x2 : ByteArray) (a_0x3 : Option Addr) (a_0x3l a_0x3c : Nat) (a_0x4 : Option Addr) (a_0x4l a_0x4c : Nat) (a_0x5 : Option Addr) (a_0x5l a_0x5c : Nat) (b_1x0 : Int) (b_1x1 : Int) (b_1x2 : ByteArray) (b_1x3 : Option Addr) (b_1x3l b_1x3c : Nat) (b_1x4 : Option Addr) (b_1x4l b_1x4c : Nat) (b_1x5 : Option Addr) (b_1x5l b_1x5c : Nat) {w : World} {R : Ending → World → Prop} (h : c_order_way_3 a_0x0  a_0x1  a_0x2  a_0x3 a_0x3l a_0x3c  a_0x4 a_0x4l a_0x4c  a_0x5 a_0x5l a_0x5c  b_1x0  b_1x1  b_1x2  b_1x3 b_1x3l b_1x3c  b_1x4 b_1x4l b_1x4c  b_1x5 b_1x5l b_1x5c  w R) : Calls pg f_order_way_3 #[(.agg #[(.int .i64 a_0x0), (.int .i64 a_0x1), (.string a_0x2), (.slice a_0x3 a_0x3l a_0x3c), (.slice a_0x4 a_0x4l a_0x4c), (.slice a_0x5 a_0x5l a_0x5c)]), (.agg #[(.int .i64 b_1x0), (.int .i64 b_1x1), (.string b_1x2), (.slice b_1x3 b_1x3l b_1x3c), (.slice b_1x4 b_1x4l b_1x4c), (.slice b_1x5 b_1x5l b_1x5c)])] w R :=
  funcX_of mixed tok blok Tryd.func70 (args := [(.agg #[(.int .i64 a_0x0), (.int .i64 a_0x1), (.string a_0x2), (.slice a_0x3 a_0x3l a_0x3c), (.slice a_0x4 a_0x4l a_0x4c), (.slice a_0x5 a_0x5l a_0x5c)]), (.agg #[(.int .i64 b_1x0), (.int .i64 b_1x1), (.string b_1x2), (.slice b_1x3 b_1x3l b_1x3c), (.slice b_1x4 b_1x4l b_1x4c), (.slice b_1x5 b_1x5l b_1x5c)])]) (e_order_way_3 a_0x0  a_0x1  a_0x2  a_0x3 a_0x3l a_0x3c  a_0x4 a_0x4l a_0x4c  a_0x5 a_0x5l a_0x5c  b_1x0  b_1x1  b_1x2  b_1x3 b_1x3l b_1x3c  b_1x4 b_1x4l b_1x4c  b_1x5 b_1x5l b_1x5c  w R) h
/-- aqueduct/order.fields -/
def c_order_fields (a_0x0 : ByteArray) (a_0x1 : Int) (a_0x2 : Int) (a_0x3 : ByteArray) (a_0x4 : Option Addr) (a_0x4l a_0x4c : Nat) (a_0x5 : Option Addr) (a_0x5l a_0x5c : Nat) (a_0x6 : Option Addr) (a_0x6l a_0x6c : Nat) (b_1x0 : ByteArray) (b_1x1 : Int) (b_1x2 : Int) (b_1x3 : ByteArray) (b_1x4 : Option Addr) (b_1x4l b_1x4c : Nat) (b_1x5 : Option Addr) (b_1x5l b_1x5c : Nat) (b_1x6 : Option Addr) (b_1x6l b_1x6c : Nat) (w : World) (R : Ending → World → Prop) : Prop :=
 (New w (.cells #[(.string a_0x0), (.int .i64 a_0x1), (.int .i64 a_0x2), (.string a_0x3), (.slice a_0x4 a_0x4l a_0x4c), (.slice a_0x5 a_0x5l a_0x5c), (.slice a_0x6 a_0x6l a_0x6c)] t_api_Field (0, 0)) fun b0 w1 =>
 (New w1 (.cells #[(.string b_1x0), (.int .i64 b_1x1), (.int .i64 b_1x2), (.string b_1x3), (.slice b_1x4 b_1x4l b_1x4c), (.slice b_1x5 b_1x5l b_1x5c), (.slice b_1x6 b_1x6l b_1x6c)] t_api_Field (0, 0)) fun b2 w3 =>
 (Drew w3 fun w4 =>
 ∃ x5 : Int, w4.cell? ⟨b0, 1, none⟩ = some (.int .i64 x5) ∧
 ∃ x6 : Int, w4.cell? ⟨b2, 1, none⟩ = some (.int .i64 x6) ∧
 ∃ x7 : ByteArray, w4.cell? ⟨b0, 0, none⟩ = some (.string x7) ∧
 ∃ x8 : ByteArray, w4.cell? ⟨b2, 0, none⟩ = some (.string x8) ∧
 ∃ x9 : Int, w4.cell? ⟨b0, 1, none⟩ = some (.int .i64 x9) ∧
 ∃ x10 : Int, w4.cell? ⟨b0, 2, none⟩ = some (.int .i64 x10) ∧
 ∃ x11 : ByteArray, w4.cell? ⟨b0, 3, none⟩ = some (.string x11) ∧
 ∃ (x12 : Option Addr) (l13 c14 : Nat), w4.cell? ⟨b0, 4, none⟩ = some (.slice x12 l13 c14) ∧
 ∃ (x15 : Option Addr) (l16 c17 : Nat), w4.cell? ⟨b0, 5, none⟩ = some (.slice x15 l16 c17) ∧
 ∃ (x18 : Option Addr) (l19 c20 : Nat), w4.cell? ⟨b0, 6, none⟩ = some (.slice x18 l19 c20) ∧
 ∃ x21 : Int, w4.cell? ⟨b2, 1, none⟩ = some (.int .i64 x21) ∧
 ∃ x22 : Int, w4.cell? ⟨b2, 2, none⟩ = some (.int .i64 x22) ∧
 ∃ x23 : ByteArray, w4.cell? ⟨b2, 3, none⟩ = some (.string x23) ∧
 ∃ (x24 : Option Addr) (l25 c26 : Nat), w4.cell? ⟨b2, 4, none⟩ = some (.slice x24 l25 c26) ∧
 ∃ (x27 : Option Addr) (l28 c29 : Nat), w4.cell? ⟨b2, 5, none⟩ = some (.slice x27 l28 c29) ∧
 ∃ (x30 : Option Addr) (l31 c32 : Nat), w4.cell? ⟨b2, 6, none⟩ = some (.slice x30 l31 c32) ∧
 (CallR pg f_order_Class [(.int .i64 x5)] w4 (fun ch w => R (.panicked ch) w) fun v33 w34 =>
 ∃ y35 : Int, v33 = (.int .i64 y35) ∧
 (w34.cell? ⟨b2, 1, none⟩ = some (.int .i64 x21) ∧ w34.cell? ⟨b2, 2, none⟩ = some (.int .i64 x22) ∧ w34.cell? ⟨b2, 3, none⟩ = some (.string x23) ∧ w34.cell? ⟨b2, 4, none⟩ = some (.slice x24 l25 c26) ∧ w34.cell? ⟨b2, 5, none⟩ = some (.slice x27 l28 c29) ∧ w34.cell? ⟨b2, 6, none⟩ = some (.slice x30 l31 c32)) ∧ (w34.cell? ⟨b0, 1, none⟩ = some (.int .i64 x9) ∧ w34.cell? ⟨b0, 2, none⟩ = some (.int .i64 x10) ∧ w34.cell? ⟨b0, 3, none⟩ = some (.string x11) ∧ w34.cell? ⟨b0, 4, none⟩ = some (.slice x12 l13 c14) ∧ w34.cell? ⟨b0, 5, none⟩ = some (.slice x15 l16 c17) ∧ w34.cell? ⟨b0, 6, none⟩ = some (.slice x18 l19 c20)) ∧ (w34.cell? ⟨b2, 0, none⟩ = some (.string x8)) ∧ (w34.cell? ⟨b0, 0, none⟩ = some (.string x7)) ∧ (w34.cell? ⟨b2, 1, none⟩ = some (.int .i64 x6)) ∧ (CallR pg f_order_Class [(.int .i64 x6)] w34 (fun ch w => R (.panicked ch) w) fun v36 w37 =>
 ∃ y38 : Int, v36 = (.int .i64 y38) ∧
 (w37.cell? ⟨b2, 1, none⟩ = some (.int .i64 x21) ∧ w37.cell? ⟨b2, 2, none⟩ = some (.int .i64 x22) ∧ w37.cell? ⟨b2, 3, none⟩ = some (.string x23) ∧ w37.cell? ⟨b2, 4, none⟩ = some (.slice x24 l25 c26) ∧ w37.cell? ⟨b2, 5, none⟩ = some (.slice x27 l28 c29) ∧ w37.cell? ⟨b2, 6, none⟩ = some (.slice x30 l31 c32)) ∧ (w37.cell? ⟨b0, 1, none⟩ = some (.int .i64 x9) ∧ w37.cell? ⟨b0, 2, none⟩ = some (.int .i64 x10) ∧ w37.cell? ⟨b0, 3, none⟩ = some (.string x11) ∧ w37.cell? ⟨b0, 4, none⟩ = some (.slice x12 l13 c14) ∧ w37.cell? ⟨b0, 5, none⟩ = some (.slice x15 l16 c17) ∧ w37.cell? ⟨b0, 6, none⟩ = some (.slice x18 l19 c20)) ∧ (w37.cell? ⟨b2, 0, none⟩ = some (.string x8)) ∧ (w37.cell? ⟨b0, 0, none⟩ = some (.string x7)) ∧ (CallR pg f_cmp_Compare_int [(.int .i64 y35), (.int .i64 y38)] w37 (fun ch w => R (.panicked ch) w) fun v39 w40 =>
 ∃ y41 : Int, v39 = (.int .i64 y41) ∧
 (w40.cell? ⟨b2, 1, none⟩ = some (.int .i64 x21) ∧ w40.cell? ⟨b2, 2, none⟩ = some (.int .i64 x22) ∧ w40.cell? ⟨b2, 3, none⟩ = some (.string x23) ∧ w40.cell? ⟨b2, 4, none⟩ = some (.slice x24 l25 c26) ∧ w40.cell? ⟨b2, 5, none⟩ = some (.slice x27 l28 c29) ∧ w40.cell? ⟨b2, 6, none⟩ = some (.slice x30 l31 c32)) ∧ (w40.cell? ⟨b0, 1, none⟩ = some (.int .i64 x9) ∧ w40.cell? ⟨b0, 2, none⟩ = some (.int .i64 x10) ∧ w40.cell? ⟨b0, 3, none⟩ = some (.string x11) ∧ w40.cell? ⟨b0, 4, none⟩ = some (.slice x12 l13 c14) ∧ w40.cell? ⟨b0, 5, none⟩ = some (.slice x15 l16 c17) ∧ w40.cell? ⟨b0, 6, none⟩ = some (.slice x18 l19 c20)) ∧ (w40.cell? ⟨b2, 0, none⟩ = some (.string x8)) ∧ (w40.cell? ⟨b0, 0, none⟩ = some (.string x7)) ∧ (CallR pg f_cmp_Compare_string [(.string x7), (.string x8)] w40 (fun ch w => R (.panicked ch) w) fun v42 w43 =>
 ∃ y44 : Int, v42 = (.int .i64 y44) ∧
 (w43.cell? ⟨b2, 1, none⟩ = some (.int .i64 x21) ∧ w43.cell? ⟨b2, 2, none⟩ = some (.int .i64 x22) ∧ w43.cell? ⟨b2, 3, none⟩ = some (.string x23) ∧ w43.cell? ⟨b2, 4, none⟩ = some (.slice x24 l25 c26) ∧ w43.cell? ⟨b2, 5, none⟩ = some (.slice x27 l28 c29) ∧ w43.cell? ⟨b2, 6, none⟩ = some (.slice x30 l31 c32)) ∧ (w43.cell? ⟨b0, 1, none⟩ = some (.int .i64 x9) ∧ w43.cell? ⟨b0, 2, none⟩ = some (.int .i64 x10) ∧ w43.cell? ⟨b0, 3, none⟩ = some (.string x11) ∧ w43.cell? ⟨b0, 4, none⟩ = some (.slice x12 l13 c14) ∧ w43.cell? ⟨b0, 5, none⟩ = some (.slice x15 l16 c17) ∧ w43.cell? ⟨b0, 6, none⟩ = some (.slice x18 l19 c20)) ∧ (CallR pg f_order_Compare [(.agg #[(.int .i64 x9), (.int .i64 x10), (.string x11), (.slice x12 l13 c14), (.slice x15 l16 c17), (.slice x18 l19 c20)]), (.agg #[(.int .i64 x21), (.int .i64 x22), (.string x23), (.slice x24 l25 c26), (.slice x27 l28 c29), (.slice x30 l31 c32)])] w43 (fun ch w => R (.panicked ch) w) fun v45 w46 =>
 ∃ y47 : Int, v45 = (.int .i64 y47) ∧
 (New w46 (.cells #[(.int .i64 y41), (.int .i64 y44), (.int .i64 y47)] t_int (0, 0)) fun b48 w49 =>
 (CallR pg f_cmp_Or_int [(.slice (some (⟨b48, 0, none⟩ : Addr)) 3 3)] w49 (fun ch w => R (.panicked ch) w) fun v50 w51 =>
 ∃ y52 : Int, v50 = (.int .i64 y52) ∧
 R (.returned (.int .i64 y52)) w51))))))))))
theorem e_order_fields (a_0x0 : ByteArray) (a_0x1 : Int) (a_0x2 : Int) (a_0x3 : ByteArray) (a_0x4 : Option Addr) (a_0x4l a_0x4c : Nat) (a_0x5 : Option Addr) (a_0x5l a_0x5c : Nat) (a_0x6 : Option Addr) (a_0x6l a_0x6c : Nat) (b_1x0 : ByteArray) (b_1x1 : Int) (b_1x2 : Int) (b_1x3 : ByteArray) (b_1x4 : Option Addr) (b_1x4l b_1x4c : Nat) (b_1x5 : Option Addr) (b_1x5l b_1x5c : Nat) (b_1x6 : Option Addr) (b_1x6l b_1x6c : Nat) (w : World) (R : Ending → World → Prop) : funcX pg T bl Tryd.f72 [(.agg #[(.string a_0x0), (.int .i64 a_0x1), (.int .i64 a_0x2), (.string a_0x3), (.slice a_0x4 a_0x4l a_0x4c), (.slice a_0x5 a_0x5l a_0x5c), (.slice a_0x6 a_0x6l a_0x6c)]), (.agg #[(.string b_1x0), (.int .i64 b_1x1), (.int .i64 b_1x2), (.string b_1x3), (.slice b_1x4 b_1x4l b_1x4c), (.slice b_1x5 b_1x5l b_1x5c), (.slice b_1x6 b_1x6l b_1x6c)])] w R = c_order_fields a_0x0  a_0x1  a_0x2  a_0x3  a_0x4 a_0x4l a_0x4c  a_0x5 a_0x5l a_0x5c  a_0x6 a_0x6l a_0x6c  b_1x0  b_1x1  b_1x2  b_1x3  b_1x4 b_1x4l b_1x4c  b_1x5 b_1x5l b_1x5c  b_1x6 b_1x6l b_1x6c  w R := by kernel_rfl
theorem of_order_fields (a_0x0 : ByteArray) (a_0x1 : Int) (a_0x2 : Int) (a_0x3 : ByteArray) (a_0x4 : Option Addr) (a_0x4l a_0x4c : Nat) (a_0x5 : Option Addr) (a_0x5l a_0x5c : Nat) (a_0x6 : Option Addr) (a_0x6l a_0x6c : Nat) (b_1x0 : ByteArray) (b_1x1 : Int) (b_1x2 : Int) (b_1x3 : ByteArray) (b_1x4 : Option Addr) (b_1x4l b_1x4c : Nat) (b_1x5 : Option Addr) (b_1x5l b_1x5c : Nat) (b_1x6 : Option Addr) (b_1x6l b_1x6c : Nat) {w : World} {R : Ending → World → Prop} (h : c_order_fields a_0x0  a_0x1  a_0x2  a_0x3  a_0x4 a_0x4l a_0x4c  a_0x5 a_0x5l a_0x5c  a_0x6 a_0x6l a_0x6c  b_1x0  b_1x1  b_1x2  b_1x3  b_1x4 b_1x4l b_1x4c  b_1x5 b_1x5l b_1x5c  b_1x6 b_1x6l b_1x6c  w R) : Calls pg f_order_fields #[(.agg #[(.string a_0x0), (.int .i64 a_0x1), (.int .i64 a_0x2), (.string a_0x3), (.slice a_0x4 a_0x4l a_0x4c), (.slice a_0x5 a_0x5l a_0x5c), (.slice a_0x6 a_0x6l a_0x6c)]), (.agg #[(.string b_1x0), (.int .i64 b_1x1), (.int .i64 b_1x2), (.string b_1x3), (.slice b_1x4 b_1x4l b_1x4c), (.slice b_1x5 b_1x5l b_1x5c), (.slice b_1x6 b_1x6l b_1x6c)])] w R :=
  funcX_of mixed tok blok Tryd.func72 (args := [(.agg #[(.string a_0x0), (.int .i64 a_0x1), (.int .i64 a_0x2), (.string a_0x3), (.slice a_0x4 a_0x4l a_0x4c), (.slice a_0x5 a_0x5l a_0x5c), (.slice a_0x6 a_0x6l a_0x6c)]), (.agg #[(.string b_1x0), (.int .i64 b_1x1), (.int .i64 b_1x2), (.string b_1x3), (.slice b_1x4 b_1x4l b_1x4c), (.slice b_1x5 b_1x5l b_1x5c), (.slice b_1x6 b_1x6l b_1x6c)])]) (e_order_fields a_0x0  a_0x1  a_0x2  a_0x3  a_0x4 a_0x4l a_0x4c  a_0x5 a_0x5l a_0x5c  a_0x6 a_0x6l a_0x6c  b_1x0  b_1x1  b_1x2  b_1x3  b_1x4 b_1x4l b_1x4c  b_1x5 b_1x5l b_1x5c  b_1x6 b_1x6l b_1x6c  w R) h
/-- slices.CompareFunc[[]aqueduct/api.Value,[]aqueduct/api.Value,aqueduct/api.Value,aqueduct/api.Value] -/
def c_slices_CompareFunc_Sapi_Value_Sapi_Value_api_Value_api_Value (s1_0 : Option Addr) (s1_0l s1_0c : Nat) (s2_1 : Option Addr) (s2_1l s2_1c : Nat) (cmp_2 : Value) (w : World) (R : Ending → World → Prop) : Prop :=
 (Eng.Loop (σ := Int × Int) (fun X0 s1 w2 =>
 ∀ j3 : Nat → Value, (cond (decide (s1.2 < ((s1_0l : Nat) : Int)))
 ((withSome s1_0 fun (a4 : Addr) =>
 (0 ≤ s1.2 ∧ s1.2 < ((s1_0l : Nat) : Int)) ∧
 ∃ x5 : Int, w2.cell? (a4.add ((s1.2).toNat * 6)) = some (.int .i64 x5) ∧
 ∃ x6 : Int, w2.cell? ((a4.add ((s1.2).toNat * 6)).add 1) = some (.int .i64 x6) ∧
 ∃ x7 : ByteArray, w2.cell? ((a4.add ((s1.2).toNat * 6)).add 2) = some (.string x7) ∧
 ∃ (x8 : Option Addr) (l9 c10 : Nat), w2.cell? ((a4.add ((s1.2).toNat * 6)).add 3) = some (.slice x8 l9 c10) ∧
 ∃ (x11 : Option Addr) (l12 c13 : Nat), w2.cell? ((a4.add ((s1.2).toNat * 6)).add 4) = some (.slice x11 l12 c13) ∧
 ∃ (x14 : Option Addr) (l15 c16 : Nat), w2.cell? ((a4.add ((s1.2).toNat * 6)).add 5) = some (.slice x14 l15 c16) ∧
 (New w2 (.cells #[(.int .i64 (0 : Int)), (.int .i64 (0 : Int)), (.string (⟨#[]⟩ : ByteArray)), (.slice none 0 0), (.slice none 0 0), (.slice none 0 0)] t_api_Value (0, 0)) fun b17 w18 =>
 (St w18 ⟨b17, 0, none⟩ (.int .i64 x5) fun w19 =>
 (St w19 ⟨b17, 1, none⟩ (.int .i64 x6) fun w20 =>
 (St w20 ⟨b17, 2, none⟩ (.string x7) fun w21 =>
 (St w21 ⟨b17, 3, none⟩ (.slice x8 l9 c10) fun w22 =>
 (St w22 ⟨b17, 4, none⟩ (.slice x11 l12 c13) fun w23 =>
 (St w23 ⟨b17, 5, none⟩ (.slice x14 l15 c16) fun w24 =>
 (cond (decide (s1.2 ≥ ((s2_1l : Nat) : Int)))
 (R (.returned (.int .i64 (1 : Int))) w24)
 ((withSome s2_1 fun (a25 : Addr) =>
 (0 ≤ s1.2 ∧ s1.2 < ((s2_1l : Nat) : Int)) ∧
 ∃ x26 : Int, w24.cell? (a25.add ((s1.2).toNat * 6)) = some (.int .i64 x26) ∧
 ∃ x27 : Int, w24.cell? ((a25.add ((s1.2).toNat * 6)).add 1) = some (.int .i64 x27) ∧
 ∃ x28 : ByteArray, w24.cell? ((a25.add ((s1.2).toNat * 6)).add 2) = some (.string x28) ∧
 ∃ (x29 : Option Addr) (l30 c31 : Nat), w24.cell? ((a25.add ((s1.2).toNat * 6)).add 3) = some (.slice x29 l30 c31) ∧
 ∃ (x32 : Option Addr) (l33 c34 : Nat), w24.cell? ((a25.add ((s1.2).toNat * 6)).add 4) = some (.slice x32 l33 c34) ∧
 ∃ (x35 : Option Addr) (l36 c37 : Nat), w24.cell? ((a25.add ((s1.2).toNat * 6)).add 5) = some (.slice x35 l36 c37) ∧
 (New w24 (.cells #[(.int .i64 (0 : Int)), (.int .i64 (0 : Int)), (.string (⟨#[]⟩ : ByteArray)), (.slice none 0 0), (.slice none 0 0), (.slice none 0 0)] t_api_Value (0, 0)) fun b38 w39 =>
 (St w39 ⟨b38, 0, none⟩ (.int .i64 x26) fun w40 =>
 (St w40 ⟨b38, 1, none⟩ (.int .i64 x27) fun w41 =>
 (St w41 ⟨b38, 2, none⟩ (.string x28) fun w42 =>
 (St w42 ⟨b38, 3, none⟩ (.slice x29 l30 c31) fun w43 =>
 (St w43 ⟨b38, 4, none⟩ (.slice x32 l33 c34) fun w44 =>
 (St w44 ⟨b38, 5, none⟩ (.slice x35 l36 c37) fun w45 =>
 ∃ x46 : Int, w45.cell? ⟨b17, 0, none⟩ = some (.int .i64 x46) ∧
 ∃ x47 : Int, w45.cell? ⟨b17, 1, none⟩ = some (.int .i64 x47) ∧
 ∃ x48 : ByteArray, w45.cell? ⟨b17, 2, none⟩ = some (.string x48) ∧
 ∃ (x49 : Option Addr) (l50 c51 : Nat), w45.cell? ⟨b17, 3, none⟩ = some (.slice x49 l50 c51) ∧
 ∃ (x52 : Option Addr) (l53 c54 : Nat), w45.cell? ⟨b17, 4, none⟩ = some (.slice x52 l53 c54) ∧
 ∃ (x55 : Option Addr) (l56 c57 : Nat), w45.cell? ⟨b17, 5, none⟩ = some (.slice x55 l56 c57) ∧
 ∃ x58 : Int, w45.cell? ⟨b38, 0, none⟩ = some (.int .i64 x58) ∧
 ∃ x59 : Int, w45.cell? ⟨b38, 1, none⟩ = some (.int .i64 x59) ∧
 ∃ x60 : ByteArray, w45.cell? ⟨b38, 2, none⟩ = some (.string x60) ∧
 ∃ (x61 : Option Addr) (l62 c63 : Nat), w45.cell? ⟨b38, 3, none⟩ = some (.slice x61 l62 c63) ∧
 ∃ (x64 : Option Addr) (l65 c66 : Nat), w45.cell? ⟨b38, 4, none⟩ = some (.slice x64 l65 c66) ∧
 ∃ (x67 : Option Addr) (l68 c69 : Nat), w45.cell? ⟨b38, 5, none⟩ = some (.slice x67 l68 c69) ∧
 (CallV pg bl cmp_2 [(.agg #[(.int .i64 x46), (.int .i64 x47), (.string x48), (.slice x49 l50 c51), (.slice x52 l53 c54), (.slice x55 l56 c57)]), (.agg #[(.int .i64 x58), (.int .i64 x59), (.string x60), (.slice x61 l62 c63), (.slice x64 l65 c66), (.slice x67 l68 c69)])] w45 (fun ch w => R (.panicked ch) w) fun v70 w71 =>
 ∃ y72 : Int, v70 = (.int .i64 y72) ∧
 (cond (y72 != (0 : Int))
 (R (.returned (.int .i64 y72)) w71)
 (X0 (s1.1, (IntKind.i64.wrap (s1.2 + (1 : Int)))) w71))))))))))))))))))))))
 ((cond (decide (((s1_0l : Nat) : Int) < ((s2_1l : Nat) : Int)))
 (R (.returned (.int .i64 (-1 : Int))) w2)
 (R (.returned (.int .i64 (0 : Int))) w2))))) ((0 : Int), (0 : Int)) w)
theorem e_slices_CompareFunc_Sapi_Value_Sapi_Value_api_Value_api_Value (s1_0 : Option Addr) (s1_0l s1_0c : Nat) (s2_1 : Option Addr) (s2_1l s2_1c : Nat) (cmp_2 : Value) (w : World) (R : Ending → World → Prop) : funcX pg T bl Tryd.f74 [(.slice s1_0 s1_0l s1_0c), (.slice s2_1 s2_1l s2_1c), cmp_2] w R = c_slices_CompareFunc_Sapi_Value_Sapi_Value_api_Value_api_Value s1_0 s1_0l s1_0c  s2_1 s2_1l s2_1c  cmp_2  w R := by kernel_rfl
theorem of_slices_CompareFunc_Sapi_Value_Sapi_Value_api_Value_api_Value (s1_0 : Option Addr) (s1_0l s1_0c : Nat) (s2_1 : Option Addr) (s2_1l s2_1c : Nat) (cmp_2 : Value) {w : World} {R : Ending → World → Prop} (h : c_slices_CompareFunc_Sapi_Value_Sapi_Value_api_Value_api_Value s1_0 s1_0l s1_0c  s2_1 s2_1l s2_1c  cmp_2  w R) : Calls pg f_slices_CompareFunc_Sapi_Value_Sapi_Value_api_Value_api_Value #[(.slice s1_0 s1_0l s1_0c), (.slice s2_1 s2_1l s2_1c), cmp_2] w R :=
  funcX_of mixed tok blok Tryd.func74 (args := [(.slice s1_0 s1_0l s1_0c), (.slice s2_1 s2_1l s2_1c), cmp_2]) (e_slices_CompareFunc_Sapi_Value_Sapi_Value_api_Value_api_Value s1_0 s1_0l s1_0c  s2_1 s2_1l s2_1c  cmp_2  w R) h
/-- aqueduct/order.way$5 -/
def c_order_way_5 (a_0x0 : Int) (a_0x1 : Int) (a_0x2 : ByteArray) (a_0x3 : Option Addr) (a_0x3l a_0x3c : Nat) (a_0x4 : Option Addr) (a_0x4l a_0x4c : Nat) (a_0x5 : Option Addr) (a_0x5l a_0x5c : Nat) (b_1x0 : Int) (b_1x1 : Int) (b_1x2 : ByteArray) (b_1x3 : Option Addr) (b_1x3l b_1x3c : Nat) (b_1x4 : Option Addr) (b_1x4l b_1x4c : Nat) (b_1x5 : Option Addr) (b_1x5l b_1x5c : Nat) (w : World) (R : Ending → World → Prop) : Prop :=
 (New w (.cells #[(.int .i64 a_0x0), (.int .i64 a_0x1), (.string a_0x2), (.slice a_0x3 a_0x3l a_0x3c), (.slice a_0x4 a_0x4l a_0x4c), (.slice a_0x5 a_0x5l a_0x5c)] t_api_Value (0, 0)) fun b0 w1 =>
 (New w1 (.cells #[(.int .i64 b_1x0), (.int .i64 b_1x1), (.string b_1x2), (.slice b_1x3 b_1x3l b_1x3c), (.slice b_1x4 b_1x4l b_1x4c), (.slice b_1x5 b_1x5l b_1x5c)] t_api_Value (0, 0)) fun b2 w3 =>
 (Drew w3 fun w4 =>
 ∃ (x5 : Option Addr) (l6 c7 : Nat), w4.cell? ⟨b0, 3, none⟩ = some (.slice x5 l6 c7) ∧
 ∃ (x8 : Option Addr) (l9 c10 : Nat), w4.cell? ⟨b2, 3, none⟩ = some (.slice x8 l9 c10) ∧
 ∃ (x11 : Option Addr) (l12 c13 : Nat), w4.cell? ⟨b0, 3, none⟩ = some (.slice x11 l12 c13) ∧
 ∃ (x14 : Option Addr) (l15 c16 : Nat), w4.cell? ⟨b2, 3, none⟩ = some (.slice x14 l15 c16) ∧
 (CallR pg f_cmp_Compare_int [(.int .i64 ((l6 : Nat) : Int)), (.int .i64 ((l9 : Nat) : Int))] w4 (fun ch w => R (.panicked ch) w) fun v17 w18 =>
 ∃ y19 : Int, v17 = (.int .i64 y19) ∧
 (w18.cell? ⟨b2, 3, none⟩ = some (.slice x14 l15 c16)) ∧ (w18.cell? ⟨b0, 3, none⟩ = some (.slice x11 l12 c13)) ∧ (CallR pg f_bytes_Compare [(.slice x11 l12 c13), (.slice x14 l15 c16)] w18 (fun ch w => R (.panicked ch) w) fun v20 w21 =>
 ∃ y22 : Int, v20 = (.int .i64 y22) ∧
 (New w21 (.cells #[(.int .i64 y19), (.int .i64 y22)] t_int (0, 0)) fun b23 w24 =>
 (CallR pg f_cmp_Or_int [(.slice (some (⟨b23, 0, none⟩ : Addr)) 2 2)] w24 (fun ch w => R (.panicked ch) w) fun v25 w26 =>
 ∃ y27 : Int, v25 = (.int .i64 y27) ∧
 R (.returned (.int .i64 y27)) w26)))))))
theorem e_order_way_5 (a_0x0 : Int) (a_0x1 : Int) (a_0x2 : ByteArray) (a_0x3 : Option Addr) (a_0x3l a_0x3c : Nat) (a_0x4 : Option Addr) (a_0x4l a_0x4c : Nat) (a_0x5 : Option Addr) (a_0x5l a_0x5c : Nat) (b_1x0 : Int) (b_1x1 : Int) (b_1x2 : ByteArray) (b_1x3 : Option Addr) (b_1x3l b_1x3c : Nat) (b_1x4 : Option Addr) (b_1x4l b_1x4c : Nat) (b_1x5 : Option Addr) (b_1x5l b_1x5c : Nat) (w : World) (R : Ending → World → Prop) : funcX pg T bl Tryd.f75 [(.agg #[(.int .i64 a_0x0), (.int .i64 a_0x1), (.string a_0x2), (.slice a_0x3 a_0x3l a_0x3c), (.slice a_0x4 a_0x4l a_0x4c), (.slice a_0x5 a_0x5l a_0x5c)]), (.agg #[(.int .i64 b_1x0), (.int .i64 b_1x1), (.string b_1x2), (.slice b_1x3 b_1x3l b_1x3c), (.slice b_1x4 b_1x4l b_1x4c), (.slice b_1x5 b_1x5l b_1x5c)])] w R = c_order_way_5 a_0x0  a_0x1  a_0x2  a_0x3 a_0x3l a_0x3c  a_0x4 a_0x4l a_0x4c  a_0x5 a_0x5l a_0x5c  b_1x0  b_1x1  b_1x2  b_1x3 b_1x3l b_1x3c  b_1x4 b_1x4l b_1x4c  b_1x5 b_1x5l b_1x5c  w R := by kernel_rfl
theorem of_order_way_5 (a_0x0 : Int) (a_0x1 : Int) (a_0x2 : ByteArray) (a_0x3 : Option Addr) (a_0x3l a_0x3c : Nat) (a_0x4 : Option Addr) (a_0x4l a_0x4c : Nat) (a_0x5 : Option Addr) (a_0x5l a_0x5c : Nat) (b_1x0 : Int) (b_1x1 : Int) (b_1x2 : ByteArray) (b_1x3 : Option Addr) (b_1x3l b_1x3c : Nat) (b_1x4 : Option Addr) (b_1x4l b_1x4c : Nat) (b_1x5 : Option Addr) (b_1x5l b_1x5c : Nat) {w : World} {R : Ending → World → Prop} (h : c_order_way_5 a_0x0  a_0x1  a_0x2  a_0x3 a_0x3l a_0x3c  a_0x4 a_0x4l a_0x4c  a_0x5 a_0x5l a_0x5c  b_1x0  b_1x1  b_1x2  b_1x3 b_1x3l b_1x3c  b_1x4 b_1x4l b_1x4c  b_1x5 b_1x5l b_1x5c  w R) : Calls pg f_order_way_5 #[(.agg #[(.int .i64 a_0x0), (.int .i64 a_0x1), (.string a_0x2), (.slice a_0x3 a_0x3l a_0x3c), (.slice a_0x4 a_0x4l a_0x4c), (.slice a_0x5 a_0x5l a_0x5c)]), (.agg #[(.int .i64 b_1x0), (.int .i64 b_1x1), (.string b_1x2), (.slice b_1x3 b_1x3l b_1x3c), (.slice b_1x4 b_1x4l b_1x4c), (.slice b_1x5 b_1x5l b_1x5c)])] w R :=
  funcX_of mixed tok blok Tryd.func75 (args := [(.agg #[(.int .i64 a_0x0), (.int .i64 a_0x1), (.string a_0x2), (.slice a_0x3 a_0x3l a_0x3c), (.slice a_0x4 a_0x4l a_0x4c), (.slice a_0x5 a_0x5l a_0x5c)]), (.agg #[(.int .i64 b_1x0), (.int .i64 b_1x1), (.string b_1x2), (.slice b_1x3 b_1x3l b_1x3c), (.slice b_1x4 b_1x4l b_1x4c), (.slice b_1x5 b_1x5l b_1x5c)])]) (e_order_way_5 a_0x0  a_0x1  a_0x2  a_0x3 a_0x3l a_0x3c  a_0x4 a_0x4l a_0x4c  a_0x5 a_0x5l a_0x5c  b_1x0  b_1x1  b_1x2  b_1x3 b_1x3l b_1x3c  b_1x4 b_1x4l b_1x4c  b_1x5 b_1x5l b_1x5c  w R) h
/-- bytes.Compare -/
def c_bytes_Compare (a_0 : Option Addr) (a_0l a_0c : Nat) (b_1 : Option Addr) (b_1l b_1c : Nat) (w : World) (R : Ending → World → Prop) : Prop :=
 (CallX pg f_internal_bytealg_Compare [(.slice a_0 a_0l a_0c), (.slice b_1 b_1l b_1c)] w (fun ch w => R (.panicked ch) w) fun v0 w1 =>
 ∃ y2 : Int, v0 = (.int .i64 y2) ∧
 R (.returned (.int .i64 y2)) w1)
theorem e_bytes_Compare (a_0 : Option Addr) (a_0l a_0c : Nat) (b_1 : Option Addr) (b_1l b_1c : Nat) (w : World) (R : Ending → World → Prop) : funcX pg T bl Tryd.f77 [(.slice a_0 a_0l a_0c), (.slice b_1 b_1l b_1c)] w R = c_bytes_Compare a_0 a_0l a_0c  b_1 b_1l b_1c  w R := by kernel_rfl
theorem of_bytes_Compare (a_0 : Option Addr) (a_0l a_0c : Nat) (b_1 : Option Addr) (b_1l b_1c : Nat) {w : World} {R : Ending → World → Prop} (h : c_bytes_Compare a_0 a_0l a_0c  b_1 b_1l b_1c  w R) : Calls pg f_bytes_Compare #[(.slice a_0 a_0l a_0c), (.slice b_1 b_1l b_1c)] w R :=
  funcX_of mixed tok blok Tryd.func77 (args := [(.slice a_0 a_0l a_0c), (.slice b_1 b_1l b_1c)]) (e_bytes_Compare a_0 a_0l a_0c  b_1 b_1l b_1c  w R) h
/-- aqueduct/order.way$7 -/
def c_order_way_7 (a_0x0 : Int) (a_0x1 : Int) (a_0x2 : ByteArray) (a_0x3 : Option Addr) (a_0x3l a_0x3c : Nat) (a_0x4 : Option Addr) (a_0x4l a_0x4c : Nat) (a_0x5 : Option Addr) (a_0x5l a_0x5c : Nat) (b_1x0 : Int) (b_1x1 : Int) (b_1x2 : ByteArray) (b_1x3 : Option Addr) (b_1x3l b_1x3c : Nat) (b_1x4 : Option Addr) (b_1x4l b_1x4c : Nat) (b_1x5 : Option Addr) (b_1x5l b_1x5c : Nat) (w : World) (R : Ending → World → Prop) : Prop :=
 (New w (.cells #[(.int .i64 a_0x0), (.int .i64 a_0x1), (.string a_0x2), (.slice a_0x3 a_0x3l a_0x3c), (.slice a_0x4 a_0x4l a_0x4c), (.slice a_0x5 a_0x5l a_0x5c)] t_api_Value (0, 0)) fun b0 w1 =>
 (New w1 (.cells #[(.int .i64 b_1x0), (.int .i64 b_1x1), (.string b_1x2), (.slice b_1x3 b_1x3l b_1x3c), (.slice b_1x4 b_1x4l b_1x4c), (.slice b_1x5 b_1x5l b_1x5c)] t_api_Value (0, 0)) fun b2 w3 =>
 R (.returned (.int .i64 (0 : Int))) w3))
theorem e_order_way_7 (a_0x0 : Int) (a_0x1 : Int) (a_0x2 : ByteArray) (a_0x3 : Option Addr) (a_0x3l a_0x3c : Nat) (a_0x4 : Option Addr) (a_0x4l a_0x4c : Nat) (a_0x5 : Option Addr) (a_0x5l a_0x5c : Nat) (b_1x0 : Int) (b_1x1 : Int) (b_1x2 : ByteArray) (b_1x3 : Option Addr) (b_1x3l b_1x3c : Nat) (b_1x4 : Option Addr) (b_1x4l b_1x4c : Nat) (b_1x5 : Option Addr) (b_1x5l b_1x5c : Nat) (w : World) (R : Ending → World → Prop) : funcX pg T bl Tryd.f79 [(.agg #[(.int .i64 a_0x0), (.int .i64 a_0x1), (.string a_0x2), (.slice a_0x3 a_0x3l a_0x3c), (.slice a_0x4 a_0x4l a_0x4c), (.slice a_0x5 a_0x5l a_0x5c)]), (.agg #[(.int .i64 b_1x0), (.int .i64 b_1x1), (.string b_1x2), (.slice b_1x3 b_1x3l b_1x3c), (.slice b_1x4 b_1x4l b_1x4c), (.slice b_1x5 b_1x5l b_1x5c)])] w R = c_order_way_7 a_0x0  a_0x1  a_0x2  a_0x3 a_0x3l a_0x3c  a_0x4 a_0x4l a_0x4c  a_0x5 a_0x5l a_0x5c  b_1x0  b_1x1  b_1x2  b_1x3 b_1x3l b_1x3c  b_1x4 b_1x4l b_1x4c  b_1x5 b_1x5l b_1x5c  w R := by kernel_rfl
theorem of_order_way_7 (a_0x0 : Int) (a_0x1 : Int) (a_0x2 : ByteArray) (a_0x3 : Option Addr) (a_0x3l a_0x3c : Nat) (a_0x4 : Option Addr) (a_0x4l a_0x4c : Nat) (a_0x5 : Option Addr) (a_0x5l a_0x5c : Nat) (b_1x0 : Int) (b_1x1 : Int) (b_1x2 : ByteArray) (b_1x3 : Option Addr) (b_1x3l b_1x3c : Nat) (b_1x4 : Option Addr) (b_1x4l b_1x4c : Nat) (b_1x5 : Option Addr) (b_1x5l b_1x5c : Nat) {w : World} {R : Ending → World → Prop} (h : c_order_way_7 a_0x0  a_0x1  a_0x2  a_0x3 a_0x3l a_0x3c  a_0x4 a_0x4l a_0x4c  a_0x5 a_0x5l a_0x5c  b_1x0  b_1x1  b_1x2  b_1x3 b_1x3l b_1x3c  b_1x4 b_1x4l b_1x4c  b_1x5 b_1x5l b_1x5c  w R) : Calls pg f_order_way_7 #[(.agg #[(.int .i64 a_0x0), (.int .i64 a_0x1), (.string a_0x2), (.slice a_0x3 a_0x3l a_0x3c), (.slice a_0x4 a_0x4l a_0x4c), (.slice a_0x5 a_0x5l a_0x5c)]), (.agg #[(.int .i64 b_1x0), (.int .i64 b_1x1), (.string b_1x2), (.slice b_1x3 b_1x3l b_1x3c), (.slice b_1x4 b_1x4l b_1x4c), (.slice b_1x5 b_1x5l b_1x5c)])] w R :=
  funcX_of mixed tok blok Tryd.func79 (args := [(.agg #[(.int .i64 a_0x0), (.int .i64 a_0x1), (.string a_0x2), (.slice a_0x3 a_0x3l a_0x3c), (.slice a_0x4 a_0x4l a_0x4c), (.slice a_0x5 a_0x5l a_0x5c)]), (.agg #[(.int .i64 b_1x0), (.int .i64 b_1x1), (.string b_1x2), (.slice b_1x3 b_1x3l b_1x3c), (.slice b_1x4 b_1x4l b_1x4c), (.slice b_1x5 b_1x5l b_1x5c)])]) (e_order_way_7 a_0x0  a_0x1  a_0x2  a_0x3 a_0x3l a_0x3c  a_0x4 a_0x4l a_0x4c  a_0x5 a_0x5l a_0x5c  b_1x0  b_1x1  b_1x2  b_1x3 b_1x3l b_1x3c  b_1x4 b_1x4l b_1x4c  b_1x5 b_1x5l b_1x5c  w R) h
/-- internal/strconv.formatBase10 -/
def c_internal_strconv_formatBase10 (a_0 : Option Addr) (a_0l a_0c : Nat) (u_1 : Int) (w : World) (R : Ending → World → Prop) : Prop :=
 (Eng.Loop (σ := Int × Int) (fun X0 s1 w2 =>
 ∀ j3 : Nat → Value, (cond (decide (s1.2 ≥ (8 : Int)))
 ((cond ((100000000 : Int) == 0)
 (False)
 ((cond ((100000000 : Int) == 0)
 (False)
 ((cond ((10000 : Int) == 0)
 (False)
 ((cond ((10000 : Int) == 0)
 (False)
 ((cond ((100 : Int) == 0)
 (False)
 ((cond ((100 : Int) == 0)
 (False)
 ((cond ((100 : Int) == 0)
 (False)
 ((cond ((100 : Int) == 0)
 (False)
 ((Drew w2 fun w4 =>
 (0 ≤ (IntKind.u32.wrap ((IntKind.u32.wrap ((((IntKind.u32.wrap (s1.1.tmod (100000000 : Int))).tmod (10000 : Int)).tmod (100 : Int)) * (2 : Int))) + (1 : Int))) ∧ (IntKind.u32.wrap ((IntKind.u32.wrap ((((IntKind.u32.wrap (s1.1.tmod (100000000 : Int))).tmod (10000 : Int)).tmod (100 : Int)) * (2 : Int))) + (1 : Int))) < (((⟨#[48, 48, 48, 49, 48, 50, 48, 51, 48, 52, 48, 53, 48, 54, 48, 55, 48, 56, 48, 57, 49, 48, 49, 49, 49, 50, 49, 51, 49, 52, 49, 53, 49, 54, 49, 55, 49, 56, 49, 57, 50, 48, 50, 49, 50, 50, 50, 51, 50, 52, 50, 53, 50, 54, 50, 55, 50, 56, 50, 57, 51, 48, 51, 49, 51, 50, 51, 51, 51, 52, 51, 53, 51, 54, 51, 55, 51, 56, 51, 57, 52, 48, 52, 49, 52, 50, 52, 51, 52, 52, 52, 53, 52, 54, 52, 55, 52, 56, 52, 57, 53, 48, 53, 49, 53, 50, 53, 51, 53, 52, 53, 53, 53, 54, 53, 55, 53, 56, 53, 57, 54, 48, 54, 49, 54, 50, 54, 51, 54, 52, 54, 53, 54, 54, 54, 55, 54, 56, 54, 57, 55, 48, 55, 49, 55, 50, 55, 51, 55, 52, 55, 53, 55, 54, 55, 55, 55, 56, 55, 57, 56, 48, 56, 49, 56, 50, 56, 51, 56, 52, 56, 53, 56, 54, 56, 55, 56, 56, 56, 57, 57, 48, 57, 49, 57, 50, 57, 51, 57, 52, 57, 53, 57, 54, 57, 55, 57, 56, 57, 57]⟩ : ByteArray).size : Nat) : Int)) ∧
 (0 ≤ (IntKind.u32.wrap ((((IntKind.u32.wrap (s1.1.tmod (100000000 : Int))).tmod (10000 : Int)).tmod (100 : Int)) * (2 : Int))) ∧ (IntKind.u32.wrap ((((IntKind.u32.wrap (s1.1.tmod (100000000 : Int))).tmod (10000 : Int)).tmod (100 : Int)) * (2 : Int))) < (((⟨#[48, 48, 48, 49, 48, 50, 48, 51, 48, 52, 48, 53, 48, 54, 48, 55, 48, 56, 48, 57, 49, 48, 49, 49, 49, 50, 49, 51, 49, 52, 49, 53, 49, 54, 49, 55, 49, 56, 49, 57, 50, 48, 50, 49, 50, 50, 50, 51, 50, 52, 50, 53, 50, 54, 50, 55, 50, 56, 50, 57, 51, 48, 51, 49, 51, 50, 51, 51, 51, 52, 51, 53, 51, 54, 51, 55, 51, 56, 51, 57, 52, 48, 52, 49, 52, 50, 52, 51, 52, 52, 52, 53, 52, 54, 52, 55, 52, 56, 52, 57, 53, 48, 53, 49, 53, 50, 53, 51, 53, 52, 53, 53, 53, 54, 53, 55, 53, 56, 53, 57, 54, 48, 54, 49, 54, 50, 54, 51, 54, 52, 54, 53, 54, 54, 54, 55, 54, 56, 54, 57, 55, 48, 55, 49, 55, 50, 55, 51, 55, 52, 55, 53, 55, 54, 55, 55, 55, 56, 55, 57, 56, 48, 56, 49, 56, 50, 56, 51, 56, 52, 56, 53, 56, 54, 56, 55, 56, 56, 56, 57, 57, 48, 57, 49, 57, 50, 57, 51, 57, 52, 57, 53, 57, 54, 57, 55, 57, 56, 57, 57]⟩ : ByteArray).size : Nat) : Int)) ∧
 (withSome a_0 fun (a5 : Addr) =>
 (0 ≤ (IntKind.i64.wrap (s1.2 - (1 : Int))) ∧ (IntKind.i64.wrap (s1.2 - (1 : Int))) < ((a_0l : Nat) : Int)) ∧
 (St w4 (a5.add (((IntKind.i64.wrap (s1.2 - (1 : Int)))).toNat * 1)) (.int .u8 (byteAt (⟨#[48, 48, 48, 49, 48, 50, 48, 51, 48, 52, 48, 53, 48, 54, 48, 55, 48, 56, 48, 57, 49, 48, 49, 49, 49, 50, 49, 51, 49, 52, 49, 53, 49, 54, 49, 55, 49, 56, 49, 57, 50, 48, 50, 49, 50, 50, 50, 51, 50, 52, 50, 53, 50, 54, 50, 55, 50, 56, 50, 57, 51, 48, 51, 49, 51, 50, 51, 51, 51, 52, 51, 53, 51, 54, 51, 55, 51, 56, 51, 57, 52, 48, 52, 49, 52, 50, 52, 51, 52, 52, 52, 53, 52, 54, 52, 55, 52, 56, 52, 57, 53, 48, 53, 49, 53, 50, 53, 51, 53, 52, 53, 53, 53, 54, 53, 55, 53, 56, 53, 57, 54, 48, 54, 49, 54, 50, 54, 51, 54, 52, 54, 53, 54, 54, 54, 55, 54, 56, 54, 57, 55, 48, 55, 49, 55, 50, 55, 51, 55, 52, 55, 53, 55, 54, 55, 55, 55, 56, 55, 57, 56, 48, 56, 49, 56, 50, 56, 51, 56, 52, 56, 53, 56, 54, 56, 55, 56, 56, 56, 57, 57, 48, 57, 49, 57, 50, 57, 51, 57, 52, 57, 53, 57, 54, 57, 55, 57, 56, 57, 57]⟩ : ByteArray) ((IntKind.u32.wrap ((IntKind.u32.wrap ((((IntKind.u32.wrap (s1.1.tmod (100000000 : Int))).tmod (10000 : Int)).tmod (100 : Int)) * (2 : Int))) + (1 : Int)))).toNat : Nat)) fun w6 =>
 (withSome a_0 fun (a7 : Addr) =>
 (0 ≤ (IntKind.i64.wrap (s1.2 - (2 : Int))) ∧ (IntKind.i64.wrap (s1.2 - (2 : Int))) < ((a_0l : Nat) : Int)) ∧
 (St w6 (a7.add (((IntKind.i64.wrap (s1.2 - (2 : Int)))).toNat * 1)) (.int .u8 (byteAt (⟨#[48, 48, 48, 49, 48, 50, 48, 51, 48, 52, 48, 53, 48, 54, 48, 55, 48, 56, 48, 57, 49, 48, 49, 49, 49, 50, 49, 51, 49, 52, 49, 53, 49, 54, 49, 55, 49, 56, 49, 57, 50, 48, 50, 49, 50, 50, 50, 51, 50, 52, 50, 53, 50, 54, 50, 55, 50, 56, 50, 57, 51, 48, 51, 49, 51, 50, 51, 51, 51, 52, 51, 53, 51, 54, 51, 55, 51, 56, 51, 57, 52, 48, 52, 49, 52, 50, 52, 51, 52, 52, 52, 53, 52, 54, 52, 55, 52, 56, 52, 57, 53, 48, 53, 49, 53, 50, 53, 51, 53, 52, 53, 53, 53, 54, 53, 55, 53, 56, 53, 57, 54, 48, 54, 49, 54, 50, 54, 51, 54, 52, 54, 53, 54, 54, 54, 55, 54, 56, 54, 57, 55, 48, 55, 49, 55, 50, 55, 51, 55, 52, 55, 53, 55, 54, 55, 55, 55, 56, 55, 57, 56, 48, 56, 49, 56, 50, 56, 51, 56, 52, 56, 53, 56, 54, 56, 55, 56, 56, 56, 57, 57, 48, 57, 49, 57, 50, 57, 51, 57, 52, 57, 53, 57, 54, 57, 55, 57, 56, 57, 57]⟩ : ByteArray) ((IntKind.u32.wrap ((((IntKind.u32.wrap (s1.1.tmod (100000000 : Int))).tmod (10000 : Int)).tmod (100 : Int)) * (2 : Int)))).toNat : Nat)) fun w8 =>
 (Drew w8 fun w9 =>
 (0 ≤ (IntKind.u32.wrap ((IntKind.u32.wrap ((IntKind.u32.wrap (((IntKind.u32.wrap (s1.1.tmod (100000000 : Int))).tmod (10000 : Int)).tdiv (100 : Int))) * (2 : Int))) + (1 : Int))) ∧ (IntKind.u32.wrap ((IntKind.u32.wrap ((IntKind.u32.wrap (((IntKind.u32.wrap (s1.1.tmod (100000000 : Int))).tmod (10000 : Int)).tdiv (100 : Int))) * (2 : Int))) + (1 : Int))) < (((⟨#[48, 48, 48, 49, 48, 50, 48, 51, 48, 52, 48, 53, 48, 54, 48, 55, 48, 56, 48, 57, 49, 48, 49, 49, 49, 50, 49, 51, 49, 52, 49, 53, 49, 54, 49, 55, 49, 56, 49, 57, 50, 48, 50, 49, 50, 50, 50, 51, 50, 52, 50, 53, 50, 54, 50, 55, 50, 56, 50, 57, 51, 48, 51, 49, 51, 50, 51, 51, 51, 52, 51, 53, 51, 54, 51, 55, 51, 56, 51, 57, 52, 48, 52, 49, 52, 50, 52, 51, 52, 52, 52, 53, 52, 54, 52, 55, 52, 56, 52, 57, 53, 48, 53, 49, 53, 50, 53, 51, 53, 52, 53, 53, 53, 54, 53, 55, 53, 56, 53, 57, 54, 48, 54, 49, 54, 50, 54, 51, 54, 52, 54, 53, 54, 54, 54, 55, 54, 56, 54, 57, 55, 48, 55, 49, 55, 50, 55, 51, 55, 52, 55, 53, 55, 54, 55, 55, 55, 56, 55, 57, 56, 48, 56, 49, 56, 50, 56, 51, 56, 52, 56, 53, 56, 54, 56, 55, 56, 56, 56, 57, 57, 48, 57, 49, 57, 50, 57, 51, 57, 52, 57, 53, 57, 54, 57, 55, 57, 56, 57, 57]⟩ : ByteArray).size : Nat) : Int)) ∧
 (0 ≤ (IntKind.u32.wrap ((IntKind.u32.wrap (((IntKind.u32.wrap (s1.1.tmod (100000000 : Int))).tmod (10000 : Int)).tdiv (100 : Int))) * (2 : Int))) ∧ (IntKind.u32.wrap ((IntKind.u32.wrap (((IntKind.u32.wrap (s1.1.tmod (100000000 : Int))).tmod (10000 : Int)).tdiv (100 : Int))) * (2 : Int))) < (((⟨#[48, 48, 48, 49, 48, 50, 48, 51, 48, 52, 48, 53, 48, 54, 48, 55, 48, 56, 48, 57, 49, 48, 49, 49, 49, 50, 49, 51, 49, 52, 49, 53, 49, 54, 49, 55, 49, 56, 49, 57, 50, 48, 50, 49, 50, 50, 50, 51, 50, 52, 50, 53, 50, 54, 50, 55, 50, 56, 50, 57, 51, 48, 51, 49, 51, 50, 51, 51, 51, 52, 51, 53, 51, 54, 51, 55, 51, 56, 51, 57, 52, 48, 52, 49, 52, 50, 52, 51, 52, 52, 52, 53, 52, 54, 52, 55, 52, 56, 52, 57, 53, 48, 53, 49, 53, 50, 53, 51, 53, 52, 53, 53, 53, 54, 53, 55, 53, 56, 53, 57, 54, 48, 54, 49, 54, 50, 54, 51, 54, 52, 54, 53, 54, 54, 54, 55, 54, 56, 54, 57, 55, 48, 55, 49, 55, 50, 55, 51, 55, 52, 55, 53, 55, 54, 55, 55, 55, 56, 55, 57, 56, 48, 56, 49, 56, 50, 56, 51, 56, 52, 56, 53, 56, 54, 56, 55, 56, 56, 56, 57, 57, 48, 57, 49, 57, 50, 57, 51, 57, 52, 57, 53, 57, 54, 57, 55, 57, 56, 57, 57]⟩ : ByteArray).size : Nat) : Int)) ∧
 (withSome a_0 fun (a10 : Addr) =>
 (0 ≤ (IntKind.i64.wrap (s1.2 - (3 : Int))) ∧ (IntKind.i64.wrap (s1.2 - (3 : Int))) < ((a_0l : Nat) : Int)) ∧
 (St w9 (a10.add (((IntKind.i64.wrap (s1.2 - (3 : Int)))).toNat * 1)) (.int .u8 (byteAt (⟨#[48, 48, 48, 49, 48, 50, 48, 51, 48, 52, 48, 53, 48, 54, 48, 55, 48, 56, 48, 57, 49, 48, 49, 49, 49, 50, 49, 51, 49, 52, 49, 53, 49, 54, 49, 55, 49, 56, 49, 57, 50, 48, 50, 49, 50, 50, 50, 51, 50, 52, 50, 53, 50, 54, 50, 55, 50, 56, 50, 57, 51, 48, 51, 49, 51, 50, 51, 51, 51, 52, 51, 53, 51, 54, 51, 55, 51, 56, 51, 57, 52, 48, 52, 49, 52, 50, 52, 51, 52, 52, 52, 53, 52, 54, 52, 55, 52, 56, 52, 57, 53, 48, 53, 49, 53, 50, 53, 51, 53, 52, 53, 53, 53, 54, 53, 55, 53, 56, 53, 57, 54, 48, 54, 49, 54, 50, 54, 51, 54, 52, 54, 53, 54, 54, 54, 55, 54, 56, 54, 57, 55, 48, 55, 49, 55, 50, 55, 51, 55, 52, 55, 53, 55, 54, 55, 55, 55, 56, 55, 57, 56, 48, 56, 49, 56, 50, 56, 51, 56, 52, 56, 53, 56, 54, 56, 55, 56, 56, 56, 57, 57, 48, 57, 49, 57, 50, 57, 51, 57, 52, 57, 53, 57, 54, 57, 55, 57, 56, 57, 57]⟩ : ByteArray) ((IntKind.u32.wrap ((IntKind.u32.wrap ((IntKind.u32.wrap (((IntKind.u32.wrap (s1.1.tmod (100000000 : Int))).tmod (10000 : Int)).tdiv (100 : Int))) * (2 : Int))) + (1 : Int)))).toNat : Nat)) fun w11 =>
 (withSome a_0 fun (a12 : Addr) =>
 (0 ≤ (IntKind.i64.wrap (s1.2 - (4 : Int))) ∧ (IntKind.i64.wrap (s1.2 - (4 : Int))) < ((a_0l : Nat) : Int)) ∧
 (St w11 (a12.add (((IntKind.i64.wrap (s1.2 - (4 : Int)))).toNat * 1)) (.int .u8 (byteAt (⟨#[48, 48, 48, 49, 48, 50, 48, 51, 48, 52, 48, 53, 48, 54, 48, 55, 48, 56, 48, 57, 49, 48, 49, 49, 49, 50, 49, 51, 49, 52, 49, 53, 49, 54, 49, 55, 49, 56, 49, 57, 50, 48, 50, 49, 50, 50, 50, 51, 50, 52, 50, 53, 50, 54, 50, 55, 50, 56, 50, 57, 51, 48, 51, 49, 51, 50, 51, 51, 51, 52, 51, 53, 51, 54, 51, 55, 51, 56, 51, 57, 52, 48, 52, 49, 52, 50, 52, 51, 52, 52, 52, 53, 52, 54, 52, 55, 52, 56, 52, 57, 53, 48, 53, 49, 53, 50, 53, 51, 53, 52, 53, 53, 53, 54, 53, 55, 53, 56, 53, 57, 54, 48, 54, 49, 54, 50, 54, 51, 54, 52, 54, 53, 54, 54, 54, 55, 54, 56, 54, 57, 55, 48, 55, 49, 55, 50, 55, 51, 55, 52, 55, 53, 55, 54, 55, 55, 55, 56, 55, 57, 56, 48, 56, 49, 56, 50, 56, 51, 56, 52, 56, 53, 56, 54, 56, 55, 56, 56, 56, 57, 57, 48, 57, 49, 57, 50, 57, 51, 57, 52, 57, 53, 57, 54, 57, 55, 57, 56, 57, 57]⟩ : ByteArray) ((IntKind.u32.wrap ((IntKind.u32.wrap (((IntKind.u32.wrap (s1.1.tmod (100000000 : Int))).tmod (10000 : Int)).tdiv (100 : Int))) * (2 : Int)))).toNat : Nat)) fun w13 =>
 (Drew w13 fun w14 =>
 (0 ≤ (IntKind.u32.wrap ((IntKind.u32.wrap (((IntKind.u32.wrap ((IntKind.u32.wrap (s1.1.tmod (100000000 : Int))).tdiv (10000 : Int))).tmod (100 : Int)) * (2 : Int))) + (1 : Int))) ∧ (IntKind.u32.wrap ((IntKind.u32.wrap (((IntKind.u32.wrap ((IntKind.u32.wrap (s1.1.tmod (100000000 : Int))).tdiv (10000 : Int))).tmod (100 : Int)) * (2 : Int))) + (1 : Int))) < (((⟨#[48, 48, 48, 49, 48, 50, 48, 51, 48, 52, 48, 53, 48, 54, 48, 55, 48, 56, 48, 57, 49, 48, 49, 49, 49, 50, 49, 51, 49, 52, 49, 53, 49, 54, 49, 55, 49, 56, 49, 57, 50, 48, 50, 49, 50, 50, 50, 51, 50, 52, 50, 53, 50, 54, 50, 55, 50, 56, 50, 57, 51, 48, 51, 49, 51, 50, 51, 51, 51, 52, 51, 53, 51, 54, 51, 55, 51, 56, 51, 57, 52, 48, 52, 49, 52, 50, 52, 51, 52, 52, 52, 53, 52, 54, 52, 55, 52, 56, 52, 57, 53, 48, 53, 49, 53, 50, 53, 51, 53, 52, 53, 53, 53, 54, 53, 55, 53, 56, 53, 57, 54, 48, 54, 49, 54, 50, 54, 51, 54, 52, 54, 53, 54, 54, 54, 55, 54, 56, 54, 57, 55, 48, 55, 49, 55, 50, 55, 51, 55, 52, 55, 53, 55, 54, 55, 55, 55, 56, 55, 57, 56, 48, 56, 49, 56, 50, 56, 51, 56, 52, 56, 53, 56, 54, 56, 55, 56, 56, 56, 57, 57, 48, 57, 49, 57, 50, 57, 51, 57, 52, 57, 53, 57, 54, 57, 55, 57, 56, 57, 57]⟩ : ByteArray).size : Nat) : Int)) ∧
 (0 ≤ (IntKind.u32.wrap (((IntKind.u32.wrap ((IntKind.u32.wrap (s1.1.tmod (100000000 : Int))).tdiv (10000 : Int))).tmod (100 : Int)) * (2 : Int))) ∧ (IntKind.u32.wrap (((IntKind.u32.wrap ((IntKind.u32.wrap (s1.1.tmod (100000000 : Int))).tdiv (10000 : Int))).tmod (100 : Int)) * (2 : Int))) < (((⟨#[48, 48, 48, 49, 48, 50, 48, 51, 48, 52, 48, 53, 48, 54, 48, 55, 48, 56, 48, 57, 49, 48, 49, 49, 49, 50, 49, 51, 49, 52, 49, 53, 49, 54, 49, 55, 49, 56, 49, 57, 50, 48, 50, 49, 50, 50, 50, 51, 50, 52, 50, 53, 50, 54, 50, 55, 50, 56, 50, 57, 51, 48, 51, 49, 51, 50, 51, 51, 51, 52, 51, 53, 51, 54, 51, 55, 51, 56, 51, 57, 52, 48, 52, 49, 52, 50, 52, 51, 52, 52, 52, 53, 52, 54, 52, 55, 52, 56, 52, 57, 53, 48, 53, 49, 53, 50, 53, 51, 53, 52, 53, 53, 53, 54, 53, 55, 53, 56, 53, 57, 54, 48, 54, 49, 54, 50, 54, 51, 54, 52, 54, 53, 54, 54, 54, 55, 54, 56, 54, 57, 55, 48, 55, 49, 55, 50, 55, 51, 55, 52, 55, 53, 55, 54, 55, 55, 55, 56, 55, 57, 56, 48, 56, 49, 56, 50, 56, 51, 56, 52, 56, 53, 56, 54, 56, 55, 56, 56, 56, 57, 57, 48, 57, 49, 57, 50, 57, 51, 57, 52, 57, 53, 57, 54, 57, 55, 57, 56, 57, 57]⟩ : ByteArray).size : Nat) : Int)) ∧
 (withSome a_0 fun (a15 : Addr) =>
 (0 ≤ (IntKind.i64.wrap (s1.2 - (5 : Int))) ∧ (IntKind.i64.wrap (s1.2 - (5 : Int))) < ((a_0l : Nat) : Int)) ∧
 (St w14 (a15.add (((IntKind.i64.wrap (s1.2 - (5 : Int)))).toNat * 1)) (.int .u8 (byteAt (⟨#[48, 48, 48, 49, 48, 50, 48, 51, 48, 52, 48, 53, 48, 54, 48, 55, 48, 56, 48, 57, 49, 48, 49, 49, 49, 50, 49, 51, 49, 52, 49, 53, 49, 54, 49, 55, 49, 56, 49, 57, 50, 48, 50, 49, 50, 50, 50, 51, 50, 52, 50, 53, 50, 54, 50, 55, 50, 56, 50, 57, 51, 48, 51, 49, 51, 50, 51, 51, 51, 52, 51, 53, 51, 54, 51, 55, 51, 56, 51, 57, 52, 48, 52, 49, 52, 50, 52, 51, 52, 52, 52, 53, 52, 54, 52, 55, 52, 56, 52, 57, 53, 48, 53, 49, 53, 50, 53, 51, 53, 52, 53, 53, 53, 54, 53, 55, 53, 56, 53, 57, 54, 48, 54, 49, 54, 50, 54, 51, 54, 52, 54, 53, 54, 54, 54, 55, 54, 56, 54, 57, 55, 48, 55, 49, 55, 50, 55, 51, 55, 52, 55, 53, 55, 54, 55, 55, 55, 56, 55, 57, 56, 48, 56, 49, 56, 50, 56, 51, 56, 52, 56, 53, 56, 54, 56, 55, 56, 56, 56, 57, 57, 48, 57, 49, 57, 50, 57, 51, 57, 52, 57, 53, 57, 54, 57, 55, 57, 56, 57, 57]⟩ : ByteArray) ((IntKind.u32.wrap ((IntKind.u32.wrap (((IntKind.u32.wrap ((IntKind.u32.wrap (s1.1.tmod (100000000 : Int))).tdiv (10000 : Int))).tmod (100 : Int)) * (2 : Int))) + (1 : Int)))).toNat : Nat)) fun w16 =>
 (withSome a_0 fun (a17 : Addr) =>
 (0 ≤ (IntKind.i64.wrap (s1.2 - (6 : Int))) ∧ (IntKind.i64.wrap (s1.2 - (6 : Int))) < ((a_0l : Nat) : Int)) ∧
 (St w16 (a17.add (((IntKind.i64.wrap (s1.2 - (6 : Int)))).toNat * 1)) (.int .u8 (byteAt (⟨#[48, 48, 48, 49, 48, 50, 48, 51, 48, 52, 48, 53, 48, 54, 48, 55, 48, 56, 48, 57, 49, 48, 49, 49, 49, 50, 49, 51, 49, 52, 49, 53, 49, 54, 49, 55, 49, 56, 49, 57, 50, 48, 50, 49, 50, 50, 50, 51, 50, 52, 50, 53, 50, 54, 50, 55, 50, 56, 50, 57, 51, 48, 51, 49, 51, 50, 51, 51, 51, 52, 51, 53, 51, 54, 51, 55, 51, 56, 51, 57, 52, 48, 52, 49, 52, 50, 52, 51, 52, 52, 52, 53, 52, 54, 52, 55, 52, 56, 52, 57, 53, 48, 53, 49, 53, 50, 53, 51, 53, 52, 53, 53, 53, 54, 53, 55, 53, 56, 53, 57, 54, 48, 54, 49, 54, 50, 54, 51, 54, 52, 54, 53, 54, 54, 54, 55, 54, 56, 54, 57, 55, 48, 55, 49, 55, 50, 55, 51, 55, 52, 55, 53, 55, 54, 55, 55, 55, 56, 55, 57, 56, 48, 56, 49, 56, 50, 56, 51, 56, 52, 56, 53, 56, 54, 56, 55, 56, 56, 56, 57, 57, 48, 57, 49, 57, 50, 57, 51, 57, 52, 57, 53, 57, 54, 57, 55, 57, 56, 57, 57]⟩ : ByteArray) ((IntKind.u32.wrap (((IntKind.u32.wrap ((IntKind.u32.wrap (s1.1.tmod (100000000 : Int))).tdiv (10000 : Int))).tmod (100 : Int)) * (2 : Int)))).toNat : Nat)) fun w18 =>
 (Drew w18 fun w19 =>
 (0 ≤ (IntKind.u32.wrap ((IntKind.u32.wrap ((IntKind.u32.wrap ((IntKind.u32.wrap ((IntKind.u32.wrap (s1.1.tmod (100000000 : Int))).tdiv (10000 : Int))).tdiv (100 : Int))) * (2 : Int))) + (1 : Int))) ∧ (IntKind.u32.wrap ((IntKind.u32.wrap ((IntKind.u32.wrap ((IntKind.u32.wrap ((IntKind.u32.wrap (s1.1.tmod (100000000 : Int))).tdiv (10000 : Int))).tdiv (100 : Int))) * (2 : Int))) + (1 : Int))) < (((⟨#[48, 48, 48, 49, 48, 50, 48, 51, 48, 52, 48, 53, 48, 54, 48, 55, 48, 56, 48, 57, 49, 48, 49, 49, 49, 50, 49, 51, 49, 52, 49, 53, 49, 54, 49, 55, 49, 56, 49, 57, 50, 48, 50, 49, 50, 50, 50, 51, 50, 52, 50, 53, 50, 54, 50, 55, 50, 56, 50, 57, 51, 48, 51, 49, 51, 50, 51, 51, 51, 52, 51, 53, 51, 54, 51, 55, 51, 56, 51, 57, 52, 48, 52, 49, 52, 50, 52, 51, 52, 52, 52, 53, 52, 54, 52, 55, 52, 56, 52, 57, 53, 48, 53, 49, 53, 50, 53, 51, 53, 52, 53, 53, 53, 54, 53, 55, 53, 56, 53, 57, 54, 48, 54, 49, 54, 50, 54, 51, 54, 52, 54, 53, 54, 54, 54, 55, 54, 56, 54, 57, 55, 48, 55, 49, 55, 50, 55, 51, 55, 52, 55, 53, 55, 54, 55, 55, 55, 56, 55, 57, 56, 48, 56, 49, 56, 50, 56, 51, 56, 52, 56, 53, 56, 54, 56, 55, 56, 56, 56, 57, 57, 48, 57, 49, 57, 50, 57, 51, 57, 52, 57, 53, 57, 54, 57, 55, 57, 56, 57, 57]⟩ : ByteArray).size : Nat) : Int)) ∧
 (0 ≤ (IntKind.u32.wrap ((IntKind.u32.wrap ((IntKind.u32.wrap ((IntKind.u32.wrap (s1.1.tmod (100000000 : Int))).tdiv (10000 : Int))).tdiv (100 : Int))) * (2 : Int))) ∧ (IntKind.u32.wrap ((IntKind.u32.wrap ((IntKind.u32.wrap ((IntKind.u32.wrap (s1.1.tmod (100000000 : Int))).tdiv (10000 : Int))).tdiv (100 : Int))) * (2 : Int))) < (((⟨#[48, 48, 48, 49, 48, 50, 48, 51, 48, 52, 48, 53, 48, 54, 48, 55, 48, 56, 48, 57, 49, 48, 49, 49, 49, 50, 49, 51, 49, 52, 49, 53, 49, 54, 49, 55, 49, 56, 49, 57, 50, 48, 50, 49, 50, 50, 50, 51, 50, 52, 50, 53, 50, 54, 50, 55, 50, 56, 50, 57, 51, 48, 51, 49, 51, 50, 51, 51, 51, 52, 51, 53, 51, 54, 51, 55, 51, 56, 51, 57, 52, 48, 52, 49, 52, 50, 52, 51, 52, 52, 52, 53, 52, 54, 52, 55, 52, 56, 52, 57, 53, 48, 53, 49, 53, 50, 53, 51, 53, 52, 53, 53, 53, 54, 53, 55, 53, 56, 53, 57, 54, 48, 54, 49, 54, 50, 54, 51, 54, 52, 54, 53, 54, 54, 54, 55, 54, 56, 54, 57, 55, 48, 55, 49, 55, 50, 55, 51, 55, 52, 55, 53, 55, 54, 55, 55, 55, 56, 55, 57, 56, 48, 56, 49, 56, 50, 56, 51, 56, 52, 56, 53, 56, 54, 56, 55, 56, 56, 56, 57, 57, 48, 57, 49, 57, 50, 57, 51, 57, 52, 57, 53, 57, 54, 57, 55, 57, 56, 57, 57]⟩ : ByteArray).size : Nat) : Int)) ∧
 (withSome a_0 fun (a20 : Addr) =>
 (0 ≤ (IntKind.i64.wrap (s1.2 - (7 : Int))) ∧ (IntKind.i64.wrap (s1.2 - (7 : Int))) < ((a_0l : Nat) : Int)) ∧
 (St w19 (a20.add (((IntKind.i64.wrap (s1.2 - (7 : Int)))).toNat * 1)) (.int .u8 (byteAt (⟨#[48, 48, 48, 49, 48, 50, 48, 51, 48, 52, 48, 53, 48, 54, 48, 55, 48, 56, 48, 57, 49, 48, 49, 49, 49, 50, 49, 51, 49, 52, 49, 53, 49, 54, 49, 55, 49, 56, 49, 57, 50, 48, 50, 49, 50, 50, 50, 51, 50, 52, 50, 53, 50, 54, 50, 55, 50, 56, 50, 57, 51, 48, 51, 49, 51, 50, 51, 51, 51, 52, 51, 53, 51, 54, 51, 55, 51, 56, 51, 57, 52, 48, 52, 49, 52, 50, 52, 51, 52, 52, 52, 53, 52, 54, 52, 55, 52, 56, 52, 57, 53, 48, 53, 49, 53, 50, 53, 51, 53, 52, 53, 53, 53, 54, 53, 55, 53, 56, 53, 57, 54, 48, 54, 49, 54, 50, 54, 51, 54, 52, 54, 53, 54, 54, 54, 55, 54, 56, 54, 57, 55, 48, 55, 49, 55, 50, 55, 51, 55, 52, 55, 53, 55, 54, 55, 55, 55, 56, 55, 57, 56, 48, 56, 49, 56, 50, 56, 51, 56, 52, 56, 53, 56, 54, 56, 55, 56, 56, 56, 57, 57, 48, 57, 49, 57, 50, 57, 51, 57, 52, 57, 53, 57, 54, 57, 55, 57, 56, 57, 57]⟩ : ByteArray) ((IntKind.u32.wrap ((IntKind.u32.wrap ((IntKind.u32.wrap ((IntKind.u32.wrap ((IntKind.u32.wrap (s1.1.tmod (100000000 : Int))).tdiv (10000 : Int))).tdiv (100 : Int))) * (2 : Int))) + (1 : Int)))).toNat : Nat)) fun w21 =>
 (withSome a_0 fun (a22 : Addr) =>
 (0 ≤ (IntKind.i64.wrap (s1.2 - (8 : Int))) ∧ (IntKind.i64.wrap (s1.2 - (8 : Int))) < ((a_0l : Nat) : Int)) ∧
 (St w21 (a22.add (((IntKind.i64.wrap (s1.2 - (8 : Int)))).toNat * 1)) (.int .u8 (byteAt (⟨#[48, 48, 48, 49, 48, 50, 48, 51, 48, 52, 48, 53, 48, 54, 48, 55, 48, 56, 48, 57, 49, 48, 49, 49, 49, 50, 49, 51, 49, 52, 49, 53, 49, 54, 49, 55, 49, 56, 49, 57, 50, 48, 50, 49, 50, 50, 50, 51, 50, 52, 50, 53, 50, 54, 50, 55, 50, 56, 50, 57, 51, 48, 51, 49, 51, 50, 51, 51, 51, 52, 51, 53, 51, 54, 51, 55, 51, 56, 51, 57, 52, 48, 52, 49, 52, 50, 52, 51, 52, 52, 52, 53, 52, 54, 52, 55, 52, 56, 52, 57, 53, 48, 53, 49, 53, 50, 53, 51, 53, 52, 53, 53, 53, 54, 53, 55, 53, 56, 53, 57, 54, 48, 54, 49, 54, 50, 54, 51, 54, 52, 54, 53, 54, 54, 54, 55, 54, 56, 54, 57, 55, 48, 55, 49, 55, 50, 55, 51, 55, 52, 55, 53, 55, 54, 55, 55, 55, 56, 55, 57, 56, 48, 56, 49, 56, 50, 56, 51, 56, 52, 56, 53, 56, 54, 56, 55, 56, 56, 56, 57, 57, 48, 57, 49, 57, 50, 57, 51, 57, 52, 57, 53, 57, 54, 57, 55, 57, 56, 57, 57]⟩ : ByteArray) ((IntKind.u32.wrap ((IntKind.u32.wrap ((IntKind.u32.wrap ((IntKind.u32.wrap (s1.1.tmod (100000000 : Int))).tdiv (10000 : Int))).tdiv (100 : Int))) * (2 : Int)))).toNat : Nat)) fun w23 =>
 X0 ((IntKind.u64.wrap (s1.1.tdiv (100000000 : Int))), (IntKind.i64.wrap (s1.2 - (8 : Int)))) w23)))))))))))))))))))))))))))))))))))))
 ((Meet (σ := Int × Int) (fun J24 =>
 (cond (decide (s1.2 ≥ (4 : Int)))
 ((cond ((10000 : Int) == 0)
 (False)
 ((cond ((10000 : Int) == 0)
 (False)
 ((cond ((100 : Int) == 0)
 (False)
 ((cond ((100 : Int) == 0)
 (False)
 ((Drew w2 fun w27 =>
 (0 ≤ (IntKind.u32.wrap ((IntKind.u32.wrap ((((IntKind.u32.wrap s1.1).tmod (10000 : Int)).tmod (100 : Int)) * (2 : Int))) + (1 : Int))) ∧ (IntKind.u32.wrap ((IntKind.u32.wrap ((((IntKind.u32.wrap s1.1).tmod (10000 : Int)).tmod (100 : Int)) * (2 : Int))) + (1 : Int))) < (((⟨#[48, 48, 48, 49, 48, 50, 48, 51, 48, 52, 48, 53, 48, 54, 48, 55, 48, 56, 48, 57, 49, 48, 49, 49, 49, 50, 49, 51, 49, 52, 49, 53, 49, 54, 49, 55, 49, 56, 49, 57, 50, 48, 50, 49, 50, 50, 50, 51, 50, 52, 50, 53, 50, 54, 50, 55, 50, 56, 50, 57, 51, 48, 51, 49, 51, 50, 51, 51, 51, 52, 51, 53, 51, 54, 51, 55, 51, 56, 51, 57, 52, 48, 52, 49, 52, 50, 52, 51, 52, 52, 52, 53, 52, 54, 52, 55, 52, 56, 52, 57, 53, 48, 53, 49, 53, 50, 53, 51, 53, 52, 53, 53, 53, 54, 53, 55, 53, 56, 53, 57, 54, 48, 54, 49, 54, 50, 54, 51, 54, 52, 54, 53, 54, 54, 54, 55, 54, 56, 54, 57, 55, 48, 55, 49, 55, 50, 55, 51, 55, 52, 55, 53, 55, 54, 55, 55, 55, 56, 55, 57, 56, 48, 56, 49, 56, 50, 56, 51, 56, 52, 56, 53, 56, 54, 56, 55, 56, 56, 56, 57, 57, 48, 57, 49, 57, 50, 57, 51, 57, 52, 57, 53, 57, 54, 57, 55, 57, 56, 57, 57]⟩ : ByteArray).size : Nat) : Int)) ∧
 (0 ≤ (IntKind.u32.wrap ((((IntKind.u32.wrap s1.1).tmod (10000 : Int)).tmod (100 : Int)) * (2 : Int))) ∧ (IntKind.u32.wrap ((((IntKind.u32.wrap s1.1).tmod (10000 : Int)).tmod (100 : Int)) * (2 : Int))) < (((⟨#[48, 48, 48, 49, 48, 50, 48, 51, 48, 52, 48, 53, 48, 54, 48, 55, 48, 56, 48, 57, 49, 48, 49, 49, 49, 50, 49, 51, 49, 52, 49, 53, 49, 54, 49, 55, 49, 56, 49, 57, 50, 48, 50, 49, 50, 50, 50, 51, 50, 52, 50, 53, 50, 54, 50, 55, 50, 56, 50, 57, 51, 48, 51, 49, 51, 50, 51, 51, 51, 52, 51, 53, 51, 54, 51, 55, 51, 56, 51, 57, 52, 48, 52, 49, 52, 50, 52, 51, 52, 52, 52, 53, 52, 54, 52, 55, 52, 56, 52, 57, 53, 48, 53, 49, 53, 50, 53, 51, 53, 52, 53, 53, 53, 54, 53, 55, 53, 56, 53, 57, 54, 48, 54, 49, 54, 50, 54, 51, 54, 52, 54, 53, 54, 54, 54, 55, 54, 56, 54, 57, 55, 48, 55, 49, 55, 50, 55, 51, 55, 52, 55, 53, 55, 54, 55, 55, 55, 56, 55, 57, 56, 48, 56, 49, 56, 50, 56, 51, 56, 52, 56, 53, 56, 54, 56, 55, 56, 56, 56, 57, 57, 48, 57, 49, 57, 50, 57, 51, 57, 52, 57, 53, 57, 54, 57, 55, 57, 56, 57, 57]⟩ : ByteArray).size : Nat) : Int)) ∧
 (withSome a_0 fun (a28 : Addr) =>
 (0 ≤ (IntKind.i64.wrap (s1.2 - (1 : Int))) ∧ (IntKind.i64.wrap (s1.2 - (1 : Int))) < ((a_0l : Nat) : Int)) ∧
 (St w27 (a28.add (((IntKind.i64.wrap (s1.2 - (1 : Int)))).toNat * 1)) (.int .u8 (byteAt (⟨#[48, 48, 48, 49, 48, 50, 48, 51, 48, 52, 48, 53, 48, 54, 48, 55, 48, 56, 48, 57, 49, 48, 49, 49, 49, 50, 49, 51, 49, 52, 49, 53, 49, 54, 49, 55, 49, 56, 49, 57, 50, 48, 50, 49, 50, 50, 50, 51, 50, 52, 50, 53, 50, 54, 50, 55, 50, 56, 50, 57, 51, 48, 51, 49, 51, 50, 51, 51, 51, 52, 51, 53, 51, 54, 51, 55, 51, 56, 51, 57, 52, 48, 52, 49, 52, 50, 52, 51, 52, 52, 52, 53, 52, 54, 52, 55, 52, 56, 52, 57, 53, 48, 53, 49, 53, 50, 53, 51, 53, 52, 53, 53, 53, 54, 53, 55, 53, 56, 53, 57, 54, 48, 54, 49, 54, 50, 54, 51, 54, 52, 54, 53, 54, 54, 54, 55, 54, 56, 54, 57, 55, 48, 55, 49, 55, 50, 55, 51, 55, 52, 55, 53, 55, 54, 55, 55, 55, 56, 55, 57, 56, 48, 56, 49, 56, 50, 56, 51, 56, 52, 56, 53, 56, 54, 56, 55, 56, 56, 56, 57, 57, 48, 57, 49, 57, 50, 57, 51, 57, 52, 57, 53, 57, 54, 57, 55, 57, 56, 57, 57]⟩ : ByteArray) ((IntKind.u32.wrap ((IntKind.u32.wrap ((((IntKind.u32.wrap s1.1).tmod (10000 : Int)).tmod (100 : Int)) * (2 : Int))) + (1 : Int)))).toNat : Nat)) fun w29 =>
 (withSome a_0 fun (a30 : Addr) =>
 (0 ≤ (IntKind.i64.wrap (s1.2 - (2 : Int))) ∧ (IntKind.i64.wrap (s1.2 - (2 : Int))) < ((a_0l : Nat) : Int)) ∧
 (St w29 (a30.add (((IntKind.i64.wrap (s1.2 - (2 : Int)))).toNat * 1)) (.int .u8 (byteAt (⟨#[48, 48, 48, 49, 48, 50, 48, 51, 48, 52, 48, 53, 48, 54, 48, 55, 48, 56, 48, 57, 49, 48, 49, 49, 49, 50, 49, 51, 49, 52, 49, 53, 49, 54, 49, 55, 49, 56, 49, 57, 50, 48, 50, 49, 50, 50, 50, 51, 50, 52, 50, 53, 50, 54, 50, 55, 50, 56, 50, 57, 51, 48, 51, 49, 51, 50, 51, 51, 51, 52, 51, 53, 51, 54, 51, 55, 51, 56, 51, 57, 52, 48, 52, 49, 52, 50, 52, 51, 52, 52, 52, 53, 52, 54, 52, 55, 52, 56, 52, 57, 53, 48, 53, 49, 53, 50, 53, 51, 53, 52, 53, 53, 53, 54, 53, 55, 53, 56, 53, 57, 54, 48, 54, 49, 54, 50, 54, 51, 54, 52, 54, 53, 54, 54, 54, 55, 54, 56, 54, 57, 55, 48, 55, 49, 55, 50, 55, 51, 55, 52, 55, 53, 55, 54, 55, 55, 55, 56, 55, 57, 56, 48, 56, 49, 56, 50, 56, 51, 56, 52, 56, 53, 56, 54, 56, 55, 56, 56, 56, 57, 57, 48, 57, 49, 57, 50, 57, 51, 57, 52, 57, 53, 57, 54, 57, 55, 57, 56, 57, 57]⟩ : ByteArray) ((IntKind.u32.wrap ((((IntKind.u32.wrap s1.1).tmod (10000 : Int)).tmod (100 : Int)) * (2 : Int)))).toNat : Nat)) fun w31 =>
 (Drew w31 fun w32 =>
 (0 ≤ (IntKind.u32.wrap ((IntKind.u32.wrap ((IntKind.u32.wrap (((IntKind.u32.wrap s1.1).tmod (10000 : Int)).tdiv (100 : Int))) * (2 : Int))) + (1 : Int))) ∧ (IntKind.u32.wrap ((IntKind.u32.wrap ((IntKind.u32.wrap (((IntKind.u32.wrap s1.1).tmod (10000 : Int)).tdiv (100 : Int))) * (2 : Int))) + (1 : Int))) < (((⟨#[48, 48, 48, 49, 48, 50, 48, 51, 48, 52, 48, 53, 48, 54, 48, 55, 48, 56, 48, 57, 49, 48, 49, 49, 49, 50, 49, 51, 49, 52, 49, 53, 49, 54, 49, 55, 49, 56, 49, 57, 50, 48, 50, 49, 50, 50, 50, 51, 50, 52, 50, 53, 50, 54, 50, 55, 50, 56, 50, 57, 51, 48, 51, 49, 51, 50, 51, 51, 51, 52, 51, 53, 51, 54, 51, 55, 51, 56, 51, 57, 52, 48, 52, 49, 52, 50, 52, 51, 52, 52, 52, 53, 52, 54, 52, 55, 52, 56, 52, 57, 53, 48, 53, 49, 53, 50, 53, 51, 53, 52, 53, 53, 53, 54, 53, 55, 53, 56, 53, 57, 54, 48, 54, 49, 54, 50, 54, 51, 54, 52, 54, 53, 54, 54, 54, 55, 54, 56, 54, 57, 55, 48, 55, 49, 55, 50, 55, 51, 55, 52, 55, 53, 55, 54, 55, 55, 55, 56, 55, 57, 56, 48, 56, 49, 56, 50, 56, 51, 56, 52, 56, 53, 56, 54, 56, 55, 56, 56, 56, 57, 57, 48, 57, 49, 57, 50, 57, 51, 57, 52, 57, 53, 57, 54, 57, 55, 57, 56, 57, 57]⟩ : ByteArray).size : Nat) : Int)) ∧
 (0 ≤ (IntKind.u32.wrap ((IntKind.u32.wrap (((IntKind.u32.wrap s1.1).tmod (10000 : Int)).tdiv (100 : Int))) * (2 : Int))) ∧ (IntKind.u32.wrap ((IntKind.u32.wrap (((IntKind.u32.wrap s1.1).tmod (10000 : Int)).tdiv (100 : Int))) * (2 : Int))) < (((⟨#[48, 48, 48, 49, 48, 50, 48, 51, 48, 52, 48, 53, 48, 54, 48, 55, 48, 56, 48, 57, 49, 48, 49, 49, 49, 50, 49, 51, 49, 52, 49, 53, 49, 54, 49, 55, 49, 56, 49, 57, 50, 48, 50, 49, 50, 50, 50, 51, 50, 52, 50, 53, 50, 54, 50, 55, 50, 56, 50, 57, 51, 48, 51, 49, 51, 50, 51, 51, 51, 52, 51, 53, 51, 54, 51, 55, 51, 56, 51, 57, 52, 48, 52, 49, 52, 50, 52, 51, 52, 52, 52, 53, 52, 54, 52, 55, 52, 56, 52, 57, 53, 48, 53, 49, 53, 50, 53, 51, 53, 52, 53, 53, 53, 54, 53, 55, 53, 56, 53, 57, 54, 48, 54, 49, 54, 50, 54, 51, 54, 52, 54, 53, 54, 54, 54, 55, 54, 56, 54, 57, 55, 48, 55, 49, 55, 50, 55, 51, 55, 52, 55, 53, 55, 54, 55, 55, 55, 56, 55, 57, 56, 48, 56, 49, 56, 50, 56, 51, 56, 52, 56, 53, 56, 54, 56, 55, 56, 56, 56, 57, 57, 48, 57, 49, 57, 50, 57, 51, 57, 52, 57, 53, 57, 54, 57, 55, 57, 56, 57, 57]⟩ : ByteArray).size : Nat) : Int)) ∧
 (withSome a_0 fun (a33 : Addr) =>
 (0 ≤ (IntKind.i64.wrap (s1.2 - (3 : Int))) ∧ (IntKind.i64.wrap (s1.2 - (3 : Int))) < ((a_0l : Nat) : Int)) ∧
 (St w32 (a33.add (((IntKind.i64.wrap (s1.2 - (3 : Int)))).toNat * 1)) (.int .u8 (byteAt (⟨#[48, 48, 48, 49, 48, 50, 48, 51, 48, 52, 48, 53, 48, 54, 48, 55, 48, 56, 48, 57, 49, 48, 49, 49, 49, 50, 49, 51, 49, 52, 49, 53, 49, 54, 49, 55, 49, 56, 49, 57, 50, 48, 50, 49, 50, 50, 50, 51, 50, 52, 50, 53, 50, 54, 50, 55, 50, 56, 50, 57, 51, 48, 51, 49, 51, 50, 51, 51, 51, 52, 51, 53, 51, 54, 51, 55, 51, 56, 51, 57, 52, 48, 52, 49, 52, 50, 52, 51, 52, 52, 52, 53, 52, 54, 52, 55, 52, 56, 52, 57, 53, 48, 53, 49, 53, 50, 53, 51, 53, 52, 53, 53, 53, 54, 53, 55, 53, 56, 53, 57, 54, 48, 54, 49, 54, 50, 54, 51, 54, 52, 54, 53, 54, 54, 54, 55, 54, 56, 54, 57, 55, 48, 55, 49, 55, 50, 55, 51, 55, 52, 55, 53, 55, 54, 55, 55, 55, 56, 55, 57, 56, 48, 56, 49, 56, 50, 56, 51, 56, 52, 56, 53, 56, 54, 56, 55, 56, 56, 56, 57, 57, 48, 57, 49, 57, 50, 57, 51, 57, 52, 57, 53, 57, 54, 57, 55, 57, 56, 57, 57]⟩ : ByteArray) ((IntKind.u32.wrap ((IntKind.u32.wrap ((IntKind.u32.wrap (((IntKind.u32.wrap s1.1).tmod (10000 : Int)).tdiv (100 : Int))) * (2 : Int))) + (1 : Int)))).toNat : Nat)) fun w34 =>
 (withSome a_0 fun (a35 : Addr) =>
 (0 ≤ (IntKind.i64.wrap (s1.2 - (4 : Int))) ∧ (IntKind.i64.wrap (s1.2 - (4 : Int))) < ((a_0l : Nat) : Int)) ∧
 (St w34 (a35.add (((IntKind.i64.wrap (s1.2 - (4 : Int)))).toNat * 1)) (.int .u8 (byteAt (⟨#[48, 48, 48, 49, 48, 50, 48, 51, 48, 52, 48, 53, 48, 54, 48, 55, 48, 56, 48, 57, 49, 48, 49, 49, 49, 50, 49, 51, 49, 52, 49, 53, 49, 54, 49, 55, 49, 56, 49, 57, 50, 48, 50, 49, 50, 50, 50, 51, 50, 52, 50, 53, 50, 54, 50, 55, 50, 56, 50, 57, 51, 48, 51, 49, 51, 50, 51, 51, 51, 52, 51, 53, 51, 54, 51, 55, 51, 56, 51, 57, 52, 48, 52, 49, 52, 50, 52, 51, 52, 52, 52, 53, 52, 54, 52, 55, 52, 56, 52, 57, 53, 48, 53, 49, 53, 50, 53, 51, 53, 52, 53, 53, 53, 54, 53, 55, 53, 56, 53, 57, 54, 48, 54, 49, 54, 50, 54, 51, 54, 52, 54, 53, 54, 54, 54, 55, 54, 56, 54, 57, 55, 48, 55, 49, 55, 50, 55, 51, 55, 52, 55, 53, 55, 54, 55, 55, 55, 56, 55, 57, 56, 48, 56, 49, 56, 50, 56, 51, 56, 52, 56, 53, 56, 54, 56, 55, 56, 56, 56, 57, 57, 48, 57, 49, 57, 50, 57, 51, 57, 52, 57, 53, 57, 54, 57, 55, 57, 56, 57, 57]⟩ : ByteArray) ((IntKind.u32.wrap ((IntKind.u32.wrap (((IntKind.u32.wrap s1.1).tmod (10000 : Int)).tdiv (100 : Int))) * (2 : Int)))).toNat : Nat)) fun w36 =>
 J24 ((IntKind.u32.wrap ((IntKind.u32.wrap s1.1).tdiv (10000 : Int))), (IntKind.i64.wrap (s1.2 - (4 : Int)))) w36)))))))))))))))))))
 (J24 ((IntKind.u32.wrap s1.1), s1.2) w2)))
 (fun s25 w26 =>
 ∀ j37 : Nat → Value, (Meet (σ := Int × Int) (fun J38 =>
 (cond (decide (s25.2 ≥ (2 : Int)))
 ((cond ((100 : Int) == 0)
 (False)
 ((cond ((100 : Int) == 0)
 (False)
 ((Drew w26 fun w41 =>
 (0 ≤ (IntKind.u32.wrap ((IntKind.u32.wrap ((s25.1.tmod (100 : Int)) * (2 : Int))) + (1 : Int))) ∧ (IntKind.u32.wrap ((IntKind.u32.wrap ((s25.1.tmod (100 : Int)) * (2 : Int))) + (1 : Int))) < (((⟨#[48, 48, 48, 49, 48, 50, 48, 51, 48, 52, 48, 53, 48, 54, 48, 55, 48, 56, 48, 57, 49, 48, 49, 49, 49, 50, 49, 51, 49, 52, 49, 53, 49, 54, 49, 55, 49, 56, 49, 57, 50, 48, 50, 49, 50, 50, 50, 51, 50, 52, 50, 53, 50, 54, 50, 55, 50, 56, 50, 57, 51, 48, 51, 49, 51, 50, 51, 51, 51, 52, 51, 53, 51, 54, 51, 55, 51, 56, 51, 57, 52, 48, 52, 49, 52, 50, 52, 51, 52, 52, 52, 53, 52, 54, 52, 55, 52, 56, 52, 57, 53, 48, 53, 49, 53, 50, 53, 51, 53, 52, 53, 53, 53, 54, 53, 55, 53, 56, 53, 57, 54, 48, 54, 49, 54, 50, 54, 51, 54, 52, 54, 53, 54, 54, 54, 55, 54, 56, 54, 57, 55, 48, 55, 49, 55, 50, 55, 51, 55, 52, 55, 53, 55, 54, 55, 55, 55, 56, 55, 57, 56, 48, 56, 49, 56, 50, 56, 51, 56, 52, 56, 53, 56, 54, 56, 55, 56, 56, 56, 57, 57, 48, 57, 49, 57, 50, 57, 51, 57, 52, 57, 53, 57, 54, 57, 55, 57, 56, 57, 57]⟩ : ByteArray).size : Nat) : Int)) ∧
 (0 ≤ (IntKind.u32.wrap ((s25.1.tmod (100 : Int)) * (2 : Int))) ∧ (IntKind.u32.wrap ((s25.1.tmod (100 : Int)) * (2 : Int))) < (((⟨#[48, 48, 48, 49, 48, 50, 48, 51, 48, 52, 48, 53, 48, 54, 48, 55, 48, 56, 48, 57, 49, 48, 49, 49, 49, 50, 49, 51, 49, 52, 49, 53, 49, 54, 49, 55, 49, 56, 49, 57, 50, 48, 50, 49, 50, 50, 50, 51, 50, 52, 50, 53, 50, 54, 50, 55, 50, 56, 50, 57, 51, 48, 51, 49, 51, 50, 51, 51, 51, 52, 51, 53, 51, 54, 51, 55, 51, 56, 51, 57, 52, 48, 52, 49, 52, 50, 52, 51, 52, 52, 52, 53, 52, 54, 52, 55, 52, 56, 52, 57, 53, 48, 53, 49, 53, 50, 53, 51, 53, 52, 53, 53, 53, 54, 53, 55, 53, 56, 53, 57, 54, 48, 54, 49, 54, 50, 54, 51, 54, 52, 54, 53, 54, 54, 54, 55, 54, 56, 54, 57, 55, 48, 55, 49, 55, 50, 55, 51, 55, 52, 55, 53, 55, 54, 55, 55, 55, 56, 55, 57, 56, 48, 56, 49, 56, 50, 56, 51, 56, 52, 56, 53, 56, 54, 56, 55, 56, 56, 56, 57, 57, 48, 57, 49, 57, 50, 57, 51, 57, 52, 57, 53, 57, 54, 57, 55, 57, 56, 57, 57]⟩ : ByteArray).size : Nat) : Int)) ∧
 (withSome a_0 fun (a42 : Addr) =>
 (0 ≤ (IntKind.i64.wrap (s25.2 - (1 : Int))) ∧ (IntKind.i64.wrap (s25.2 - (1 : Int))) < ((a_0l : Nat) : Int)) ∧
 (St w41 (a42.add (((IntKind.i64.wrap (s25.2 - (1 : Int)))).toNat * 1)) (.int .u8 (byteAt (⟨#[48, 48, 48, 49, 48, 50, 48, 51, 48, 52, 48, 53, 48, 54, 48, 55, 48, 56, 48, 57, 49, 48, 49, 49, 49, 50, 49, 51, 49, 52, 49, 53, 49, 54, 49, 55, 49, 56, 49, 57, 50, 48, 50, 49, 50, 50, 50, 51, 50, 52, 50, 53, 50, 54, 50, 55, 50, 56, 50, 57, 51, 48, 51, 49, 51, 50, 51, 51, 51, 52, 51, 53, 51, 54, 51, 55, 51, 56, 51, 57, 52, 48, 52, 49, 52, 50, 52, 51, 52, 52, 52, 53, 52, 54, 52, 55, 52, 56, 52, 57, 53, 48, 53, 49, 53, 50, 53, 51, 53, 52, 53, 53, 53, 54, 53, 55, 53, 56, 53, 57, 54, 48, 54, 49, 54, 50, 54, 51, 54, 52, 54, 53, 54, 54, 54, 55, 54, 56, 54, 57, 55, 48, 55, 49, 55, 50, 55, 51, 55, 52, 55, 53, 55, 54, 55, 55, 55, 56, 55, 57, 56, 48, 56, 49, 56, 50, 56, 51, 56, 52, 56, 53, 56, 54, 56, 55, 56, 56, 56, 57, 57, 48, 57, 49, 57, 50, 57, 51, 57, 52, 57, 53, 57, 54, 57, 55, 57, 56, 57, 57]⟩ : ByteArray) ((IntKind.u32.wrap ((IntKind.u32.wrap ((s25.1.tmod (100 : Int)) * (2 : Int))) + (1 : Int)))).toNat : Nat)) fun w43 =>
 (withSome a_0 fun (a44 : Addr) =>
 (0 ≤ (IntKind.i64.wrap (s25.2 - (2 : Int))) ∧ (IntKind.i64.wrap (s25.2 - (2 : Int))) < ((a_0l : Nat) : Int)) ∧
 (St w43 (a44.add (((IntKind.i64.wrap (s25.2 - (2 : Int)))).toNat * 1)) (.int .u8 (byteAt (⟨#[48, 48, 48, 49, 48, 50, 48, 51, 48, 52, 48, 53, 48, 54, 48, 55, 48, 56, 48, 57, 49, 48, 49, 49, 49, 50, 49, 51, 49, 52, 49, 53, 49, 54, 49, 55, 49, 56, 49, 57, 50, 48, 50, 49, 50, 50, 50, 51, 50, 52, 50, 53, 50, 54, 50, 55, 50, 56, 50, 57, 51, 48, 51, 49, 51, 50, 51, 51, 51, 52, 51, 53, 51, 54, 51, 55, 51, 56, 51, 57, 52, 48, 52, 49, 52, 50, 52, 51, 52, 52, 52, 53, 52, 54, 52, 55, 52, 56, 52, 57, 53, 48, 53, 49, 53, 50, 53, 51, 53, 52, 53, 53, 53, 54, 53, 55, 53, 56, 53, 57, 54, 48, 54, 49, 54, 50, 54, 51, 54, 52, 54, 53, 54, 54, 54, 55, 54, 56, 54, 57, 55, 48, 55, 49, 55, 50, 55, 51, 55, 52, 55, 53, 55, 54, 55, 55, 55, 56, 55, 57, 56, 48, 56, 49, 56, 50, 56, 51, 56, 52, 56, 53, 56, 54, 56, 55, 56, 56, 56, 57, 57, 48, 57, 49, 57, 50, 57, 51, 57, 52, 57, 53, 57, 54, 57, 55, 57, 56, 57, 57]⟩ : ByteArray) ((IntKind.u32.wrap ((s25.1.tmod (100 : Int)) * (2 : Int)))).toNat : Nat)) fun w45 =>
 J38 ((IntKind.u32.wrap (s25.1.tdiv (100 : Int))), (IntKind.i64.wrap (s25.2 - (2 : Int)))) w45))))))))))
 (J38 (s25.1, s25.2) w26)))
 (fun s39 w40 =>
 ∀ j46 : Nat → Value, (cond (decide (s39.2 > (0 : Int)))
 ((withSome a_0 fun (a47 : Addr) =>
 (0 ≤ (0 : Int) ∧ (0 : Int) < ((a_0l : Nat) : Int)) ∧
 (St w40 (a47.add (((0 : Int)).toNat * 1)) (.int .u8 (IntKind.u8.wrap (IntKind.u32.wrap ((48 : Int) + s39.1)))) fun w48 =>
 R (.returned (.tuple #[])) w48)))
 (R (.returned (.tuple #[])) w40))))))))) (u_1, ((a_0l : Nat) : Int)) w)
theorem e_internal_strconv_formatBase10 (a_0 : Option Addr) (a_0l a_0c : Nat) (u_1 : Int) (w : World) (R : Ending → World → Prop) : funcX pg T bl Tryd.f82 [(.slice a_0 a_0l a_0c), (.int .u64 u_1)] w R = c_internal_strconv_formatBase10 a_0 a_0l a_0c  u_1  w R := by kernel_rfl
theorem of_internal_strconv_formatBase10 (a_0 : Option Addr) (a_0l a_0c : Nat) (u_1 : Int) {w : World} {R : Ending → World → Prop} (h : c_internal_strconv_formatBase10 a_0 a_0l a_0c  u_1  w R) : Calls pg f_internal_strconv_formatBase10 #[(.slice a_0 a_0l a_0c), (.int .u64 u_1)] w R :=
  funcX_of mixed tok blok Tryd.func82 (args := [(.slice a_0 a_0l a_0c), (.int .u64 u_1)]) (e_internal_strconv_formatBase10 a_0 a_0l a_0c  u_1  w R) h
/-- aqueduct/bson.code -/
def c_bson_code (kind_0 : Int) (w : World) (R : Ending → World → Prop) : Prop :=
 (cond (kind_0 == (1 : Int))
 (R (.returned (.int .u8 (255 : Int))) w)
 ((cond (kind_0 == (2 : Int))
 (R (.returned (.int .u8 (10 : Int))) w)
 ((cond (kind_0 == (3 : Int))
 (R (.returned (.int .u8 (16 : Int))) w)
 ((cond (kind_0 == (4 : Int))
 (R (.returned (.int .u8 (18 : Int))) w)
 ((cond (kind_0 == (5 : Int))
 (R (.returned (.int .u8 (2 : Int))) w)
 ((cond (kind_0 == (6 : Int))
 (R (.returned (.int .u8 (3 : Int))) w)
 ((cond (kind_0 == (7 : Int))
 (R (.returned (.int .u8 (4 : Int))) w)
 ((cond (kind_0 == (8 : Int))
 (R (.returned (.int .u8 (5 : Int))) w)
 ((cond (kind_0 == (9 : Int))
 (R (.returned (.int .u8 (7 : Int))) w)
 ((cond (kind_0 == (10 : Int))
 (R (.returned (.int .u8 (8 : Int))) w)
 ((cond (kind_0 == (11 : Int))
 (R (.returned (.int .u8 (9 : Int))) w)
 ((cond (kind_0 == (12 : Int))
 (R (.returned (.int .u8 (127 : Int))) w)
 (R (.returned (.int .u8 (0 : Int))) w))))))))))))))))))))))))
theorem e_bson_code (kind_0 : Int) (w : World) (R : Ending → World → Prop) : funcX pg T bl Tryd.f86 [(.int .i64 kind_0)] w R = c_bson_code kind_0  w R := by kernel_rfl
theorem of_bson_code (kind_0 : Int) {w : World} {R : Ending → World → Prop} (h : c_bson_code kind_0  w R) : Calls pg f_bson_code #[(.int .i64 kind_0)] w R :=
  funcX_of mixed tok blok Tryd.func86 (args := [(.int .i64 kind_0)]) (e_bson_code kind_0  w R) h
/-- internal/strconv.log10Pow2 -/
def c_internal_strconv_log10Pow2 (x_0 : Int) (w : World) (R : Ending → World → Prop) : Prop :=
 (cond (decide ((18 : Int) < 0))
 (False)
 (R (.returned (.int .i64 ((IntKind.i64.wrap (x_0 * (78913 : Int))).fdiv (2 ^ (min ((18 : Int)).toNat IntKind.i64.bits))))) w))
theorem e_internal_strconv_log10Pow2 (x_0 : Int) (w : World) (R : Ending → World → Prop) : funcX pg T bl Tryd.f91 [(.int .i64 x_0)] w R = c_internal_strconv_log10Pow2 x_0  w R := by kernel_rfl
theorem of_internal_strconv_log10Pow2 (x_0 : Int) {w : World} {R : Ending → World → Prop} (h : c_internal_strconv_log10Pow2 x_0  w R) : Calls pg f_internal_strconv_log10Pow2 #[(.int .i64 x_0)] w R :=
  funcX_of mixed tok blok Tryd.func91 (args := [(.int .i64 x_0)]) (e_internal_strconv_log10Pow2 x_0  w R) h
/-- internal/strconv.isPowerOfTwo -/
def c_internal_strconv_isPowerOfTwo (x_0 : Int) (w : World) (R : Ending → World → Prop) : Prop :=
 R (.returned (.bool ((IntKind.i64.wrap (BitVec.ofInt IntKind.i64.bits x_0 &&& BitVec.ofInt IntKind.i64.bits (IntKind.i64.wrap (x_0 - (1 : Int)))).toNat) == (0 : Int)))) w
theorem e_internal_strconv_isPowerOfTwo (x_0 : Int) (w : World) (R : Ending → World → Prop) : funcX pg T bl Tryd.f94 [(.int .i64 x_0)] w R = c_internal_strconv_isPowerOfTwo x_0  w R := by kernel_rfl
theorem of_internal_strconv_isPowerOfTwo (x_0 : Int) {w : World} {R : Ending → World → Prop} (h : c_internal_strconv_isPowerOfTwo x_0  w R) : Calls pg f_internal_strconv_isPowerOfTwo #[(.int .i64 x_0)] w R :=
  funcX_of mixed tok blok Tryd.func94 (args := [(.int .i64 x_0)]) (e_internal_strconv_isPowerOfTwo x_0  w R) h
/-- math/bits.TrailingZeros32 -/
def c_math_bits_TrailingZeros32 (x_0 : Int) (w : World) (R : Ending → World → Prop) : Prop :=
 (cond (x_0 == (0 : Int))
 (R (.returned (.int .i64 (32 : Int))) w)
 ((cond (decide ((27 : Int) < 0))
 (False)
 ((0 ≤ ((IntKind.u32.wrap ((IntKind.u32.wrap (BitVec.ofInt IntKind.u32.bits x_0 &&& BitVec.ofInt IntKind.u32.bits (IntKind.u32.wrap (0 - x_0))).toNat) * (125613361 : Int))).fdiv (2 ^ (min ((27 : Int)).toNat IntKind.u32.bits))) ∧ ((IntKind.u32.wrap ((IntKind.u32.wrap (BitVec.ofInt IntKind.u32.bits x_0 &&& BitVec.ofInt IntKind.u32.bits (IntKind.u32.wrap (0 - x_0))).toNat) * (125613361 : Int))).fdiv (2 ^ (min ((27 : Int)).toNat IntKind.u32.bits))) < ((32 : Nat) : Int)) ∧
 ∃ x0 : Int, w.cell? ((⟨4, 0, none⟩ : Addr).add ((((IntKind.u32.wrap ((IntKind.u32.wrap (BitVec.ofInt IntKind.u32.bits x_0 &&& BitVec.ofInt IntKind.u32.bits (IntKind.u32.wrap (0 - x_0))).toNat) * (125613361 : Int))).fdiv (2 ^ (min ((27 : Int)).toNat IntKind.u32.bits)))).toNat * 1)) = some (.int .u8 x0) ∧
 R (.returned (.int .i64 (IntKind.i64.wrap x0))) w))))
theorem e_math_bits_TrailingZeros32 (x_0 : Int) (w : World) (R : Ending → World → Prop) : funcX pg T bl Tryd.f96 [(.int .u32 x_0)] w R = c_math_bits_TrailingZeros32 x_0  w R := by kernel_rfl
theorem of_math_bits_TrailingZeros32 (x_0 : Int) {w : World} {R : Ending → World → Prop} (h : c_math_bits_TrailingZeros32 x_0  w R) : Calls pg f_math_bits_TrailingZeros32 #[(.int .u32 x_0)] w R :=
  funcX_of mixed tok blok Tryd.func96 (args := [(.int .u32 x_0)]) (e_math_bits_TrailingZeros32 x_0  w R) h
end Go.Proofs.Sd
