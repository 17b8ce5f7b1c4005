/- By a program of mine (Gen): the table of the program's types, the numbers of its functions and types by name. -/
import Derived.Test.YtpbmnjmagdacbaaProg
import Derived.Test.YtpbmnjmagdacbaaEng6
set_option linter.unusedVariables false
set_option maxRecDepth 100000
namespace Go.Proofs.Sw
open Go Go.Eng
open Go.Proofs
/-- The program. -/
noncomputable abbrev pg : Program := Try.prog
abbrev f_main_main : Nat := 0
abbrev f_gosem_cut : Nat := 1
abbrev f_gosem_cut_init : Nat := 2
abbrev f_aqueductlaw20_WindowBrings : Nat := 3
abbrev f_aqueductlaw20_WindowParts : Nat := 4
abbrev f_aqueductlaw20_WindowCounts : Nat := 5
abbrev f_aqueductlaw20_awake : Nat := 6
abbrev f_aqueductlaw17_Docs : Nat := 7
abbrev f_window_Limit : Nat := 8
abbrev f_source_Of : Nat := 9
abbrev f_window_Skip : Nat := 10
abbrev f_window_Count : Nat := 11
abbrev f_aqueductlaw17_Told : Nat := 12
abbrev f_aqueductref16_Stage : Nat := 13
abbrev f_aqueductref5_SameAll : Nat := 14
abbrev f_aqueductlaw17_Ends : Nat := 15
abbrev f_aqueductref16_NameMay : Nat := 16
abbrev f_aqueductlaw5_Small : Nat := 17
abbrev f_aqueductref5_May : Nat := 18
abbrev f_aqueductlaw5_Weight : Nat := 19
abbrev f_Pwindow_window_first : Nat := 20
abbrev f_bson_Copy : Nat := 21
abbrev f_Pwindow_window_rest : Nat := 22
abbrev f_Pwindow_window_all : Nat := 23
abbrev f_aqueductref16_unite : Nat := 24
abbrev f_aqueductref16_each : Nat := 25
abbrev f_aqueductref5_Of : Nat := 26
abbrev f_aqueductref16_Sort : Nat := 27
abbrev f_aqueductref16_groups : Nat := 28
abbrev f_aqueductref5_Field : Nat := 29
abbrev f_aqueductref16_buckets : Nat := 30
abbrev f_aqueductref16_Run : Nat := 31
abbrev f_aqueductref16_Check : Nat := 32
abbrev f_aqueductref5_Same : Nat := 33
abbrev f_aqueductref5_NameMay : Nat := 34
abbrev f_aqueductlaw5_Shallow : Nat := 35
abbrev f_aqueductref5_Encode : Nat := 36
abbrev f_Pwindow_window_Close : Nat := 37
abbrev f_bytes_Clone : Nat := 38
abbrev f_slices_Clone_Sapi_Field_api_Field : Nat := 39
abbrev f_slices_Clone_Sapi_Value_api_Value : Nat := 40
abbrev f_num_Of : Nat := 41
abbrev f_aqueductref16_found : Nat := 42
abbrev f_aqueductref10_Test : Nat := 43
abbrev f_aqueductref16_Dropped : Nat := 44
abbrev f_aqueductref5_Without : Nat := 45
abbrev f_aqueductref16_flag : Nat := 46
abbrev f_aqueductref16_text : Nat := 47
abbrev f_aqueductref10_Eval : Nat := 48
abbrev f_aqueductref16_made : Nat := 49
abbrev f_aqueductref5_With : Nat := 50
abbrev f_aqueductref10_Args : Nat := 51
abbrev f_aqueductref16_join : Nat := 52
abbrev f_aqueductref16_apart : Nat := 53
abbrev f_aqueductref5_ParsePath : Nat := 54
abbrev f_aqueductref5_Cut : Nat := 55
abbrev f_aqueductref5_Reach : Nat := 56
abbrev f_aqueductref5_By : Nat := 57
abbrev f_aqueductref16_rowsOf : Nat := 58
abbrev f_aqueductref5_Compare : Nat := 59
abbrev f_aqueductref16_finish : Nat := 60
abbrev f_aqueductref16_placed : Nat := 61
abbrev f_aqueductref16_tell : Nat := 62
abbrev f_aqueductref16_deep : Nat := 63
abbrev f_aqueductref5_Utf8 : Nat := 64
abbrev f_aqueductref5_own : Nat := 65
abbrev f_aqueductref10_True : Nat := 66
abbrev f_aqueductref5_All : Nat := 67
abbrev f_aqueductref10_conditions : Nat := 68
abbrev f_aqueductref10_holds : Nat := 69
abbrev f_aqueductref10_equal : Nat := 70
abbrev f_aqueductref16_number : Nat := 71
abbrev f_aqueductref10_dollar : Nat := 72
abbrev f_aqueductref10_evalAll : Nat := 73
abbrev f_aqueductref10_operator : Nat := 74
abbrev f_aqueductref10_apply : Nat := 75
abbrev f_aqueductref16_meet : Nat := 76
abbrev f_aqueductref16_known : Nat := 77
abbrev f_aqueductref5_sign : Nat := 78
abbrev f_aqueductref5_Class : Nat := 79
abbrev f_aqueductref5_text : Nat := 80
abbrev f_aqueductref10_NewState : Nat := 81
abbrev f_aqueductref10_AccName : Nat := 82
abbrev f_Paqueductref10_State_Add : Nat := 83
abbrev f_Paqueductref10_State_Value : Nat := 84
abbrev f_aqueductref5_bare : Nat := 85
abbrev f_aqueductref5_num : Nat := 86
abbrev f_aqueductref5_fields : Nat := 87
abbrev f_aqueductref5_digits : Nat := 88
abbrev f_aqueductref10_none : Nat := 89
abbrev f_aqueductref10_hold : Nat := 90
abbrev f_aqueductref10_boolean : Nat := 91
abbrev f_aqueductref5_Two : Nat := 92
abbrev f_aqueductref5_Abs : Nat := 93
abbrev f_aqueductref10_concat : Nat := 94
abbrev f_aqueductref10_TypeName : Nat := 95
abbrev f_aqueductref10_item : Nat := 96
abbrev f_aqueductref10_OwnSize : Nat := 97
abbrev f_aqueductref5_code : Nat := 98
abbrev f_aqueductref10_kindOf : Nat := 99
abbrev f_aqueductref5_none : Nat := 100
abbrev f_aqueductref5_number : Nat := 101
abbrev f_runtime_boundsError_Error : Nat := 102
abbrev f_runtime_boundsError_RuntimeError : Nat := 103
abbrev f_runtime_errorString_Error : Nat := 104
abbrev f_runtime_errorString_RuntimeError : Nat := 105
abbrev f_runtime_plainError_Error : Nat := 106
abbrev f_runtime_plainError_RuntimeError : Nat := 107
abbrev f_runtime_errorAddressString_Error : Nat := 108
abbrev f_runtime_errorAddressString_RuntimeError : Nat := 109
abbrev f_Pruntime_TypeAssertionError_Error : Nat := 110
abbrev f_Pruntime_TypeAssertionError_RuntimeError : Nat := 111
abbrev f_Pruntime_PanicNilError_Error : Nat := 112
abbrev f_Pruntime_PanicNilError_RuntimeError : Nat := 113
abbrev f_Pinternal_abi_Type_Align : Nat := 114
abbrev f_internal_runtime_maps_unhashableTypeError_Error : Nat := 115
abbrev f_internal_runtime_maps_unhashableTypeError_RuntimeError : Nat := 116
abbrev f_api_Errno_Error : Nat := 117
abbrev f_Pwindow_window_Next : Nat := 118
abbrev f_Psource_row_Close : Nat := 119
abbrev f_Psource_row_Next : Nat := 120
abbrev f_Paqueductref10_State_Size : Nat := 121
abbrev f_internal_abi_Kind_String : Nat := 122
abbrev t_ : Nat := 0
abbrev t_func : Nat := 1
abbrev t_int64 : Nat := 2
abbrev t_int : Nat := 3
abbrev t_bool : Nat := 4
abbrev t_uint8 : Nat := 5
abbrev t_abi_BoundsErrorCode : Nat := 6
abbrev t_struct_x_int64_y_int_signed_bool_code_abi_BoundsErrorCode : Nat := 7
abbrev t_runtime_boundsError : Nat := 8
abbrev t_string : Nat := 9
abbrev t_runtime_errorString : Nat := 10
abbrev t_runtime_plainError : Nat := 11
abbrev t_uintptr : Nat := 12
abbrev t_struct_msg_string_addr_uintptr : Nat := 13
abbrev t_runtime_errorAddressString : Nat := 14
abbrev t_Pruntime_TypeAssertionError : Nat := 15
abbrev t_Pruntime_PanicNilError : Nat := 16
abbrev t_Pabi_Type : Nat := 17
abbrev t_struct_typ_Pabi_Type : Nat := 18
abbrev t_maps_unhashableTypeError : Nat := 19
abbrev t_interface : Nat := 20
abbrev t_int32 : Nat := 21
abbrev t_Sapi_Value : Nat := 22
abbrev t_func_bool : Nat := 23
abbrev t_func_Sapi_Value_int_bool : Nat := 24
abbrev t_api_Errno : Nat := 25
abbrev t_Suint8 : Nat := 26
abbrev t_Sapi_Field : Nat := 27
abbrev t_struct_Kind_int_N_int64_S_string_B_Suint8_F_Sapi_Field_L_Sapi_Value : Nat := 28
abbrev t_api_Value : Nat := 29
abbrev t_interface_Close_Next_api_Value_bool_api_Errno : Nat := 30
abbrev t_source_Source : Nat := 31
abbrev t_func_source_Source_int64_source_Source : Nat := 32
abbrev t_func_Sapi_Value_api_Errno_source_Source : Nat := 33
abbrev t_func_source_Source_string_source_Source : Nat := 34
abbrev t_Sapi_Value_api_Errno : Nat := 35
abbrev t_func_source_Source_int_Sapi_Value_api_Errno : Nat := 36
abbrev t_Sapi_Value_int : Nat := 37
abbrev t_func_string_api_Value_Sapi_Value_int_Saqueductref16_File_Sapi_Value_in : Nat := 38
abbrev t_func_Sapi_Value_Sapi_Value_bool : Nat := 39
abbrev t_func_source_Source_bool : Nat := 40
abbrev t_func_Sapi_Value_int64_uint8_bool : Nat := 41
abbrev t_2_uint8 : Nat := 42
abbrev t_func_Sapi_Value_2_uint8_bool : Nat := 43
abbrev t_func_string_bool : Nat := 44
abbrev t_struct_Name_string_V_api_Value : Nat := 45
abbrev t_api_Field : Nat := 46
abbrev t_func_Sapi_Value_string_bool : Nat := 47
abbrev t_func_api_Value_bool : Nat := 48
abbrev t_func_api_Value_int_int : Nat := 49
abbrev t_Pwindow_window : Nat := 50
abbrev t_func_Pwindow_window_api_Value_bool_api_Errno : Nat := 51
abbrev t_func_api_Value_bool_api_Errno : Nat := 52
abbrev t_struct_s_source_Source_n_int64_name_string_over_bool_next_func_Pwindow : Nat := 53
abbrev t_window_window : Nat := 54
abbrev t_Psource_row : Nat := 55
abbrev t_struct_l_Sapi_Value_e_api_Errno : Nat := 56
abbrev t_source_row : Nat := 57
abbrev t_func_api_Value_api_Value : Nat := 58
abbrev t_api_Value_bool_api_Errno : Nat := 59
abbrev t_Saqueductref16_File : Nat := 60
abbrev t_func_api_Value_Sapi_Value_Saqueductref16_File_Sapi_Value_int : Nat := 61
abbrev t_func_string_api_Value_api_Value_Saqueductref16_File_Sapi_Value_int : Nat := 62
abbrev t_func_int64_api_Value : Nat := 63
abbrev t_func_api_Value_Sapi_Value_Sapi_Value : Nat := 64
abbrev t_func_api_Value_api_Value_Sapi_Value_Sapi_Value_int : Nat := 65
abbrev t_func_api_Value_string_api_Value : Nat := 66
abbrev t_func_api_Value_Sapi_Value_Sapi_Value_int : Nat := 67
abbrev t_func_Sapi_Value_Sapi_Value_int_Saqueductref16_File_Sapi_Value_int : Nat := 68
abbrev t_func_api_Value_int : Nat := 69
abbrev t_func_api_Value_api_Value_bool : Nat := 70
abbrev t_func_api_Value_int_bool : Nat := 71
abbrev t_Suint8_int : Nat := 72
abbrev t_func_api_Value_Suint8_int : Nat := 73
abbrev t_func_Suint8_Suint8 : Nat := 74
abbrev t_func_Sapi_Field_Sapi_Field : Nat := 75
abbrev t_func_Sapi_Value_Sapi_Value : Nat := 76
abbrev t_func_Saqueductref16_File_string_Sapi_Value : Nat := 77
abbrev t_bool_int : Nat := 78
abbrev t_func_api_Value_api_Value_bool_int : Nat := 79
abbrev t_func_string_api_Value : Nat := 80
abbrev t_api_Value_int : Nat := 81
abbrev t_func_api_Value_api_Value_api_Value_int : Nat := 82
abbrev t_func_api_Value_int_Sapi_Value_int : Nat := 83
abbrev t_func_api_Value_string_api_Value_api_Value : Nat := 84
abbrev t_func_api_Value_Sapi_Value : Nat := 85
abbrev t_func_api_Value_api_Value_Saqueductref16_File_Sapi_Value_int : Nat := 86
abbrev t_func_api_Value_api_Value_Sapi_Value_int : Nat := 87
abbrev t_SSapi_Value : Nat := 88
abbrev t_Sbool : Nat := 89
abbrev t_Sstring : Nat := 90
abbrev t_Sstring_bool : Nat := 91
abbrev t_func_string_Sstring_bool : Nat := 92
abbrev t_func_api_Value_bool_api_Value : Nat := 93
abbrev t_func_api_Value_Sstring_api_Value : Nat := 94
abbrev t_func_Sapi_Value_Sapi_Value_Sbool_int : Nat := 95
abbrev t_SSapi_Value_int : Nat := 96
abbrev t_func_api_Value_api_Value_Sapi_Value_SSapi_Value_int : Nat := 97
abbrev t_func_api_Value_api_Value_int : Nat := 98
abbrev t_func_api_Value_api_Value_SSapi_Value_api_Value_int : Nat := 99
abbrev t_Saqueductref16_row : Nat := 100
abbrev t_Saqueductref16_row_int : Nat := 101
abbrev t_func_api_Value_api_Value_Sapi_Value_Sapi_Value_api_Value_Saqueductref1 : Nat := 102
abbrev t_struct_Place_int_V_Sapi_Value : Nat := 103
abbrev t_aqueductref16_row : Nat := 104
abbrev t_Sapi_Value_bool_int : Nat := 105
abbrev t_func_api_Value_api_Value_Saqueductref16_row_int_Sapi_Value_Sapi_Value_ : Nat := 106
abbrev t_Suint8_bool : Nat := 107
abbrev t_func_api_Value_int_Suint8_bool : Nat := 108
abbrev t_struct_Name_string_Docs_Sapi_Value : Nat := 109
abbrev t_aqueductref16_File : Nat := 110
abbrev t_func_api_Value_Sstring_Sapi_Value : Nat := 111
abbrev t_func_api_Value_Sapi_Value_bool : Nat := 112
abbrev t_func_Sapi_Value_api_Value_Sapi_Value_int : Nat := 113
abbrev t_func_string_Sapi_Value_api_Value_api_Value_int : Nat := 114
abbrev t_func_int64_int64_int : Nat := 115
abbrev t_func_int_int : Nat := 116
abbrev t_func_string_string_int : Nat := 117
abbrev t_SPaqueductref10_State : Nat := 118
abbrev t_Paqueductref10_State : Nat := 119
abbrev t_func_int_Paqueductref10_State : Nat := 120
abbrev t_func_string_int : Nat := 121
abbrev t_func_api_Value : Nat := 122
abbrev t_func_api_Value_bool_bool_bool_bool_bool_bool : Nat := 123
abbrev t_func_int64_int_Suint8 : Nat := 124
abbrev t_func_Sapi_Field_int_Suint8_bool : Nat := 125
abbrev t_func_int_string : Nat := 126
abbrev t_func_string_api_Value_Sapi_Value_bool : Nat := 127
abbrev t_func_bool_api_Value : Nat := 128
abbrev t_func_uint8_api_Value_api_Value_api_Value_int : Nat := 129
abbrev t_func_api_Value_api_Value_int_130 : Nat := 130
abbrev t_func_Sapi_Value_api_Value_int : Nat := 131
abbrev t_struct_Kind_int_N_int_V_api_Value : Nat := 132
abbrev t_aqueductref10_State : Nat := 133
abbrev t_uint64 : Nat := 134
abbrev t_uint : Nat := 135
abbrev t_func_int_uint8 : Nat := 136
abbrev t_func_string : Nat := 137
abbrev t_struct_interface_Pabi_Type_concrete_Pabi_Type_asserted_Pabi_Type_missi : Nat := 138
abbrev t_runtime_TypeAssertionError : Nat := 139
abbrev t_0_Pruntime_PanicNilError : Nat := 140
abbrev t_struct_0_Pruntime_PanicNilError : Nat := 141
abbrev t_runtime_PanicNilError : Nat := 142
abbrev t_func_int : Nat := 143
abbrev t_uint32 : Nat := 144
abbrev t_abi_TFlag : Nat := 145
abbrev t_abi_Kind : Nat := 146
abbrev t_func_unsafe_Pointer_unsafe_Pointer_bool : Nat := 147
abbrev t_Puint8 : Nat := 148
abbrev t_abi_NameOff : Nat := 149
abbrev t_abi_TypeOff : Nat := 150
abbrev t_struct_Size_uintptr_PtrBytes_uintptr_Hash_uint32_TFlag_abi_TFlag_Align : Nat := 151
abbrev t_abi_Type : Nat := 152
abbrev t_unsafe_Pointer : Nat := 153
def tb : List (Option TI) := [
 some ⟨(.tup []), false, 1, 0, (.leaf .any), (some [(.tuple #[])])⟩,
 some ⟨.func, false, 1, 8, (.leaf .any), (some [.nilFunc])⟩,
 some ⟨(.int .i64), false, 1, 8, (.leaf (.int .i64)), (some [(.int .i64 (0 : Int))])⟩,
 some ⟨(.int .i64), false, 1, 8, (.leaf (.int .i64)), (some [(.int .i64 (0 : Int))])⟩,
 some ⟨.bool, false, 1, 1, (.leaf .bool), (some [(.bool false)])⟩,
 some ⟨(.int .u8), false, 1, 1, (.leaf (.int .u8)), (some [(.int .u8 (0 : Int))])⟩,
 some ⟨(.int .u8), false, 1, 1, (.leaf (.int .u8)), (some [(.int .u8 (0 : Int))])⟩,
 some ⟨(.strct [(0, 2), (1, 3), (2, 4), (3, 6)]), true, 4, 24, (.agg [(.int .i64), (.int .i64), .bool, (.int .u8)]), (some [(.int .i64 (0 : Int)), (.int .i64 (0 : Int)), (.bool false), (.int .u8 (0 : Int))])⟩,
 some ⟨(.strct [(0, 2), (1, 3), (2, 4), (3, 6)]), true, 4, 24, (.agg [(.int .i64), (.int .i64), .bool, (.int .u8)]), (some [(.int .i64 (0 : Int)), (.int .i64 (0 : Int)), (.bool false), (.int .u8 (0 : Int))])⟩,
 some ⟨.str, false, 1, 16, (.leaf .str), (some [(.string (⟨#[]⟩ : ByteArray))])⟩,
 some ⟨.str, false, 1, 16, (.leaf .str), (some [(.string (⟨#[]⟩ : ByteArray))])⟩,
 some ⟨.str, false, 1, 16, (.leaf .str), (some [(.string (⟨#[]⟩ : ByteArray))])⟩,
 some ⟨(.int .u64), false, 1, 8, (.leaf (.int .u64)), (some [(.int .u64 (0 : Int))])⟩,
 some ⟨(.strct [(0, 9), (1, 12)]), true, 2, 24, (.agg [.str, (.int .u64)]), (some [(.string (⟨#[]⟩ : ByteArray)), (.int .u64 (0 : Int))])⟩,
 some ⟨(.strct [(0, 9), (1, 12)]), true, 2, 24, (.agg [.str, (.int .u64)]), (some [(.string (⟨#[]⟩ : ByteArray)), (.int .u64 (0 : Int))])⟩,
 some ⟨(.ptr 139), false, 1, 8, (.leaf .ptr), (some [(.pointer none)])⟩,
 some ⟨(.ptr 142), false, 1, 8, (.leaf .ptr), (some [(.pointer none)])⟩,
 some ⟨(.ptr 152), false, 1, 8, (.leaf .ptr), (some [(.pointer none)])⟩,
 some ⟨(.strct [(0, 17)]), true, 1, 8, (.agg [.ptr]), (some [(.pointer none)])⟩,
 some ⟨(.strct [(0, 17)]), true, 1, 8, (.agg [.ptr]), (some [(.pointer none)])⟩,
 some ⟨.iface, false, 1, 16, (.leaf .any), (some [.nilIface])⟩,
 some ⟨(.int .i32), false, 1, 4, (.leaf (.int .i32)), (some [(.int .i32 (0 : Int))])⟩,
 some ⟨(.slice 29), false, 1, 24, (.leaf .slice), (some [(.slice none 0 0)])⟩,
 some ⟨.func, false, 1, 8, (.leaf .any), (some [.nilFunc])⟩,
 some ⟨.func, false, 1, 8, (.leaf .any), (some [.nilFunc])⟩,
 some ⟨(.int .i64), false, 1, 8, (.leaf (.int .i64)), (some [(.int .i64 (0 : Int))])⟩,
 some ⟨(.slice 5), false, 1, 24, (.leaf .slice), (some [(.slice none 0 0)])⟩,
 some ⟨(.slice 46), false, 1, 24, (.leaf .slice), (some [(.slice none 0 0)])⟩,
 some ⟨(.strct [(0, 3), (1, 2), (2, 9), (3, 26), (4, 27), (5, 22)]), true, 6, 104, (.agg [(.int .i64), (.int .i64), .str, .slice, .slice, .slice]), (some [(.int .i64 (0 : Int)), (.int .i64 (0 : Int)), (.string (⟨#[]⟩ : ByteArray)), (.slice none 0 0), (.slice none 0 0), (.slice none 0 0)])⟩,
 some ⟨(.strct [(0, 3), (1, 2), (2, 9), (3, 26), (4, 27), (5, 22)]), true, 6, 104, (.agg [(.int .i64), (.int .i64), .str, .slice, .slice, .slice]), (some [(.int .i64 (0 : Int)), (.int .i64 (0 : Int)), (.string (⟨#[]⟩ : ByteArray)), (.slice none 0 0), (.slice none 0 0), (.slice none 0 0)])⟩,
 some ⟨.iface, false, 1, 16, (.leaf .any), (some [.nilIface])⟩,
 some ⟨.iface, false, 1, 16, (.leaf .any), (some [.nilIface])⟩,
 some ⟨.func, false, 1, 8, (.leaf .any), (some [.nilFunc])⟩,
 some ⟨.func, false, 1, 8, (.leaf .any), (some [.nilFunc])⟩,
 some ⟨.func, false, 1, 8, (.leaf .any), (some [.nilFunc])⟩,
 some ⟨(.tup [22, 25]), false, 1, 0, (.leaf .any), (some [(.tuple #[(.slice none 0 0), (.int .i64 (0 : Int))])])⟩,
 some ⟨.func, false, 1, 8, (.leaf .any), (some [.nilFunc])⟩,
 some ⟨(.tup [22, 3]), false, 1, 0, (.leaf .any), (some [(.tuple #[(.slice none 0 0), (.int .i64 (0 : Int))])])⟩,
 some ⟨.func, false, 1, 8, (.leaf .any), (some [.nilFunc])⟩,
 some ⟨.func, false, 1, 8, (.leaf .any), (some [.nilFunc])⟩,
 some ⟨.func, false, 1, 8, (.leaf .any), (some [.nilFunc])⟩,
 some ⟨.func, false, 1, 8, (.leaf .any), (some [.nilFunc])⟩,
 some ⟨(.arr 2 5), true, 2, 2, (.agg [(.int .u8), (.int .u8)]), (some [(.int .u8 (0 : Int)), (.int .u8 (0 : Int))])⟩,
 some ⟨.func, false, 1, 8, (.leaf .any), (some [.nilFunc])⟩,
 some ⟨.func, false, 1, 8, (.leaf .any), (some [.nilFunc])⟩,
 some ⟨(.strct [(0, 9), (1, 29)]), true, 7, 120, (.agg [.str, (.int .i64), (.int .i64), .str, .slice, .slice, .slice]), (some [(.string (⟨#[]⟩ : ByteArray)), (.int .i64 (0 : Int)), (.int .i64 (0 : Int)), (.string (⟨#[]⟩ : ByteArray)), (.slice none 0 0), (.slice none 0 0), (.slice none 0 0)])⟩,
 some ⟨(.strct [(0, 9), (1, 29)]), true, 7, 120, (.agg [.str, (.int .i64), (.int .i64), .str, .slice, .slice, .slice]), (some [(.string (⟨#[]⟩ : ByteArray)), (.int .i64 (0 : Int)), (.int .i64 (0 : Int)), (.string (⟨#[]⟩ : ByteArray)), (.slice none 0 0), (.slice none 0 0), (.slice none 0 0)])⟩,
 some ⟨.func, false, 1, 8, (.leaf .any), (some [.nilFunc])⟩,
 some ⟨.func, false, 1, 8, (.leaf .any), (some [.nilFunc])⟩,
 some ⟨.func, false, 1, 8, (.leaf .any), (some [.nilFunc])⟩,
 some ⟨(.ptr 54), false, 1, 8, (.leaf .ptr), (some [(.pointer none)])⟩,
 some ⟨.func, false, 1, 8, (.leaf .any), (some [.nilFunc])⟩,
 some ⟨.func, false, 1, 8, (.leaf .any), (some [.nilFunc])⟩,
 some ⟨(.strct [(0, 31), (1, 2), (2, 9), (3, 4), (4, 51)]), true, 5, 56, (.agg [.any, (.int .i64), .str, .bool, .any]), (some [.nilIface, (.int .i64 (0 : Int)), (.string (⟨#[]⟩ : ByteArray)), (.bool false), .nilFunc])⟩,
 some ⟨(.strct [(0, 31), (1, 2), (2, 9), (3, 4), (4, 51)]), true, 5, 56, (.agg [.any, (.int .i64), .str, .bool, .any]), (some [.nilIface, (.int .i64 (0 : Int)), (.string (⟨#[]⟩ : ByteArray)), (.bool false), .nilFunc])⟩,
 some ⟨(.ptr 57), false, 1, 8, (.leaf .ptr), (some [(.pointer none)])⟩,
 some ⟨(.strct [(0, 22), (1, 25)]), true, 2, 32, (.agg [.slice, (.int .i64)]), (some [(.slice none 0 0), (.int .i64 (0 : Int))])⟩,
 some ⟨(.strct [(0, 22), (1, 25)]), true, 2, 32, (.agg [.slice, (.int .i64)]), (some [(.slice none 0 0), (.int .i64 (0 : Int))])⟩,
 some ⟨.func, false, 1, 8, (.leaf .any), (some [.nilFunc])⟩,
 some ⟨(.tup [29, 4, 25]), false, 1, 0, (.leaf .any), (some [(.tuple #[(.agg #[(.int .i64 (0 : Int)), (.int .i64 (0 : Int)), (.string (⟨#[]⟩ : ByteArray)), (.slice none 0 0), (.slice none 0 0), (.slice none 0 0)]), (.bool false), (.int .i64 (0 : Int))])])⟩,
 some ⟨(.slice 110), false, 1, 24, (.leaf .slice), (some [(.slice none 0 0)])⟩,
 some ⟨.func, false, 1, 8, (.leaf .any), (some [.nilFunc])⟩,
 some ⟨.func, false, 1, 8, (.leaf .any), (some [.nilFunc])⟩,
 some ⟨.func, false, 1, 8, (.leaf .any), (some [.nilFunc])⟩,
 some ⟨.func, false, 1, 8, (.leaf .any), (some [.nilFunc])⟩,
 some ⟨.func, false, 1, 8, (.leaf .any), (some [.nilFunc])⟩,
 some ⟨.func, false, 1, 8, (.leaf .any), (some [.nilFunc])⟩,
 some ⟨.func, false, 1, 8, (.leaf .any), (some [.nilFunc])⟩,
 some ⟨.func, false, 1, 8, (.leaf .any), (some [.nilFunc])⟩,
 some ⟨.func, false, 1, 8, (.leaf .any), (some [.nilFunc])⟩,
 some ⟨.func, false, 1, 8, (.leaf .any), (some [.nilFunc])⟩,
 some ⟨.func, false, 1, 8, (.leaf .any), (some [.nilFunc])⟩,
 some ⟨(.tup [26, 3]), false, 1, 0, (.leaf .any), (some [(.tuple #[(.slice none 0 0), (.int .i64 (0 : Int))])])⟩,
 some ⟨.func, false, 1, 8, (.leaf .any), (some [.nilFunc])⟩,
 some ⟨.func, false, 1, 8, (.leaf .any), (some [.nilFunc])⟩,
 some ⟨.func, false, 1, 8, (.leaf .any), (some [.nilFunc])⟩,
 some ⟨.func, false, 1, 8, (.leaf .any), (some [.nilFunc])⟩,
 some ⟨.func, false, 1, 8, (.leaf .any), (some [.nilFunc])⟩,
 some ⟨(.tup [4, 3]), false, 1, 0, (.leaf .any), (some [(.tuple #[(.bool false), (.int .i64 (0 : Int))])])⟩,
 some ⟨.func, false, 1, 8, (.leaf .any), (some [.nilFunc])⟩,
 some ⟨.func, false, 1, 8, (.leaf .any), (some [.nilFunc])⟩,
 some ⟨(.tup [29, 3]), false, 1, 0, (.leaf .any), (some [(.tuple #[(.agg #[(.int .i64 (0 : Int)), (.int .i64 (0 : Int)), (.string (⟨#[]⟩ : ByteArray)), (.slice none 0 0), (.slice none 0 0), (.slice none 0 0)]), (.int .i64 (0 : Int))])])⟩,
 some ⟨.func, false, 1, 8, (.leaf .any), (some [.nilFunc])⟩,
 some ⟨.func, false, 1, 8, (.leaf .any), (some [.nilFunc])⟩,
 some ⟨.func, false, 1, 8, (.leaf .any), (some [.nilFunc])⟩,
 some ⟨.func, false, 1, 8, (.leaf .any), (some [.nilFunc])⟩,
 some ⟨.func, false, 1, 8, (.leaf .any), (some [.nilFunc])⟩,
 some ⟨.func, false, 1, 8, (.leaf .any), (some [.nilFunc])⟩,
 some ⟨(.slice 22), false, 1, 24, (.leaf .slice), (some [(.slice none 0 0)])⟩,
 some ⟨(.slice 4), false, 1, 24, (.leaf .slice), (some [(.slice none 0 0)])⟩,
 some ⟨(.slice 9), false, 1, 24, (.leaf .slice), (some [(.slice none 0 0)])⟩,
 some ⟨(.tup [90, 4]), false, 1, 0, (.leaf .any), (some [(.tuple #[(.slice none 0 0), (.bool false)])])⟩,
 some ⟨.func, false, 1, 8, (.leaf .any), (some [.nilFunc])⟩,
 some ⟨.func, false, 1, 8, (.leaf .any), (some [.nilFunc])⟩,
 some ⟨.func, false, 1, 8, (.leaf .any), (some [.nilFunc])⟩,
 some ⟨.func, false, 1, 8, (.leaf .any), (some [.nilFunc])⟩,
 some ⟨(.tup [88, 3]), false, 1, 0, (.leaf .any), (some [(.tuple #[(.slice none 0 0), (.int .i64 (0 : Int))])])⟩,
 some ⟨.func, false, 1, 8, (.leaf .any), (some [.nilFunc])⟩,
 some ⟨.func, false, 1, 8, (.leaf .any), (some [.nilFunc])⟩,
 some ⟨.func, false, 1, 8, (.leaf .any), (some [.nilFunc])⟩,
 some ⟨(.slice 104), false, 1, 24, (.leaf .slice), (some [(.slice none 0 0)])⟩,
 some ⟨(.tup [100, 3]), false, 1, 0, (.leaf .any), (some [(.tuple #[(.slice none 0 0), (.int .i64 (0 : Int))])])⟩,
 some ⟨.func, false, 1, 8, (.leaf .any), (some [.nilFunc])⟩,
 some ⟨(.strct [(0, 3), (1, 22)]), true, 2, 32, (.agg [(.int .i64), .slice]), (some [(.int .i64 (0 : Int)), (.slice none 0 0)])⟩,
 some ⟨(.strct [(0, 3), (1, 22)]), true, 2, 32, (.agg [(.int .i64), .slice]), (some [(.int .i64 (0 : Int)), (.slice none 0 0)])⟩,
 some ⟨(.tup [22, 4, 3]), false, 1, 0, (.leaf .any), (some [(.tuple #[(.slice none 0 0), (.bool false), (.int .i64 (0 : Int))])])⟩,
 some ⟨.func, false, 1, 8, (.leaf .any), (some [.nilFunc])⟩,
 some ⟨(.tup [26, 4]), false, 1, 0, (.leaf .any), (some [(.tuple #[(.slice none 0 0), (.bool false)])])⟩,
 some ⟨.func, false, 1, 8, (.leaf .any), (some [.nilFunc])⟩,
 some ⟨(.strct [(0, 9), (1, 22)]), true, 2, 40, (.agg [.str, .slice]), (some [(.string (⟨#[]⟩ : ByteArray)), (.slice none 0 0)])⟩,
 some ⟨(.strct [(0, 9), (1, 22)]), true, 2, 40, (.agg [.str, .slice]), (some [(.string (⟨#[]⟩ : ByteArray)), (.slice none 0 0)])⟩,
 some ⟨.func, false, 1, 8, (.leaf .any), (some [.nilFunc])⟩,
 some ⟨.func, false, 1, 8, (.leaf .any), (some [.nilFunc])⟩,
 some ⟨.func, false, 1, 8, (.leaf .any), (some [.nilFunc])⟩,
 some ⟨.func, false, 1, 8, (.leaf .any), (some [.nilFunc])⟩,
 some ⟨.func, false, 1, 8, (.leaf .any), (some [.nilFunc])⟩,
 some ⟨.func, false, 1, 8, (.leaf .any), (some [.nilFunc])⟩,
 some ⟨.func, false, 1, 8, (.leaf .any), (some [.nilFunc])⟩,
 some ⟨(.slice 119), false, 1, 24, (.leaf .slice), (some [(.slice none 0 0)])⟩,
 some ⟨(.ptr 133), false, 1, 8, (.leaf .ptr), (some [(.pointer none)])⟩,
 some ⟨.func, false, 1, 8, (.leaf .any), (some [.nilFunc])⟩,
 some ⟨.func, false, 1, 8, (.leaf .any), (some [.nilFunc])⟩,
 some ⟨.func, false, 1, 8, (.leaf .any), (some [.nilFunc])⟩,
 some ⟨.func, false, 1, 8, (.leaf .any), (some [.nilFunc])⟩,
 some ⟨.func, false, 1, 8, (.leaf .any), (some [.nilFunc])⟩,
 some ⟨.func, false, 1, 8, (.leaf .any), (some [.nilFunc])⟩,
 some ⟨.func, false, 1, 8, (.leaf .any), (some [.nilFunc])⟩,
 some ⟨.func, false, 1, 8, (.leaf .any), (some [.nilFunc])⟩,
 some ⟨.func, false, 1, 8, (.leaf .any), (some [.nilFunc])⟩,
 some ⟨.func, false, 1, 8, (.leaf .any), (some [.nilFunc])⟩,
 some ⟨.func, false, 1, 8, (.leaf .any), (some [.nilFunc])⟩,
 some ⟨.func, false, 1, 8, (.leaf .any), (some [.nilFunc])⟩,
 some ⟨(.strct [(0, 3), (1, 3), (2, 29)]), true, 8, 120, (.agg [(.int .i64), (.int .i64), (.int .i64), (.int .i64), .str, .slice, .slice, .slice]), (some [(.int .i64 (0 : Int)), (.int .i64 (0 : Int)), (.int .i64 (0 : Int)), (.int .i64 (0 : Int)), (.string (⟨#[]⟩ : ByteArray)), (.slice none 0 0), (.slice none 0 0), (.slice none 0 0)])⟩,
 some ⟨(.strct [(0, 3), (1, 3), (2, 29)]), true, 8, 120, (.agg [(.int .i64), (.int .i64), (.int .i64), (.int .i64), .str, .slice, .slice, .slice]), (some [(.int .i64 (0 : Int)), (.int .i64 (0 : Int)), (.int .i64 (0 : Int)), (.int .i64 (0 : Int)), (.string (⟨#[]⟩ : ByteArray)), (.slice none 0 0), (.slice none 0 0), (.slice none 0 0)])⟩,
 some ⟨(.int .u64), false, 1, 8, (.leaf (.int .u64)), (some [(.int .u64 (0 : Int))])⟩,
 some ⟨(.int .u64), false, 1, 8, (.leaf (.int .u64)), (some [(.int .u64 (0 : Int))])⟩,
 some ⟨.func, false, 1, 8, (.leaf .any), (some [.nilFunc])⟩,
 some ⟨.func, false, 1, 8, (.leaf .any), (some [.nilFunc])⟩,
 some ⟨(.strct [(0, 17), (1, 17), (2, 17), (3, 9)]), true, 4, 40, (.agg [.ptr, .ptr, .ptr, .str]), (some [(.pointer none), (.pointer none), (.pointer none), (.string (⟨#[]⟩ : ByteArray))])⟩,
 some ⟨(.strct [(0, 17), (1, 17), (2, 17), (3, 9)]), true, 4, 40, (.agg [.ptr, .ptr, .ptr, .str]), (some [(.pointer none), (.pointer none), (.pointer none), (.string (⟨#[]⟩ : ByteArray))])⟩,
 some ⟨(.arr 0 16), true, 0, 0, (.agg []), (some [])⟩,
 some ⟨(.strct [(0, 140)]), true, 0, 0, (.agg []), (some [])⟩,
 some ⟨(.strct [(0, 140)]), true, 0, 0, (.agg []), (some [])⟩,
 some ⟨.func, false, 1, 8, (.leaf .any), (some [.nilFunc])⟩,
 some ⟨(.int .u32), false, 1, 4, (.leaf (.int .u32)), (some [(.int .u32 (0 : Int))])⟩,
 some ⟨(.int .u8), false, 1, 1, (.leaf (.int .u8)), (some [(.int .u8 (0 : Int))])⟩,
 some ⟨(.int .u8), false, 1, 1, (.leaf (.int .u8)), (some [(.int .u8 (0 : Int))])⟩,
 some ⟨.func, false, 1, 8, (.leaf .any), (some [.nilFunc])⟩,
 some ⟨(.ptr 5), false, 1, 8, (.leaf .ptr), (some [(.pointer none)])⟩,
 some ⟨(.int .i32), false, 1, 4, (.leaf (.int .i32)), (some [(.int .i32 (0 : Int))])⟩,
 some ⟨(.int .i32), false, 1, 4, (.leaf (.int .i32)), (some [(.int .i32 (0 : Int))])⟩,
 some ⟨(.strct [(0, 12), (1, 12), (2, 144), (3, 145), (4, 5), (5, 5), (6, 146), (7, 147), (8, 148), (9, 149), (10, 150)]), true, 11, 48, (.agg [(.int .u64), (.int .u64), (.int .u32), (.int .u8), (.int .u8), (.int .u8), (.int .u8), .any, .ptr, (.int .i32), (.int .i32)]), (some [(.int .u64 (0 : Int)), (.int .u64 (0 : Int)), (.int .u32 (0 : Int)), (.int .u8 (0 : Int)), (.int .u8 (0 : Int)), (.int .u8 (0 : Int)), (.int .u8 (0 : Int)), .nilFunc, (.pointer none), (.int .i32 (0 : Int)), (.int .i32 (0 : Int))])⟩,
 some ⟨(.strct [(0, 12), (1, 12), (2, 144), (3, 145), (4, 5), (5, 5), (6, 146), (7, 147), (8, 148), (9, 149), (10, 150)]), true, 11, 48, (.agg [(.int .u64), (.int .u64), (.int .u32), (.int .u8), (.int .u8), (.int .u8), (.int .u8), .any, .ptr, (.int .i32), (.int .i32)]), (some [(.int .u64 (0 : Int)), (.int .u64 (0 : Int)), (.int .u32 (0 : Int)), (.int .u8 (0 : Int)), (.int .u8 (0 : Int)), (.int .u8 (0 : Int)), (.int .u8 (0 : Int)), .nilFunc, (.pointer none), (.int .i32 (0 : Int)), (.int .i32 (0 : Int))])⟩,
 some ⟨.other, false, 1, 8, (.leaf .any), (some [(.pointer none)])⟩]
def keep : List Bool := [true, true, true, true, true, true, true, true, true, true, true, true, true, true, true, true, true, true, true, true, true, true, true, true, true, true, true, true, true, true, true, true, true, true, true, true, true, true, true, true, true, true, true, true, true, true, true, true, true, true, true, true, true, true, true, true, true, true, true, true, true, true, true, true, true, true, true, true, true, true, true, true, true, true, true, true, true, true, true, true, true, true, true, true, true, true, true, true, true, true, true, true, true, true, true, true, true, true, true, true, true, true, true, true, true, true, true, true, true, true, true, true, true, true, true, true, true, true, true, true, true, true, true, true, true, true, true, true, true, true, true, true, true, true, true, true, true, true, true, true, true, true, true, true, true, true, true, true, true, true, true, true, true, true]
def T (t : Nat) : Option TI := match nthO tb t with | some o => o | none => none
theorem tb_eq : (keep.zipIdx.map fun x => cond x.1 (tbOf pg x.2) none) = tb := by kernel_rfl
theorem tok : TOk pg T := TOk_of tb_eq
def bls : List Nat := [0, 1, 102, 103, 104, 105, 106, 107, 108, 109, 110, 111, 112, 113, 114, 115, 116, 117, 121, 122]
def bl (f : Nat) : Bool := memN f bls || Nat.ble 123 f
theorem blok : Bl pg bl := Bl_of (n := 123) (fun f h => by
    unfold bl at h
    cases hb : Nat.ble 123 f with
    | true => rw [hb, Bool.or_true] at h; cases h
    | false => exact Nat.lt_of_not_le fun hle => by rw [Nat.ble_eq_true_of_le hle] at hb; cases hb) (by kernel_rfl)
theorem mixed : pg.follows .mixedOrders = true := by kernel_rfl
end Go.Proofs.Sw
