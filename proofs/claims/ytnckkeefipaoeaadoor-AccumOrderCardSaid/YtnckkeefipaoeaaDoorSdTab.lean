/- By a program of mine (Gen): the table of the program's types, the numbers of its functions and types by name. -/
import Derived.Test.YtnckkeefipaoeaaDoorProg
import Derived.Test.YtnckkeefipaoeaaDoorEng6
set_option linter.unusedVariables false
set_option maxRecDepth 100000
namespace Go.Proofs.Sd
open Go Go.Eng
open Go.Proofs
/-- The program. -/
noncomputable abbrev pg : Program := Tryd.prog
abbrev f_main_main : Nat := 0
abbrev f_gosem_cut : Nat := 1
abbrev f_gosem_cut_init : Nat := 2
abbrev f_aqueductlaw12_AccumOrder : Nat := 3
abbrev f_aqueductlaw12_AccumKnown : Nat := 4
abbrev f_aqueductlaw12_awake : Nat := 5
abbrev f_aqueductlaw7_Few : Nat := 6
abbrev f_aqueductref5_May : Nat := 7
abbrev f_accum_New : Nat := 8
abbrev f_Paccum_State_Add : Nat := 9
abbrev f_Paccum_State_Value : Nat := 10
abbrev f_aqueductlaw12_AccumKnown_1 : Nat := 11
abbrev f_accum_Kind : Nat := 12
abbrev f_Paccum_State_Size : Nat := 13
abbrev f_aqueductlaw5_Small : Nat := 14
abbrev f_aqueductlaw5_Weight : Nat := 15
abbrev f_aqueductref5_Encode : Nat := 16
abbrev f_Paccum_State_none : Nat := 17
abbrev f_Paccum_State_sum : Nat := 18
abbrev f_num_Of : Nat := 19
abbrev f_Paccum_State_least : Nat := 20
abbrev f_Paccum_State_greatest : Nat := 21
abbrev f_Paccum_State_first : Nat := 22
abbrev f_Paccum_State_last : Nat := 23
abbrev f_Paccum_State_push : Nat := 24
abbrev f_accum_own : Nat := 25
abbrev f_Paccum_State_set : Nat := 26
abbrev f_bson_Copy : Nat := 27
abbrev f_aqueductlaw5_Shallow : Nat := 28
abbrev f_aqueductref5_own : Nat := 29
abbrev f_num_Add : Nat := 30
abbrev f_Paccum_State_better : Nat := 31
abbrev f_strconv_Itoa : Nat := 32
abbrev f_bson_Size : Nat := 33
abbrev f_order_Compare : Nat := 34
abbrev f_bytes_Clone : Nat := 35
abbrev f_slices_Clone_Sapi_Field_api_Field : Nat := 36
abbrev f_slices_Clone_Sapi_Value_api_Value : Nat := 37
abbrev f_aqueductref5_bare : Nat := 38
abbrev f_aqueductref5_num : Nat := 39
abbrev f_aqueductref5_Utf8 : Nat := 40
abbrev f_aqueductref5_fields : Nat := 41
abbrev f_aqueductref5_digits : Nat := 42
abbrev f_num_reckoned : Nat := 43
abbrev f_num_add : Nat := 44
abbrev f_internal_strconv_Itoa : Nat := 45
abbrev f_bson_plain : Nat := 46
abbrev f_bson_tried : Nat := 47
abbrev f_bson_Size_1 : Nat := 48
abbrev f_Pbson_weigher_fields : Nat := 49
abbrev f_cmp_Compare_int : Nat := 50
abbrev f_order_Class : Nat := 51
abbrev f_order_way : Nat := 52
abbrev f_aqueductref5_NameMay : Nat := 53
abbrev f_aqueductref5_code : Nat := 54
abbrev f_num_none : Nat := 55
abbrev f_num_number : Nat := 56
abbrev f_num_within : Nat := 57
abbrev f_internal_strconv_FormatInt : Nat := 58
abbrev f_bson_tried_1 : Nat := 59
abbrev f_bson_must : Nat := 60
abbrev f_Pbson_weigher_add : Nat := 61
abbrev f_unicode_utf8_ValidString : Nat := 62
abbrev f_bytes_IndexByte : Nat := 63
abbrev f_Pbson_weigher_value : Nat := 64
abbrev f_cmp_isNaN_int : Nat := 65
abbrev f_order_way_1 : Nat := 66
abbrev f_cmp_Compare_int64 : Nat := 67
abbrev f_order_way_2 : Nat := 68
abbrev f_cmp_Compare_string : Nat := 69
abbrev f_order_way_3 : Nat := 70
abbrev f_slices_CompareFunc_Sapi_Field_Sapi_Field_api_Field_api_Field : Nat := 71
abbrev f_order_fields : Nat := 72
abbrev f_order_way_4 : Nat := 73
abbrev f_slices_CompareFunc_Sapi_Value_Sapi_Value_api_Value_api_Value : Nat := 74
abbrev f_order_way_5 : Nat := 75
abbrev f_cmp_Or_int : Nat := 76
abbrev f_bytes_Compare : Nat := 77
abbrev f_order_way_6 : Nat := 78
abbrev f_order_way_7 : Nat := 79
abbrev f_internal_strconv_small : Nat := 80
abbrev f_internal_strconv_numDigits : Nat := 81
abbrev f_internal_strconv_formatBase10 : Nat := 82
abbrev f_internal_strconv_formatBits : Nat := 83
abbrev f_unicode_utf8_word_string : Nat := 84
abbrev f_internal_bytealg_IndexByte : Nat := 85
abbrev f_bson_code : Nat := 86
abbrev f_bson_named : Nat := 87
abbrev f_cmp_isNaN_int64 : Nat := 88
abbrev f_cmp_isNaN_string : Nat := 89
abbrev f_internal_bytealg_Compare : Nat := 90
abbrev f_internal_strconv_log10Pow2 : Nat := 91
abbrev f_math_bits_Len64 : Nat := 92
abbrev f_internal_strconv_bool2_int : Nat := 93
abbrev f_internal_strconv_isPowerOfTwo : Nat := 94
abbrev f_math_bits_TrailingZeros : Nat := 95
abbrev f_math_bits_TrailingZeros32 : Nat := 96
abbrev f_math_bits_TrailingZeros64 : Nat := 97
abbrev f_runtime_boundsError_Error : Nat := 98
abbrev f_runtime_boundsError_RuntimeError : Nat := 99
abbrev f_runtime_errorString_Error : Nat := 100
abbrev f_runtime_errorString_RuntimeError : Nat := 101
abbrev f_runtime_plainError_Error : Nat := 102
abbrev f_runtime_plainError_RuntimeError : Nat := 103
abbrev f_runtime_errorAddressString_Error : Nat := 104
abbrev f_runtime_errorAddressString_RuntimeError : Nat := 105
abbrev f_Pruntime_TypeAssertionError_Error : Nat := 106
abbrev f_Pruntime_TypeAssertionError_RuntimeError : Nat := 107
abbrev f_Pruntime_PanicNilError_Error : Nat := 108
abbrev f_Pruntime_PanicNilError_RuntimeError : Nat := 109
abbrev f_Pinternal_abi_Type_Align : Nat := 110
abbrev f_internal_runtime_maps_unhashableTypeError_Error : Nat := 111
abbrev f_internal_runtime_maps_unhashableTypeError_RuntimeError : Nat := 112
abbrev f_api_Errno_Error : Nat := 113
abbrev f_internal_abi_Kind_String : Nat := 114
abbrev f_var_s_door_gosem_cut_vars_holds_initialisers_alone_see_the_manifest_s_ : Nat := 115
abbrev f_var_s_door_internal_strconv_uint64pow10_is_laid_by_its_own_initialiser : Nat := 116
abbrev f_var_s_door_math_bits_deBruijn32tab_is_laid_by_its_own_initialiser_plai : Nat := 117
abbrev f_var_s_door_math_bits_deBruijn64tab_is_laid_by_its_own_initialiser_plai : Nat := 118
abbrev f_var_s_door_the_look_of_gosem_cut_vars_went_over_the_folder_that_the_ca : Nat := 119
abbrev f_var_s_door_unicode_utf8_acceptRanges_is_laid_by_its_own_initialiser_pl : Nat := 120
abbrev f_var_s_door_unicode_utf8_first_is_laid_by_its_text_alone_pinned_1 : Nat := 121
abbrev f_gosem_cut_vars : Nat := 122
abbrev t_ : Nat := 0
abbrev t_func : Nat := 1
abbrev t_int64 : Nat := 2
abbrev t_int : Nat := 3
abbrev t_bool : Nat := 4
abbrev t_uint8 : Nat := 5
abbrev t_abi_BoundsErrorCode : Nat := 6
abbrev t_struct_x_int64_y_int_signed_bool_code_abi_BoundsErrorCode : Nat := 7
abbrev t_runtime_boundsError : Nat := 8
abbrev t_string : Nat := 9
abbrev t_runtime_errorString : Nat := 10
abbrev t_runtime_plainError : Nat := 11
abbrev t_uintptr : Nat := 12
abbrev t_struct_msg_string_addr_uintptr : Nat := 13
abbrev t_runtime_errorAddressString : Nat := 14
abbrev t_Pruntime_TypeAssertionError : Nat := 15
abbrev t_Pruntime_PanicNilError : Nat := 16
abbrev t_Pabi_Type : Nat := 17
abbrev t_struct_typ_Pabi_Type : Nat := 18
abbrev t_maps_unhashableTypeError : Nat := 19
abbrev t_interface : Nat := 20
abbrev t_int32 : Nat := 21
abbrev t_Sint16 : Nat := 22
abbrev t_Sapi_Value : Nat := 23
abbrev t_func_bool : Nat := 24
abbrev t_func_Sapi_Value_bool : Nat := 25
abbrev t_Suint8 : Nat := 26
abbrev t_Sapi_Field : Nat := 27
abbrev t_struct_Kind_int_N_int64_S_string_B_Suint8_F_Sapi_Field_L_Sapi_Value : Nat := 28
abbrev t_api_Value : Nat := 29
abbrev t_func_api_Value_bool : Nat := 30
abbrev t_struct_Name_string_V_api_Value : Nat := 31
abbrev t_api_Field : Nat := 32
abbrev t_Paccum_State : Nat := 33
abbrev t_func_int_Paccum_State : Nat := 34
abbrev t_int16 : Nat := 35
abbrev t_api_Errno : Nat := 36
abbrev t_func_api_Value_api_Errno : Nat := 37
abbrev t_func_api_Value : Nat := 38
abbrev t_func_Sint16_Sapi_Value_bool : Nat := 39
abbrev t_func_int64_api_Value : Nat := 40
abbrev t_Sstring : Nat := 41
abbrev t_func_string_int : Nat := 42
abbrev t_func_int : Nat := 43
abbrev t_func_api_Value_int_int : Nat := 44
abbrev t_Suint8_int : Nat := 45
abbrev t_func_api_Value_Suint8_int : Nat := 46
abbrev t_struct_add_func_api_Value_api_Errno_many_int_v_api_Value_size_int_told : Nat := 47
abbrev t_accum_State : Nat := 48
abbrev t_func_api_Value_int : Nat := 49
abbrev t_func_api_Value_api_Value : Nat := 50
abbrev t_func_api_Value_int_bool : Nat := 51
abbrev t_Suint8_bool : Nat := 52
abbrev t_func_api_Value_int_Suint8_bool : Nat := 53
abbrev t_api_Value_api_Errno : Nat := 54
abbrev t_func_api_Value_api_Value_api_Value_api_Errno : Nat := 55
abbrev t_func_api_Value_int_56 : Nat := 56
abbrev t_func_int_string : Nat := 57
abbrev t_func_api_Value_api_Value_int : Nat := 58
abbrev t_func_Suint8_Suint8 : Nat := 59
abbrev t_func_Sapi_Field_Sapi_Field : Nat := 60
abbrev t_func_Sapi_Value_Sapi_Value : Nat := 61
abbrev t_func_api_Value_bool_bool_bool_bool_bool_bool : Nat := 62
abbrev t_func_int64_int_Suint8 : Nat := 63
abbrev t_func_string_bool : Nat := 64
abbrev t_func_Sapi_Field_int_Suint8_bool : Nat := 65
abbrev t_func_api_Value_api_Value_func_int64_int64_int64_api_Errno_api_Value_ap : Nat := 66
abbrev t_func_int64_int64_int64_api_Errno : Nat := 67
abbrev t_Pbson_weigher : Nat := 68
abbrev t_struct_size_int : Nat := 69
abbrev t_bson_weigher : Nat := 70
abbrev t_func_func_api_Errno : Nat := 71
abbrev t_func_Sapi_Field_int : Nat := 72
abbrev t_func_int_int_int : Nat := 73
abbrev t_func_int_int : Nat := 74
abbrev t_func_int_func_api_Value_api_Value_int : Nat := 75
abbrev t_uint64 : Nat := 76
abbrev t_uint : Nat := 77
abbrev t_func_int_uint8 : Nat := 78
abbrev t_int64_api_Errno : Nat := 79
abbrev t_func_int64_bool_int64_api_Errno : Nat := 80
abbrev t_func_int64_int_string : Nat := 81
abbrev t_func_bool_api_Errno : Nat := 82
abbrev t_func_int_83 : Nat := 83
abbrev t_map_string_struct : Nat := 84
abbrev t_struct : Nat := 85
abbrev t_struct_bool : Nat := 86
abbrev t_func_Suint8_uint8_int : Nat := 87
abbrev t_func_int_bool : Nat := 88
abbrev t_func_int64_int64_int : Nat := 89
abbrev t_func_string_string_int : Nat := 90
abbrev t_func_Sapi_Field_Sapi_Field_func_api_Field_api_Field_int_int : Nat := 91
abbrev t_func_api_Field_api_Field_int : Nat := 92
abbrev t_func_Sapi_Value_Sapi_Value_func_api_Value_api_Value_int_int : Nat := 93
abbrev t_func_int_int_94 : Nat := 94
abbrev t_func_Suint8_Suint8_int : Nat := 95
abbrev t_24_uint8 : Nat := 96
abbrev t_func_uint64_int : Nat := 97
abbrev t_func_Suint8_uint64 : Nat := 98
abbrev t_Suint8_string : Nat := 99
abbrev t_func_Suint8_uint64_int_bool_bool_Suint8_string : Nat := 100
abbrev t_func_string_uintptr : Nat := 101
abbrev t_256_uint8 : Nat := 102
abbrev t_struct_lo_uint8_hi_uint8 : Nat := 103
abbrev t_utf8_acceptRange : Nat := 104
abbrev t_16_utf8_acceptRange : Nat := 105
abbrev t_func_Sapi_Value_Sapi_Field : Nat := 106
abbrev t_func_int64_bool : Nat := 107
abbrev t_Sint : Nat := 108
abbrev t_func_bool_int : Nat := 109
abbrev t_20_uint64 : Nat := 110
abbrev t_uint32 : Nat := 111
abbrev t_65_uint8 : Nat := 112
abbrev t_func_uint_int : Nat := 113
abbrev t_func_uint32_int : Nat := 114
abbrev t_32_uint8 : Nat := 115
abbrev t_64_uint8 : Nat := 116
abbrev t_func_string : Nat := 117
abbrev t_struct_interface_Pabi_Type_concrete_Pabi_Type_asserted_Pabi_Type_missi : Nat := 118
abbrev t_runtime_TypeAssertionError : Nat := 119
abbrev t_0_Pruntime_PanicNilError : Nat := 120
abbrev t_struct_0_Pruntime_PanicNilError : Nat := 121
abbrev t_runtime_PanicNilError : Nat := 122
abbrev t_abi_TFlag : Nat := 123
abbrev t_abi_Kind : Nat := 124
abbrev t_func_unsafe_Pointer_unsafe_Pointer_bool : Nat := 125
abbrev t_Puint8 : Nat := 126
abbrev t_abi_NameOff : Nat := 127
abbrev t_abi_TypeOff : Nat := 128
abbrev t_struct_Size_uintptr_PtrBytes_uintptr_Hash_uint32_TFlag_abi_TFlag_Align : Nat := 129
abbrev t_abi_Type : Nat := 130
abbrev t_unsafe_Pointer : Nat := 131
def tb : List (Option TI) := [
 some ⟨(.tup []), false, 1, 0, (.leaf .any), (some [(.tuple #[])])⟩,
 some ⟨.func, false, 1, 8, (.leaf .any), (some [.nilFunc])⟩,
 some ⟨(.int .i64), false, 1, 8, (.leaf (.int .i64)), (some [(.int .i64 (0 : Int))])⟩,
 some ⟨(.int .i64), false, 1, 8, (.leaf (.int .i64)), (some [(.int .i64 (0 : Int))])⟩,
 some ⟨.bool, false, 1, 1, (.leaf .bool), (some [(.bool false)])⟩,
 some ⟨(.int .u8), false, 1, 1, (.leaf (.int .u8)), (some [(.int .u8 (0 : Int))])⟩,
 some ⟨(.int .u8), false, 1, 1, (.leaf (.int .u8)), (some [(.int .u8 (0 : Int))])⟩,
 some ⟨(.strct [(0, 2), (1, 3), (2, 4), (3, 6)]), true, 4, 24, (.agg [(.int .i64), (.int .i64), .bool, (.int .u8)]), (some [(.int .i64 (0 : Int)), (.int .i64 (0 : Int)), (.bool false), (.int .u8 (0 : Int))])⟩,
 some ⟨(.strct [(0, 2), (1, 3), (2, 4), (3, 6)]), true, 4, 24, (.agg [(.int .i64), (.int .i64), .bool, (.int .u8)]), (some [(.int .i64 (0 : Int)), (.int .i64 (0 : Int)), (.bool false), (.int .u8 (0 : Int))])⟩,
 some ⟨.str, false, 1, 16, (.leaf .str), (some [(.string (⟨#[]⟩ : ByteArray))])⟩,
 some ⟨.str, false, 1, 16, (.leaf .str), (some [(.string (⟨#[]⟩ : ByteArray))])⟩,
 some ⟨.str, false, 1, 16, (.leaf .str), (some [(.string (⟨#[]⟩ : ByteArray))])⟩,
 some ⟨(.int .u64), false, 1, 8, (.leaf (.int .u64)), (some [(.int .u64 (0 : Int))])⟩,
 some ⟨(.strct [(0, 9), (1, 12)]), true, 2, 24, (.agg [.str, (.int .u64)]), (some [(.string (⟨#[]⟩ : ByteArray)), (.int .u64 (0 : Int))])⟩,
 some ⟨(.strct [(0, 9), (1, 12)]), true, 2, 24, (.agg [.str, (.int .u64)]), (some [(.string (⟨#[]⟩ : ByteArray)), (.int .u64 (0 : Int))])⟩,
 some ⟨(.ptr 119), false, 1, 8, (.leaf .ptr), (some [(.pointer none)])⟩,
 some ⟨(.ptr 122), false, 1, 8, (.leaf .ptr), (some [(.pointer none)])⟩,
 some ⟨(.ptr 130), false, 1, 8, (.leaf .ptr), (some [(.pointer none)])⟩,
 some ⟨(.strct [(0, 17)]), true, 1, 8, (.agg [.ptr]), (some [(.pointer none)])⟩,
 some ⟨(.strct [(0, 17)]), true, 1, 8, (.agg [.ptr]), (some [(.pointer none)])⟩,
 some ⟨.iface, false, 1, 16, (.leaf .any), (some [.nilIface])⟩,
 some ⟨(.int .i32), false, 1, 4, (.leaf (.int .i32)), (some [(.int .i32 (0 : Int))])⟩,
 some ⟨(.slice 35), false, 1, 24, (.leaf .slice), (some [(.slice none 0 0)])⟩,
 some ⟨(.slice 29), false, 1, 24, (.leaf .slice), (some [(.slice none 0 0)])⟩,
 some ⟨.func, false, 1, 8, (.leaf .any), (some [.nilFunc])⟩,
 some ⟨.func, false, 1, 8, (.leaf .any), (some [.nilFunc])⟩,
 some ⟨(.slice 5), false, 1, 24, (.leaf .slice), (some [(.slice none 0 0)])⟩,
 some ⟨(.slice 32), false, 1, 24, (.leaf .slice), (some [(.slice none 0 0)])⟩,
 some ⟨(.strct [(0, 3), (1, 2), (2, 9), (3, 26), (4, 27), (5, 23)]), true, 6, 104, (.agg [(.int .i64), (.int .i64), .str, .slice, .slice, .slice]), (some [(.int .i64 (0 : Int)), (.int .i64 (0 : Int)), (.string (⟨#[]⟩ : ByteArray)), (.slice none 0 0), (.slice none 0 0), (.slice none 0 0)])⟩,
 some ⟨(.strct [(0, 3), (1, 2), (2, 9), (3, 26), (4, 27), (5, 23)]), true, 6, 104, (.agg [(.int .i64), (.int .i64), .str, .slice, .slice, .slice]), (some [(.int .i64 (0 : Int)), (.int .i64 (0 : Int)), (.string (⟨#[]⟩ : ByteArray)), (.slice none 0 0), (.slice none 0 0), (.slice none 0 0)])⟩,
 some ⟨.func, false, 1, 8, (.leaf .any), (some [.nilFunc])⟩,
 some ⟨(.strct [(0, 9), (1, 29)]), true, 7, 120, (.agg [.str, (.int .i64), (.int .i64), .str, .slice, .slice, .slice]), (some [(.string (⟨#[]⟩ : ByteArray)), (.int .i64 (0 : Int)), (.int .i64 (0 : Int)), (.string (⟨#[]⟩ : ByteArray)), (.slice none 0 0), (.slice none 0 0), (.slice none 0 0)])⟩,
 some ⟨(.strct [(0, 9), (1, 29)]), true, 7, 120, (.agg [.str, (.int .i64), (.int .i64), .str, .slice, .slice, .slice]), (some [(.string (⟨#[]⟩ : ByteArray)), (.int .i64 (0 : Int)), (.int .i64 (0 : Int)), (.string (⟨#[]⟩ : ByteArray)), (.slice none 0 0), (.slice none 0 0), (.slice none 0 0)])⟩,
 some ⟨(.ptr 48), false, 1, 8, (.leaf .ptr), (some [(.pointer none)])⟩,
 some ⟨.func, false, 1, 8, (.leaf .any), (some [.nilFunc])⟩,
 some ⟨(.int .i16), false, 1, 2, (.leaf (.int .i16)), (some [(.int .i16 (0 : Int))])⟩,
 some ⟨(.int .i64), false, 1, 8, (.leaf (.int .i64)), (some [(.int .i64 (0 : Int))])⟩,
 some ⟨.func, false, 1, 8, (.leaf .any), (some [.nilFunc])⟩,
 some ⟨.func, false, 1, 8, (.leaf .any), (some [.nilFunc])⟩,
 some ⟨.func, false, 1, 8, (.leaf .any), (some [.nilFunc])⟩,
 some ⟨.func, false, 1, 8, (.leaf .any), (some [.nilFunc])⟩,
 some ⟨(.slice 9), false, 1, 24, (.leaf .slice), (some [(.slice none 0 0)])⟩,
 some ⟨.func, false, 1, 8, (.leaf .any), (some [.nilFunc])⟩,
 some ⟨.func, false, 1, 8, (.leaf .any), (some [.nilFunc])⟩,
 some ⟨.func, false, 1, 8, (.leaf .any), (some [.nilFunc])⟩,
 some ⟨(.tup [26, 3]), false, 1, 0, (.leaf .any), (some [(.tuple #[(.slice none 0 0), (.int .i64 (0 : Int))])])⟩,
 some ⟨.func, false, 1, 8, (.leaf .any), (some [.nilFunc])⟩,
 some ⟨(.strct [(0, 37), (1, 3), (2, 29), (8, 3), (9, 4)]), true, 10, 136, (.agg [.any, (.int .i64), (.int .i64), (.int .i64), .str, .slice, .slice, .slice, (.int .i64), .bool]), (some [.nilFunc, (.int .i64 (0 : Int)), (.int .i64 (0 : Int)), (.int .i64 (0 : Int)), (.string (⟨#[]⟩ : ByteArray)), (.slice none 0 0), (.slice none 0 0), (.slice none 0 0), (.int .i64 (0 : Int)), (.bool false)])⟩,
 some ⟨(.strct [(0, 37), (1, 3), (2, 29), (8, 3), (9, 4)]), true, 10, 136, (.agg [.any, (.int .i64), (.int .i64), (.int .i64), .str, .slice, .slice, .slice, (.int .i64), .bool]), (some [.nilFunc, (.int .i64 (0 : Int)), (.int .i64 (0 : Int)), (.int .i64 (0 : Int)), (.string (⟨#[]⟩ : ByteArray)), (.slice none 0 0), (.slice none 0 0), (.slice none 0 0), (.int .i64 (0 : Int)), (.bool false)])⟩,
 some ⟨.func, false, 1, 8, (.leaf .any), (some [.nilFunc])⟩,
 some ⟨.func, false, 1, 8, (.leaf .any), (some [.nilFunc])⟩,
 some ⟨.func, false, 1, 8, (.leaf .any), (some [.nilFunc])⟩,
 some ⟨(.tup [26, 4]), false, 1, 0, (.leaf .any), (some [(.tuple #[(.slice none 0 0), (.bool false)])])⟩,
 some ⟨.func, false, 1, 8, (.leaf .any), (some [.nilFunc])⟩,
 some ⟨(.tup [29, 36]), false, 1, 0, (.leaf .any), (some [(.tuple #[(.agg #[(.int .i64 (0 : Int)), (.int .i64 (0 : Int)), (.string (⟨#[]⟩ : ByteArray)), (.slice none 0 0), (.slice none 0 0), (.slice none 0 0)]), (.int .i64 (0 : Int))])])⟩,
 some ⟨.func, false, 1, 8, (.leaf .any), (some [.nilFunc])⟩,
 some ⟨.func, false, 1, 8, (.leaf .any), (some [.nilFunc])⟩,
 some ⟨.func, false, 1, 8, (.leaf .any), (some [.nilFunc])⟩,
 some ⟨.func, false, 1, 8, (.leaf .any), (some [.nilFunc])⟩,
 some ⟨.func, false, 1, 8, (.leaf .any), (some [.nilFunc])⟩,
 some ⟨.func, false, 1, 8, (.leaf .any), (some [.nilFunc])⟩,
 some ⟨.func, false, 1, 8, (.leaf .any), (some [.nilFunc])⟩,
 some ⟨.func, false, 1, 8, (.leaf .any), (some [.nilFunc])⟩,
 some ⟨.func, false, 1, 8, (.leaf .any), (some [.nilFunc])⟩,
 some ⟨.func, false, 1, 8, (.leaf .any), (some [.nilFunc])⟩,
 some ⟨.func, false, 1, 8, (.leaf .any), (some [.nilFunc])⟩,
 some ⟨.func, false, 1, 8, (.leaf .any), (some [.nilFunc])⟩,
 some ⟨.func, false, 1, 8, (.leaf .any), (some [.nilFunc])⟩,
 some ⟨(.ptr 70), false, 1, 8, (.leaf .ptr), (some [(.pointer none)])⟩,
 some ⟨(.strct [(0, 3)]), true, 1, 8, (.agg [(.int .i64)]), (some [(.int .i64 (0 : Int))])⟩,
 some ⟨(.strct [(0, 3)]), true, 1, 8, (.agg [(.int .i64)]), (some [(.int .i64 (0 : Int))])⟩,
 some ⟨.func, false, 1, 8, (.leaf .any), (some [.nilFunc])⟩,
 some ⟨.func, false, 1, 8, (.leaf .any), (some [.nilFunc])⟩,
 some ⟨.func, false, 1, 8, (.leaf .any), (some [.nilFunc])⟩,
 some ⟨.func, false, 1, 8, (.leaf .any), (some [.nilFunc])⟩,
 some ⟨.func, false, 1, 8, (.leaf .any), (some [.nilFunc])⟩,
 some ⟨(.int .u64), false, 1, 8, (.leaf (.int .u64)), (some [(.int .u64 (0 : Int))])⟩,
 some ⟨(.int .u64), false, 1, 8, (.leaf (.int .u64)), (some [(.int .u64 (0 : Int))])⟩,
 some ⟨.func, false, 1, 8, (.leaf .any), (some [.nilFunc])⟩,
 some ⟨(.tup [2, 36]), false, 1, 0, (.leaf .any), (some [(.tuple #[(.int .i64 (0 : Int)), (.int .i64 (0 : Int))])])⟩,
 some ⟨.func, false, 1, 8, (.leaf .any), (some [.nilFunc])⟩,
 some ⟨.func, false, 1, 8, (.leaf .any), (some [.nilFunc])⟩,
 some ⟨.func, false, 1, 8, (.leaf .any), (some [.nilFunc])⟩,
 some ⟨.func, false, 1, 8, (.leaf .any), (some [.nilFunc])⟩,
 some ⟨.map, false, 1, 8, (.leaf .map), (some [(.map none)])⟩,
 some ⟨(.strct []), true, 0, 0, (.agg []), (some [])⟩,
 some ⟨(.tup [85, 4]), false, 1, 0, (.leaf .any), (some [(.tuple #[(.agg #[]), (.bool false)])])⟩,
 some ⟨.func, false, 1, 8, (.leaf .any), (some [.nilFunc])⟩,
 some ⟨.func, false, 1, 8, (.leaf .any), (some [.nilFunc])⟩,
 some ⟨.func, false, 1, 8, (.leaf .any), (some [.nilFunc])⟩,
 some ⟨.func, false, 1, 8, (.leaf .any), (some [.nilFunc])⟩,
 some ⟨.func, false, 1, 8, (.leaf .any), (some [.nilFunc])⟩,
 some ⟨.func, false, 1, 8, (.leaf .any), (some [.nilFunc])⟩,
 some ⟨.func, false, 1, 8, (.leaf .any), (some [.nilFunc])⟩,
 some ⟨.func, false, 1, 8, (.leaf .any), (some [.nilFunc])⟩,
 some ⟨.func, false, 1, 8, (.leaf .any), (some [.nilFunc])⟩,
 some ⟨(.arr 24 5), true, 24, 24, (.agg [(.int .u8), (.int .u8), (.int .u8), (.int .u8), (.int .u8), (.int .u8), (.int .u8), (.int .u8), (.int .u8), (.int .u8), (.int .u8), (.int .u8), (.int .u8), (.int .u8), (.int .u8), (.int .u8), (.int .u8), (.int .u8), (.int .u8), (.int .u8), (.int .u8), (.int .u8), (.int .u8), (.int .u8)]), (some [(.int .u8 (0 : Int)), (.int .u8 (0 : Int)), (.int .u8 (0 : Int)), (.int .u8 (0 : Int)), (.int .u8 (0 : Int)), (.int .u8 (0 : Int)), (.int .u8 (0 : Int)), (.int .u8 (0 : Int)), (.int .u8 (0 : Int)), (.int .u8 (0 : Int)), (.int .u8 (0 : Int)), (.int .u8 (0 : Int)), (.int .u8 (0 : Int)), (.int .u8 (0 : Int)), (.int .u8 (0 : Int)), (.int .u8 (0 : Int)), (.int .u8 (0 : Int)), (.int .u8 (0 : Int)), (.int .u8 (0 : Int)), (.int .u8 (0 : Int)), (.int .u8 (0 : Int)), (.int .u8 (0 : Int)), (.int .u8 (0 : Int)), (.int .u8 (0 : Int))])⟩,
 some ⟨.func, false, 1, 8, (.leaf .any), (some [.nilFunc])⟩,
 some ⟨.func, false, 1, 8, (.leaf .any), (some [.nilFunc])⟩,
 some ⟨(.tup [26, 9]), false, 1, 0, (.leaf .any), (some [(.tuple #[(.slice none 0 0), (.string (⟨#[]⟩ : ByteArray))])])⟩,
 some ⟨.func, false, 1, 8, (.leaf .any), (some [.nilFunc])⟩,
 some ⟨.func, false, 1, 8, (.leaf .any), (some [.nilFunc])⟩,
 none,
 some ⟨(.strct [(0, 5), (1, 5)]), true, 2, 2, (.agg [(.int .u8), (.int .u8)]), (some [(.int .u8 (0 : Int)), (.int .u8 (0 : Int))])⟩,
 some ⟨(.strct [(0, 5), (1, 5)]), true, 2, 2, (.agg [(.int .u8), (.int .u8)]), (some [(.int .u8 (0 : Int)), (.int .u8 (0 : Int))])⟩,
 some ⟨(.arr 16 104), true, 32, 32, (.agg [(.int .u8), (.int .u8), (.int .u8), (.int .u8), (.int .u8), (.int .u8), (.int .u8), (.int .u8), (.int .u8), (.int .u8), (.int .u8), (.int .u8), (.int .u8), (.int .u8), (.int .u8), (.int .u8), (.int .u8), (.int .u8), (.int .u8), (.int .u8), (.int .u8), (.int .u8), (.int .u8), (.int .u8), (.int .u8), (.int .u8), (.int .u8), (.int .u8), (.int .u8), (.int .u8), (.int .u8), (.int .u8)]), (some [(.int .u8 (0 : Int)), (.int .u8 (0 : Int)), (.int .u8 (0 : Int)), (.int .u8 (0 : Int)), (.int .u8 (0 : Int)), (.int .u8 (0 : Int)), (.int .u8 (0 : Int)), (.int .u8 (0 : Int)), (.int .u8 (0 : Int)), (.int .u8 (0 : Int)), (.int .u8 (0 : Int)), (.int .u8 (0 : Int)), (.int .u8 (0 : Int)), (.int .u8 (0 : Int)), (.int .u8 (0 : Int)), (.int .u8 (0 : Int)), (.int .u8 (0 : Int)), (.int .u8 (0 : Int)), (.int .u8 (0 : Int)), (.int .u8 (0 : Int)), (.int .u8 (0 : Int)), (.int .u8 (0 : Int)), (.int .u8 (0 : Int)), (.int .u8 (0 : Int)), (.int .u8 (0 : Int)), (.int .u8 (0 : Int)), (.int .u8 (0 : Int)), (.int .u8 (0 : Int)), (.int .u8 (0 : Int)), (.int .u8 (0 : Int)), (.int .u8 (0 : Int)), (.int .u8 (0 : Int))])⟩,
 some ⟨.func, false, 1, 8, (.leaf .any), (some [.nilFunc])⟩,
 some ⟨.func, false, 1, 8, (.leaf .any), (some [.nilFunc])⟩,
 some ⟨(.slice 3), false, 1, 24, (.leaf .slice), (some [(.slice none 0 0)])⟩,
 some ⟨.func, false, 1, 8, (.leaf .any), (some [.nilFunc])⟩,
 some ⟨(.arr 20 76), true, 20, 160, (.agg [(.int .u64), (.int .u64), (.int .u64), (.int .u64), (.int .u64), (.int .u64), (.int .u64), (.int .u64), (.int .u64), (.int .u64), (.int .u64), (.int .u64), (.int .u64), (.int .u64), (.int .u64), (.int .u64), (.int .u64), (.int .u64), (.int .u64), (.int .u64)]), (some [(.int .u64 (0 : Int)), (.int .u64 (0 : Int)), (.int .u64 (0 : Int)), (.int .u64 (0 : Int)), (.int .u64 (0 : Int)), (.int .u64 (0 : Int)), (.int .u64 (0 : Int)), (.int .u64 (0 : Int)), (.int .u64 (0 : Int)), (.int .u64 (0 : Int)), (.int .u64 (0 : Int)), (.int .u64 (0 : Int)), (.int .u64 (0 : Int)), (.int .u64 (0 : Int)), (.int .u64 (0 : Int)), (.int .u64 (0 : Int)), (.int .u64 (0 : Int)), (.int .u64 (0 : Int)), (.int .u64 (0 : Int)), (.int .u64 (0 : Int))])⟩,
 some ⟨(.int .u32), false, 1, 4, (.leaf (.int .u32)), (some [(.int .u32 (0 : Int))])⟩,
 none,
 some ⟨.func, false, 1, 8, (.leaf .any), (some [.nilFunc])⟩,
 some ⟨.func, false, 1, 8, (.leaf .any), (some [.nilFunc])⟩,
 some ⟨(.arr 32 5), true, 32, 32, (.agg [(.int .u8), (.int .u8), (.int .u8), (.int .u8), (.int .u8), (.int .u8), (.int .u8), (.int .u8), (.int .u8), (.int .u8), (.int .u8), (.int .u8), (.int .u8), (.int .u8), (.int .u8), (.int .u8), (.int .u8), (.int .u8), (.int .u8), (.int .u8), (.int .u8), (.int .u8), (.int .u8), (.int .u8), (.int .u8), (.int .u8), (.int .u8), (.int .u8), (.int .u8), (.int .u8), (.int .u8), (.int .u8)]), (some [(.int .u8 (0 : Int)), (.int .u8 (0 : Int)), (.int .u8 (0 : Int)), (.int .u8 (0 : Int)), (.int .u8 (0 : Int)), (.int .u8 (0 : Int)), (.int .u8 (0 : Int)), (.int .u8 (0 : Int)), (.int .u8 (0 : Int)), (.int .u8 (0 : Int)), (.int .u8 (0 : Int)), (.int .u8 (0 : Int)), (.int .u8 (0 : Int)), (.int .u8 (0 : Int)), (.int .u8 (0 : Int)), (.int .u8 (0 : Int)), (.int .u8 (0 : Int)), (.int .u8 (0 : Int)), (.int .u8 (0 : Int)), (.int .u8 (0 : Int)), (.int .u8 (0 : Int)), (.int .u8 (0 : Int)), (.int .u8 (0 : Int)), (.int .u8 (0 : Int)), (.int .u8 (0 : Int)), (.int .u8 (0 : Int)), (.int .u8 (0 : Int)), (.int .u8 (0 : Int)), (.int .u8 (0 : Int)), (.int .u8 (0 : Int)), (.int .u8 (0 : Int)), (.int .u8 (0 : Int))])⟩,
 some ⟨(.arr 64 5), true, 64, 64, (.agg [(.int .u8), (.int .u8), (.int .u8), (.int .u8), (.int .u8), (.int .u8), (.int .u8), (.int .u8), (.int .u8), (.int .u8), (.int .u8), (.int .u8), (.int .u8), (.int .u8), (.int .u8), (.int .u8), (.int .u8), (.int .u8), (.int .u8), (.int .u8), (.int .u8), (.int .u8), (.int .u8), (.int .u8), (.int .u8), (.int .u8), (.int .u8), (.int .u8), (.int .u8), (.int .u8), (.int .u8), (.int .u8), (.int .u8), (.int .u8), (.int .u8), (.int .u8), (.int .u8), (.int .u8), (.int .u8), (.int .u8), (.int .u8), (.int .u8), (.int .u8), (.int .u8), (.int .u8), (.int .u8), (.int .u8), (.int .u8), (.int .u8), (.int .u8), (.int .u8), (.int .u8), (.int .u8), (.int .u8), (.int .u8), (.int .u8), (.int .u8), (.int .u8), (.int .u8), (.int .u8), (.int .u8), (.int .u8), (.int .u8), (.int .u8)]), (some [(.int .u8 (0 : Int)), (.int .u8 (0 : Int)), (.int .u8 (0 : Int)), (.int .u8 (0 : Int)), (.int .u8 (0 : Int)), (.int .u8 (0 : Int)), (.int .u8 (0 : Int)), (.int .u8 (0 : Int)), (.int .u8 (0 : Int)), (.int .u8 (0 : Int)), (.int .u8 (0 : Int)), (.int .u8 (0 : Int)), (.int .u8 (0 : Int)), (.int .u8 (0 : Int)), (.int .u8 (0 : Int)), (.int .u8 (0 : Int)), (.int .u8 (0 : Int)), (.int .u8 (0 : Int)), (.int .u8 (0 : Int)), (.int .u8 (0 : Int)), (.int .u8 (0 : Int)), (.int .u8 (0 : Int)), (.int .u8 (0 : Int)), (.int .u8 (0 : Int)), (.int .u8 (0 : Int)), (.int .u8 (0 : Int)), (.int .u8 (0 : Int)), (.int .u8 (0 : Int)), (.int .u8 (0 : Int)), (.int .u8 (0 : Int)), (.int .u8 (0 : Int)), (.int .u8 (0 : Int)), (.int .u8 (0 : Int)), (.int .u8 (0 : Int)), (.int .u8 (0 : Int)), (.int .u8 (0 : Int)), (.int .u8 (0 : Int)), (.int .u8 (0 : Int)), (.int .u8 (0 : Int)), (.int .u8 (0 : Int)), (.int .u8 (0 : Int)), (.int .u8 (0 : Int)), (.int .u8 (0 : Int)), (.int .u8 (0 : Int)), (.int .u8 (0 : Int)), (.int .u8 (0 : Int)), (.int .u8 (0 : Int)), (.int .u8 (0 : Int)), (.int .u8 (0 : Int)), (.int .u8 (0 : Int)), (.int .u8 (0 : Int)), (.int .u8 (0 : Int)), (.int .u8 (0 : Int)), (.int .u8 (0 : Int)), (.int .u8 (0 : Int)), (.int .u8 (0 : Int)), (.int .u8 (0 : Int)), (.int .u8 (0 : Int)), (.int .u8 (0 : Int)), (.int .u8 (0 : Int)), (.int .u8 (0 : Int)), (.int .u8 (0 : Int)), (.int .u8 (0 : Int)), (.int .u8 (0 : Int))])⟩,
 some ⟨.func, false, 1, 8, (.leaf .any), (some [.nilFunc])⟩,
 some ⟨(.strct [(0, 17), (1, 17), (2, 17), (3, 9)]), true, 4, 40, (.agg [.ptr, .ptr, .ptr, .str]), (some [(.pointer none), (.pointer none), (.pointer none), (.string (⟨#[]⟩ : ByteArray))])⟩,
 some ⟨(.strct [(0, 17), (1, 17), (2, 17), (3, 9)]), true, 4, 40, (.agg [.ptr, .ptr, .ptr, .str]), (some [(.pointer none), (.pointer none), (.pointer none), (.string (⟨#[]⟩ : ByteArray))])⟩,
 some ⟨(.arr 0 16), true, 0, 0, (.agg []), (some [])⟩,
 some ⟨(.strct [(0, 120)]), true, 0, 0, (.agg []), (some [])⟩,
 some ⟨(.strct [(0, 120)]), true, 0, 0, (.agg []), (some [])⟩,
 some ⟨(.int .u8), false, 1, 1, (.leaf (.int .u8)), (some [(.int .u8 (0 : Int))])⟩,
 some ⟨(.int .u8), false, 1, 1, (.leaf (.int .u8)), (some [(.int .u8 (0 : Int))])⟩,
 some ⟨.func, false, 1, 8, (.leaf .any), (some [.nilFunc])⟩,
 some ⟨(.ptr 5), false, 1, 8, (.leaf .ptr), (some [(.pointer none)])⟩,
 some ⟨(.int .i32), false, 1, 4, (.leaf (.int .i32)), (some [(.int .i32 (0 : Int))])⟩,
 some ⟨(.int .i32), false, 1, 4, (.leaf (.int .i32)), (some [(.int .i32 (0 : Int))])⟩,
 some ⟨(.strct [(0, 12), (1, 12), (2, 111), (3, 123), (4, 5), (5, 5), (6, 124), (7, 125), (8, 126), (9, 127), (10, 128)]), true, 11, 48, (.agg [(.int .u64), (.int .u64), (.int .u32), (.int .u8), (.int .u8), (.int .u8), (.int .u8), .any, .ptr, (.int .i32), (.int .i32)]), (some [(.int .u64 (0 : Int)), (.int .u64 (0 : Int)), (.int .u32 (0 : Int)), (.int .u8 (0 : Int)), (.int .u8 (0 : Int)), (.int .u8 (0 : Int)), (.int .u8 (0 : Int)), .nilFunc, (.pointer none), (.int .i32 (0 : Int)), (.int .i32 (0 : Int))])⟩,
 some ⟨(.strct [(0, 12), (1, 12), (2, 111), (3, 123), (4, 5), (5, 5), (6, 124), (7, 125), (8, 126), (9, 127), (10, 128)]), true, 11, 48, (.agg [(.int .u64), (.int .u64), (.int .u32), (.int .u8), (.int .u8), (.int .u8), (.int .u8), .any, .ptr, (.int .i32), (.int .i32)]), (some [(.int .u64 (0 : Int)), (.int .u64 (0 : Int)), (.int .u32 (0 : Int)), (.int .u8 (0 : Int)), (.int .u8 (0 : Int)), (.int .u8 (0 : Int)), (.int .u8 (0 : Int)), .nilFunc, (.pointer none), (.int .i32 (0 : Int)), (.int .i32 (0 : Int))])⟩,
 some ⟨.other, false, 1, 8, (.leaf .any), (some [(.pointer none)])⟩]
def keep : List Bool := [true, true, true, true, true, true, true, true, true, true, true, true, true, true, true, true, true, true, true, true, true, true, true, true, true, true, true, true, true, true, true, true, true, true, true, true, true, true, true, true, true, true, true, true, true, true, true, true, true, true, true, true, true, true, true, true, true, true, true, true, true, true, true, true, true, true, true, true, true, true, true, true, true, true, true, true, true, true, true, true, true, true, true, true, true, true, true, true, true, true, true, true, true, true, true, true, true, true, true, true, true, true, false, true, true, true, true, true, true, true, true, true, false, true, true, true, true, true, true, true, true, true, true, true, true, true, true, true, true, true, true, true]
def T (t : Nat) : Option TI := match nthO tb t with | some o => o | none => none
theorem tb_eq : (keep.zipIdx.map fun x => cond x.1 (tbOf pg x.2) none) = tb := by kernel_rfl
theorem tok : TOk pg T := TOk_of tb_eq
def bls : List Nat := [0, 1, 85, 90, 98, 99, 100, 101, 102, 103, 104, 105, 106, 107, 108, 109, 110, 111, 112, 113, 114, 115, 116, 117, 118, 119, 120, 121]
def bl (f : Nat) : Bool := memN f bls || Nat.ble 123 f
theorem blok : Bl pg bl := Bl_of (n := 123) (fun f h => by
    unfold bl at h
    cases hb : Nat.ble 123 f with
    | true => rw [hb, Bool.or_true] at h; cases h
    | false => exact Nat.lt_of_not_le fun hle => by rw [Nat.ble_eq_true_of_le hle] at hb; cases hb) (by kernel_rfl)
theorem mixed : pg.follows .mixedOrders = true := by kernel_rfl
end Go.Proofs.Sd
