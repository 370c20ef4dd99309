import Derived.Test.YtnfiihdebonadaaGreatDoorProg
import Derived.Test.YtnfiihdebonadaaGreatDoorZWalk
set_option linter.unusedSimpArgs false
set_option linter.unusedVariables false
set_option linter.unusedSectionVars false
/- For each function: its code in the form of the logic, as gen.py printed it. -/
set_option maxRecDepth 100000
namespace Go.Proofs.YtnfiihdebonadaaGreatDoor.Abs

noncomputable abbrev Pr : Program := Tryz.prog
abbrev Gl.errors_errorType : Nat := 0
abbrev Gl.internal_bytealg_MaxLen : Nat := 1
abbrev Gl.internal_strconv_uint64pow10 : Nat := 2
abbrev Gl.strconv_ErrSyntax : Nat := 3
abbrev Gl.strconv_ErrRange : Nat := 4
abbrev Gl.math_bits_deBruijn32tab : Nat := 5
abbrev Gl.math_bits_deBruijn64tab : Nat := 6
abbrev Fn.main_main : Nat := 0
abbrev Fn.gosem_cut : Nat := 1
abbrev Fn.gosem_cut_init : Nat := 2
abbrev Fn.law12_PushMeta : Nat := 3
abbrev Fn.law12_PushGlobal : Nat := 4
abbrev Fn.law12_reads : Nat := 5
abbrev Fn.head_Encode : Nat := 6
abbrev Fn.push_New : Nat := 7
abbrev Fn.push_Parser_Feed : Nat := 8
abbrev Fn.fault_Code : Nat := 9
abbrev Fn.fault_Place : Nat := 10
abbrev Fn.push_Parser_End : Nat := 11
abbrev Fn.push_Parser_At : Nat := 12
abbrev Fn.law12_PushGlobal_1 : Nat := 13
abbrev Fn.pax_Encode : Nat := 14
abbrev Fn.law12_fed : Nat := 15
abbrev Fn.head_Fits : Nat := 16
abbrev Fn.octal_Format : Nat := 17
abbrev Fn.sum_Seal : Nat := 18
abbrev Fn.push_Parser_head : Nat := 19
abbrev Fn.push_Parser_told : Nat := 20
abbrev Fn.push_Parser_say : Nat := 21
abbrev Fn.push_Parser_finish : Nat := 22
abbrev Fn.errors_As : Nat := 23
abbrev Fn.fault_New : Nat := 24
abbrev Fn.pax_Check : Nat := 25
abbrev Fn.strings_Builder_WriteString : Nat := 26
abbrev Fn.strconv_Itoa : Nat := 27
abbrev Fn.pax_length : Nat := 28
abbrev Fn.strings_Builder_String : Nat := 29
abbrev Fn.strings_Contains : Nat := 30
abbrev Fn.octal_Fits : Nat := 31
abbrev Fn.sum_Plain : Nat := 32
abbrev Fn.head_Blank : Nat := 33
abbrev Fn.push_Parser_bad : Nat := 34
abbrev Fn.head_Decode : Nat := 35
abbrev Fn.kind_Class : Nat := 36
abbrev Fn.push_Parser_thing : Nat := 37
abbrev Fn.entry_Pad : Nat := 38
abbrev Fn.strings_Cut : Nat := 39
abbrev Fn.pax_Decode : Nat := 40
abbrev Fn.push_Parser_skip : Nat := 41
abbrev Fn.internal_reflectlite_ValueOf : Nat := 42
abbrev Fn.internal_reflectlite_Value_Type : Nat := 43
abbrev Fn.internal_reflectlite_Value_IsNil : Nat := 44
abbrev Fn.errors_as : Nat := 45
abbrev Fn.strings_ContainsAny : Nat := 46
abbrev Fn.strings_Builder_copyCheck : Nat := 47
abbrev Fn.internal_strconv_Itoa : Nat := 48
abbrev Fn.strings_Index : Nat := 49
abbrev Fn.octal_digits : Nat := 50
abbrev Fn.sum_each : Nat := 51
abbrev Fn.sum_Plain_1 : Nat := 52
abbrev Fn.sum_Right : Nat := 53
abbrev Fn.head_text : Nat := 54
abbrev Fn.octal_Parse : Nat := 55
abbrev Fn.kind_Kind : Nat := 56
abbrev Fn.entry_Make : Nat := 57
abbrev Fn.internal_stringslite_Cut : Nat := 58
abbrev Fn.pax_one : Nat := 59
abbrev Fn.internal_reflectlite_TypeOf : Nat := 60
abbrev Fn.internal_reflectlite_Value_Elem : Nat := 61
abbrev Fn.internal_reflectlite_Value_Set : Nat := 62
abbrev Fn.strings_IndexAny : Nat := 63
abbrev Fn.internal_abi_NoEscape : Nat := 64
abbrev Fn.internal_strconv_FormatInt : Nat := 65
abbrev Fn.internal_stringslite_Index : Nat := 66
abbrev Fn.sum_Signed : Nat := 67
abbrev Fn.octal_binary : Nat := 68
abbrev Fn.entry_Ahead_text : Nat := 69
abbrev Fn.head_Header_Full : Nat := 70
abbrev Fn.entry_Ahead_number : Nat := 71
abbrev Fn.strings_HasSuffix : Nat := 72
abbrev Fn.strconv_Atoi : Nat := 73
abbrev Fn.strings_IndexRune : Nat := 74
abbrev Fn.strings_shouldUseASCIISet : Nat := 75
abbrev Fn.strings_makeASCIISet : Nat := 76
abbrev Fn.strings_asciiSet_contains : Nat := 77
abbrev Fn.internal_strconv_small : Nat := 78
abbrev Fn.internal_strconv_numDigits : Nat := 79
abbrev Fn.internal_strconv_formatBase10 : Nat := 80
abbrev Fn.internal_strconv_formatBits : Nat := 81
abbrev Fn.internal_stringslite_IndexByte : Nat := 82
abbrev Fn.internal_bytealg_IndexString : Nat := 83
abbrev Fn.internal_bytealg_Cutover : Nat := 84
abbrev Fn.internal_bytealg_IndexRabinKarp_string : Nat := 85
abbrev Fn.sum_Signed_1 : Nat := 86
abbrev Fn.entry_Ahead_get : Nat := 87
abbrev Fn.pax_Number : Nat := 88
abbrev Fn.internal_stringslite_HasSuffix : Nat := 89
abbrev Fn.internal_strconv_Atoi : Nat := 90
abbrev Fn.strconv_toError : Nat := 91
abbrev Fn.strings_IndexByte : Nat := 92
abbrev Fn.unicode_utf8_ValidRune : Nat := 93
abbrev Fn.internal_strconv_log10Pow2 : Nat := 94
abbrev Fn.math_bits_Len64 : Nat := 95
abbrev Fn.internal_strconv_bool2_int : Nat := 96
abbrev Fn.internal_strconv_isPowerOfTwo : Nat := 97
abbrev Fn.math_bits_TrailingZeros : Nat := 98
abbrev Fn.internal_bytealg_IndexByteString : Nat := 99
abbrev Fn.internal_bytealg_hashStr_string : Nat := 100
abbrev Fn.pax_Get : Nat := 101
abbrev Fn.strconv_ParseInt : Nat := 102
abbrev Fn.strconv_FormatInt : Nat := 103
abbrev Fn.internal_strconv_ParseInt : Nat := 104
abbrev Fn.strconv_syntaxError : Nat := 105
abbrev Fn.strconv_rangeError : Nat := 106
abbrev Fn.strconv_baseError : Nat := 107
abbrev Fn.strconv_bitSizeError : Nat := 108
abbrev Fn.math_bits_TrailingZeros32 : Nat := 109
abbrev Fn.math_bits_TrailingZeros64 : Nat := 110
abbrev Fn.internal_strconv_ParseUint : Nat := 111
abbrev Fn.internal_stringslite_Clone : Nat := 112
abbrev Fn.errors_New : Nat := 113
abbrev Fn.internal_strconv_lower : Nat := 114
abbrev Fn.internal_strconv_underscoreOK : Nat := 115
abbrev Fn.runtime_boundsError_Error : Nat := 116
abbrev Fn.runtime_boundsError_RuntimeError : Nat := 117
abbrev Fn.runtime_errorString_Error : Nat := 118
abbrev Fn.runtime_errorString_RuntimeError : Nat := 119
abbrev Fn.runtime_plainError_Error : Nat := 120
abbrev Fn.runtime_plainError_RuntimeError : Nat := 121
abbrev Fn.runtime_errorAddressString_Error : Nat := 122
abbrev Fn.runtime_errorAddressString_RuntimeError : Nat := 123
abbrev Fn.runtime_TypeAssertionError_Error : Nat := 124
abbrev Fn.runtime_TypeAssertionError_RuntimeError : Nat := 125
abbrev Fn.runtime_PanicNilError_Error : Nat := 126
abbrev Fn.runtime_PanicNilError_RuntimeError : Nat := 127
abbrev Fn.internal_abi_Type_Align : Nat := 128
abbrev Fn.internal_abi_Type_Elem : Nat := 129
abbrev Fn.internal_abi_Type_Kind : Nat := 130
abbrev Fn.internal_runtime_maps_unhashableTypeError_Error : Nat := 131
abbrev Fn.internal_runtime_maps_unhashableTypeError_RuntimeError : Nat := 132
abbrev Fn.api_Errno_Error : Nat := 133
abbrev Fn.fault_At_Error : Nat := 134
abbrev Fn.fault_At_Unwrap : Nat := 135
abbrev Fn.strings_Builder_Reset : Nat := 136
abbrev Fn.internal_reflectlite_flag_mustBeAssignable : Nat := 137
abbrev Fn.internal_reflectlite_Value_Kind : Nat := 138
abbrev Fn.internal_abi_Kind_String : Nat := 139
abbrev Fn.internal_abi_Type_Size : Nat := 140
abbrev Fn.internal_reflectlite_rtype_AssignableTo : Nat := 141
abbrev Fn.internal_reflectlite_rtype_Comparable : Nat := 142
abbrev Fn.internal_reflectlite_rtype_Elem : Nat := 143
abbrev Fn.internal_reflectlite_rtype_Implements : Nat := 144
abbrev Fn.internal_reflectlite_rtype_Name : Nat := 145
abbrev Fn.internal_reflectlite_rtype_PkgPath : Nat := 146
abbrev Fn.internal_reflectlite_rtype_String : Nat := 147
abbrev Fn.internal_reflectlite_rtype_common : Nat := 148
abbrev Fn.internal_reflectlite_rtype_uncommon : Nat := 149
abbrev Ty.string : Nat := 9
abbrev Ty.api_Errno : Nat := 24
abbrev Ty.ptr_api_Errno : Nat := 70
abbrev Ty.fault_At : Nat := 72
abbrev Ty.ptr_fault_At : Nat := 73
abbrev Ty.strconv_Error : Nat := 178
abbrev Ty.ptr_strconv_NumError : Nat := 179
abbrev Ty.ptr_errors_errorString : Nat := 193

noncomputable def code_law12_PushMeta_t0 : ACode :=
  (.seq (.region [⟨some 48, .mv (.tmp 8), none⟩,
    ⟨some 49, .lenL (.tmp 48), none⟩,
    ⟨some 50, .bin .prim .eql (.tmp 49) (.const (.int .i64 1)), none⟩,
    ⟨some 51, .mv (.tmp 50), none⟩,
    ⟨some 52, .mv (.tmp 8), some (51, true)⟩,
    ⟨some 53, .iaddr 14 (.tmp 52) (.const (.int .i64 0)), some (51, true)⟩,
    ⟨some 54, .faddr 0 (.tmp 53), some (51, true)⟩,
    ⟨some 55, .load 1 false (.tmp 54), some (51, true)⟩,
    ⟨some 56, .bin .prim .eql (.tmp 55) (.const (.int .i64 5)), some (51, true)⟩,
    ⟨some 57, .pick (.tmp 51) (.tmp 56) (.const (.bool false)), none⟩,
    ⟨some 58, .mv (.tmp 57), none⟩,
    ⟨some 59, .mv (.tmp 8), some (58, true)⟩,
    ⟨some 60, .iaddr 14 (.tmp 59) (.const (.int .i64 0)), some (58, true)⟩,
    ⟨some 61, .faddr 12 (.tmp 60), some (58, true)⟩,
    ⟨some 62, .load 1 false (.tmp 61), some (58, true)⟩,
    ⟨some 63, .call Fn.fault_Code [(.tmp 62)], some (58, true)⟩,
    ⟨some 64, .bin .prim .eql (.tmp 63) (.const (.int .i64 2)), some (58, true)⟩,
    ⟨some 65, .pick (.tmp 58) (.tmp 64) (.const (.bool false)), none⟩,
    ⟨some 66, .mv (.tmp 65), none⟩,
    ⟨some 67, .mv (.tmp 8), some (66, true)⟩,
    ⟨some 68, .iaddr 14 (.tmp 67) (.const (.int .i64 0)), some (66, true)⟩,
    ⟨some 69, .faddr 12 (.tmp 68), some (66, true)⟩,
    ⟨some 70, .load 1 false (.tmp 69), some (66, true)⟩,
    ⟨some 71, .call Fn.fault_Place [(.tmp 70)], some (66, true)⟩,
    ⟨some 72, .bin .prim .eql (.tmp 71) (.const (.int .i64 0)), some (66, true)⟩,
    ⟨some 73, .pick (.tmp 66) (.tmp 72) (.const (.bool false)), none⟩,
    ⟨some 4, .mv (.tmp 73), none⟩])
  .ret)
noncomputable def code_law12_PushMeta_k0 : ACode :=
  (.seq (.region [⟨some 74, .mv (.tmp 8), none⟩,
    ⟨some 75, .lenL (.tmp 74), none⟩,
    ⟨some 76, .bin .prim .eql (.tmp 75) (.const (.int .i64 0)), none⟩,
    ⟨some 77, .mv (.tmp 76), none⟩,
    ⟨some 78, .mv (.tmp 7), some (77, true)⟩,
    ⟨some 79, .call Fn.push_Parser_End [(.tmp 78)], some (77, true)⟩,
    ⟨some 80, .call Fn.fault_Code [(.tmp 79)], some (77, true)⟩,
    ⟨some 81, .bin .prim .eql (.tmp 80) (.const (.int .i64 5)), some (77, true)⟩,
    ⟨some 82, .pick (.tmp 77) (.tmp 81) (.const (.bool false)), none⟩,
    ⟨some 83, .mv (.tmp 82), none⟩,
    ⟨some 84, .mv (.tmp 7), some (83, true)⟩,
    ⟨some 85, .call Fn.push_Parser_At [(.tmp 84)], some (83, true)⟩,
    ⟨some 86, .bin .prim .eql (.tmp 85) (.const (.int .i64 512)), some (83, true)⟩,
    ⟨some 87, .pick (.tmp 83) (.tmp 86) (.const (.bool false)), none⟩,
    ⟨some 4, .mv (.tmp 87), none⟩])
  .ret)
noncomputable def code_law12_PushMeta_k1 : ACode :=
  (.seq (.region [⟨some 42, .call Fn.push_New [], none⟩,
    ⟨some 7, .mv (.tmp 42), none⟩])
  (.seq (.region [⟨some 43, .mv (.tmp 7), none⟩,
    ⟨some 44, .mv (.tmp 5), none⟩,
    ⟨some 45, .call Fn.push_Parser_Feed [(.tmp 43), (.tmp 44)], none⟩,
    ⟨some 8, .mv (.tmp 45), none⟩])
  (.seq (.seq (.region [⟨some 46, .mv (.tmp 0), none⟩,
    ⟨some 47, .bin .prim .gtr (.tmp 46) (.const (.int .i64 8192)), none⟩])
  (.cond (.tmp 47)
  code_law12_PushMeta_t0
  .skip))
  code_law12_PushMeta_k0)))
noncomputable def code_law12_PushMeta_k2 : ACode :=
  (.seq (.region [⟨some 34, .mv (.tmp 1), none⟩,
    ⟨some 35, .mv (.tmp 0), none⟩,
    ⟨some 36, .build [.int .i64 0, .string ⟨#[]⟩, .string ⟨#[]⟩, .string ⟨#[]⟩, .string ⟨#[]⟩, .string ⟨#[]⟩, .int .u8 0, .int .i64 0, .int .i64 0, .int .i64 0, .int .i64 0, .int .i64 0] [(1, 1, (.const (.string ⟨#[112]⟩))), (6, 1, (.tmp 34)), (10, 1, (.tmp 35))], none⟩,
    ⟨some 37, .call Fn.head_Encode [(.tmp 36)], none⟩,
    ⟨some 33, .mv (.tmp 37), none⟩,
    ⟨some 38, .extract 0 (.tmp 33), none⟩,
    ⟨some 39, .extract 1 (.tmp 33), none⟩,
    ⟨some 5, .mv (.tmp 38), none⟩,
    ⟨some 6, .mv (.tmp 39), none⟩])
  (.seq (.seq (.region [⟨some 40, .mv (.tmp 6), none⟩,
    ⟨some 41, .bin .prim .neq (.tmp 40) (.const (.int .i64 0)), none⟩])
  (.cond (.tmp 41)
  (.seq (.region [⟨some 4, .mv (.const (.bool false)), none⟩])
  .ret)
  .skip))
  code_law12_PushMeta_k1))
noncomputable def code_law12_PushMeta_k3 : ACode :=
  (.seq (.seq (.region [⟨some 11, .mv (.tmp 1), none⟩,
    ⟨some 12, .bin .prim .neq (.tmp 11) (.const (.int .u8 120)), none⟩,
    ⟨some 13, .mv (.tmp 12), none⟩,
    ⟨some 14, .mv (.tmp 1), some (13, true)⟩,
    ⟨some 15, .bin .prim .neq (.tmp 14) (.const (.int .u8 103)), some (13, true)⟩,
    ⟨some 16, .pick (.tmp 13) (.tmp 15) (.const (.bool false)), none⟩,
    ⟨some 17, .mv (.tmp 16), none⟩,
    ⟨some 18, .mv (.tmp 1), some (17, true)⟩,
    ⟨some 19, .bin .prim .neq (.tmp 18) (.const (.int .u8 76)), some (17, true)⟩,
    ⟨some 20, .pick (.tmp 17) (.tmp 19) (.const (.bool false)), none⟩,
    ⟨some 21, .mv (.tmp 20), none⟩,
    ⟨some 22, .mv (.tmp 1), some (21, true)⟩,
    ⟨some 23, .bin .prim .neq (.tmp 22) (.const (.int .u8 75)), some (21, true)⟩,
    ⟨some 24, .pick (.tmp 21) (.tmp 23) (.const (.bool false)), none⟩,
    ⟨some 25, .mv (.tmp 24), none⟩,
    ⟨some 26, .mv (.tmp 0), some (25, false)⟩,
    ⟨some 27, .bin .prim .lss (.tmp 26) (.const (.int .i64 0)), some (25, false)⟩,
    ⟨some 28, .pick (.tmp 25) (.const (.bool true)) (.tmp 27), none⟩,
    ⟨some 29, .mv (.tmp 28), none⟩,
    ⟨some 30, .mv (.tmp 0), some (29, false)⟩,
    ⟨some 31, .bin .prim .geq (.tmp 30) (.const (.int .i64 8589934592)), some (29, false)⟩,
    ⟨some 32, .pick (.tmp 29) (.const (.bool true)) (.tmp 31), none⟩])
  (.cond (.tmp 32)
  (.seq (.region [⟨some 4, .mv (.const (.bool true)), none⟩])
  .ret)
  .skip))
  code_law12_PushMeta_k2)
noncomputable def code_law12_PushMeta : ACode :=
  (.seq (.region [⟨some 4, .mv (.const (.bool false)), none⟩])
  (.seq (.seq (.region [⟨some 9, .call Fn.law12_reads [], none⟩,
    ⟨some 10, .un .not (.tmp 9), none⟩])
  (.cond (.tmp 10)
  (.seq (.region [⟨some 4, .mv (.const (.bool false)), none⟩])
  .ret)
  .skip))
  code_law12_PushMeta_k3))
theorem in_law12_PushMeta {W0 : World} {args : List AV} {S : St} {Q : AV → St → Prop} (hle : args.length ≤ 88)
    (h : awp Pr W0 S code_law12_PushMeta (bodyQ [.tmp 4] S Q) (env0 args) S) : CallsA Pr W0 Fn.law12_PushMeta args S Q :=
  CallsA.of_body (nt := 88) (rs := #[.tmp 4]) (fn := Tryz.f3) [] rfl rfl rfl rfl rfl hle (by kernel_rfl) h

noncomputable def code_law12_reads_k0 : ACode :=
  (.seq (.region [⟨some 18, .mv (.tmp 3), none⟩,
    ⟨some 19, .mv (.tmp 1), none⟩,
    ⟨some 20, .call Fn.push_Parser_Feed [(.tmp 18), (.tmp 19)], none⟩,
    ⟨some 4, .mv (.tmp 20), none⟩])
  (.seq (.region [⟨some 21, .mv (.tmp 4), none⟩,
    ⟨some 22, .lenL (.tmp 21), none⟩,
    ⟨some 23, .bin .prim .eql (.tmp 22) (.const (.int .i64 4)), none⟩,
    ⟨some 24, .mv (.tmp 23), none⟩,
    ⟨some 25, .mv (.tmp 4), some (24, true)⟩,
    ⟨some 26, .iaddr 14 (.tmp 25) (.const (.int .i64 0)), some (24, true)⟩,
    ⟨some 27, .faddr 0 (.tmp 26), some (24, true)⟩,
    ⟨some 28, .load 1 false (.tmp 27), some (24, true)⟩,
    ⟨some 29, .bin .prim .eql (.tmp 28) (.const (.int .i64 1)), some (24, true)⟩,
    ⟨some 30, .pick (.tmp 24) (.tmp 29) (.const (.bool false)), none⟩,
    ⟨some 31, .mv (.tmp 30), none⟩,
    ⟨some 32, .mv (.tmp 4), some (31, true)⟩,
    ⟨some 33, .iaddr 14 (.tmp 32) (.const (.int .i64 0)), some (31, true)⟩,
    ⟨some 34, .faddr 1 (.tmp 33), some (31, true)⟩,
    ⟨some 35, .faddr 0 (.tmp 34), some (31, true)⟩,
    ⟨some 36, .load 1 false (.tmp 35), some (31, true)⟩,
    ⟨some 37, .bin .prim .eql (.tmp 36) (.const (.string ⟨#[97]⟩)), some (31, true)⟩,
    ⟨some 38, .pick (.tmp 31) (.tmp 37) (.const (.bool false)), none⟩,
    ⟨some 39, .mv (.tmp 38), none⟩,
    ⟨some 40, .mv (.tmp 4), some (39, true)⟩,
    ⟨some 41, .iaddr 14 (.tmp 40) (.const (.int .i64 1)), some (39, true)⟩,
    ⟨some 42, .faddr 11 (.tmp 41), some (39, true)⟩,
    ⟨some 43, .load 1 false (.tmp 42), some (39, true)⟩,
    ⟨some 44, .convBS (.tmp 43), some (39, true)⟩,
    ⟨some 45, .bin .prim .eql (.tmp 44) (.const (.string ⟨#[104, 105]⟩)), some (39, true)⟩,
    ⟨some 46, .pick (.tmp 39) (.tmp 45) (.const (.bool false)), none⟩,
    ⟨some 47, .mv (.tmp 46), none⟩,
    ⟨some 48, .mv (.tmp 4), some (47, true)⟩,
    ⟨some 49, .iaddr 14 (.tmp 48) (.const (.int .i64 3)), some (47, true)⟩,
    ⟨some 50, .faddr 0 (.tmp 49), some (47, true)⟩,
    ⟨some 51, .load 1 false (.tmp 50), some (47, true)⟩,
    ⟨some 52, .bin .prim .eql (.tmp 51) (.const (.int .i64 4)), some (47, true)⟩,
    ⟨some 53, .pick (.tmp 47) (.tmp 52) (.const (.bool false)), none⟩,
    ⟨some 54, .mv (.tmp 53), none⟩,
    ⟨some 55, .mv (.tmp 3), some (54, true)⟩,
    ⟨some 56, .call Fn.push_Parser_End [(.tmp 55)], some (54, true)⟩,
    ⟨some 57, .bin .nilI .eql (.tmp 56) (.const (.nilIface)), some (54, true)⟩,
    ⟨some 58, .pick (.tmp 54) (.tmp 57) (.const (.bool false)), none⟩,
    ⟨some 59, .mv (.tmp 58), none⟩,
    ⟨some 60, .pick (.tmp 59) (.const (.bool true)) (.const (.bool false)), none⟩,
    ⟨some 61, .mv (.tmp 60), none⟩,
    ⟨some 62, .pick (.tmp 61) (.const (.bool true)) (.const (.bool false)), none⟩,
    ⟨some 0, .mv (.tmp 62), none⟩])
  .ret))
noncomputable def code_law12_reads_k1 : ACode :=
  (.seq (.region [⟨some 12, .mv (.tmp 1), none⟩,
    ⟨some 13, .append 1 1 (.tmp 12) (.const (.string ⟨#[104, 105]⟩)), none⟩,
    ⟨some 14, .appendZ 1 1 [.int .u8 0] (.tmp 13) (.const (.int .i64 1534)), none⟩,
    ⟨some 1, .mv (.tmp 14), none⟩])
  (.seq (.region [⟨some 15, .call Fn.push_New [], none⟩,
    ⟨some 3, .mv (.tmp 15), none⟩])
  (.seq (.seq (.region [⟨some 16, .mv (.tmp 3), none⟩,
    ⟨some 17, .bin .ptr .eql (.tmp 16) (.const (.pointer none)), none⟩])
  (.cond (.tmp 17)
  (.seq (.region [⟨some 0, .mv (.const (.bool false)), none⟩])
  .ret)
  .skip))
  code_law12_reads_k0)))
noncomputable def code_law12_reads : ACode :=
  (.seq (.region [⟨some 0, .mv (.const (.bool false)), none⟩])
  (.seq (.region [⟨some 6, .build [.int .i64 0, .string ⟨#[]⟩, .string ⟨#[]⟩, .string ⟨#[]⟩, .string ⟨#[]⟩, .string ⟨#[]⟩, .int .u8 0, .int .i64 0, .int .i64 0, .int .i64 0, .int .i64 0, .int .i64 0] [(1, 1, (.const (.string ⟨#[97]⟩))), (6, 1, (.const (.int .u8 48))), (7, 1, (.const (.int .i64 420))), (10, 1, (.const (.int .i64 2)))], none⟩,
    ⟨some 7, .call Fn.head_Encode [(.tmp 6)], none⟩,
    ⟨some 5, .mv (.tmp 7), none⟩,
    ⟨some 8, .extract 0 (.tmp 5), none⟩,
    ⟨some 9, .extract 1 (.tmp 5), none⟩,
    ⟨some 1, .mv (.tmp 8), none⟩,
    ⟨some 2, .mv (.tmp 9), none⟩])
  (.seq (.seq (.region [⟨some 10, .mv (.tmp 2), none⟩,
    ⟨some 11, .bin .prim .neq (.tmp 10) (.const (.int .i64 0)), none⟩])
  (.cond (.tmp 11)
  (.seq (.region [⟨some 0, .mv (.const (.bool false)), none⟩])
  .ret)
  .skip))
  code_law12_reads_k1)))
theorem in_law12_reads {W0 : World} {args : List AV} {S : St} {Q : AV → St → Prop} (hle : args.length ≤ 63)
    (h : awp Pr W0 S code_law12_reads (bodyQ [.tmp 0] S Q) (env0 args) S) : CallsA Pr W0 Fn.law12_reads args S Q :=
  CallsA.of_body (nt := 63) (rs := #[.tmp 0]) (fn := Tryz.f5) [] rfl rfl rfl rfl rfl hle (by kernel_rfl) h

noncomputable def code_head_Encode_k0 : ACode :=
  (.draw [⟨some 42, .mv (.tmp 4), none⟩,
    ⟨some 43, .faddr 1 (.tmp 6), none⟩,
    ⟨some 44, .load 1 false (.tmp 43), none⟩,
    ⟨some 45, .slice 1 (.tmp 42) (some (.tmp 44)) none, none⟩,
    ⟨some 46, .faddr 0 (.tmp 6), none⟩,
    ⟨some 47, .load 1 false (.tmp 46), none⟩,
    ⟨some 48, .copy 1 (.tmp 45) (.tmp 47), none⟩]
    [[], [], [1], [0, 2, 1], [], [4], [3, 5, 0, 2, 1, 4]]
    (.eff [0, 1, 2, 3, 4, 5] [(6, .done [])]))
noncomputable def code_head_Encode_k1 : ACode :=
  (.region [⟨some 49, .bin .prim .add (.tmp 29) (.const (.int .i64 1)), none⟩,
    ⟨some 29, .mv (.tmp 49), none⟩])
noncomputable def code_head_Encode_k2 : ACode :=
  (.seq (.block 1 (.seq (.region [⟨some 31, .iaddr 3 (.tmp 27) (.tmp 29), none⟩,
    ⟨some 32, .load 3 true (.tmp 31), none⟩,
    ⟨some 6, .alloc [.string ⟨#[]⟩, .int .i64 0, .int .i64 0], none⟩,
    ⟨none, .store 3 (.tmp 6) (.tmp 32), none⟩])
  (.seq (.seq (.region [⟨some 33, .faddr 0 (.tmp 6), none⟩,
    ⟨some 34, .load 1 false (.tmp 33), none⟩,
    ⟨some 35, .faddr 2 (.tmp 6), none⟩,
    ⟨some 36, .load 1 false (.tmp 35), none⟩,
    ⟨some 37, .faddr 1 (.tmp 6), none⟩,
    ⟨some 38, .load 1 false (.tmp 37), none⟩,
    ⟨some 39, .bin .prim .sub (.tmp 36) (.tmp 38), none⟩,
    ⟨some 40, .call Fn.head_Fits [(.tmp 34), (.tmp 39)], none⟩,
    ⟨some 41, .un .not (.tmp 40), none⟩])
  (.cond (.tmp 41)
  (.seq (.region [⟨some 2, .mv (.const (.slice none 0 0)), none⟩,
    ⟨some 3, .mv (.const (.int .i64 2)), none⟩])
  .ret)
  .skip))
  code_head_Encode_k0)))
  code_head_Encode_k1)
noncomputable def code_head_Encode_l0 : ACode :=
  (.seq (.region [⟨some 30, .bin .prim .lss (.tmp 29) (.tmp 28), none⟩])
  (.seq (.cond (.tmp 30)
  .skip
  (.exit 0))
  code_head_Encode_k2))
noncomputable def code_head_Encode_k3 : ACode :=
  (.region [⟨some 82, .mv (.tmp 4), none⟩,
    ⟨some 83, .faddr 1 (.tmp 8), none⟩,
    ⟨some 84, .load 1 false (.tmp 83), none⟩,
    ⟨some 85, .slice 1 (.tmp 82) (some (.tmp 84)) none, none⟩,
    ⟨some 86, .mv (.tmp 9), none⟩,
    ⟨some 87, .copy 1 (.tmp 85) (.tmp 86), none⟩])
noncomputable def code_head_Encode_k4 : ACode :=
  (.region [⟨some 88, .bin .prim .add (.tmp 67) (.const (.int .i64 1)), none⟩,
    ⟨some 67, .mv (.tmp 88), none⟩])
noncomputable def code_head_Encode_k5 : ACode :=
  (.seq (.block 3 (.seq (.region [⟨some 69, .iaddr 3 (.tmp 65) (.tmp 67), none⟩,
    ⟨some 70, .load 3 true (.tmp 69), none⟩,
    ⟨some 8, .alloc [.int .i64 0, .int .i64 0, .int .i64 0], none⟩,
    ⟨none, .store 3 (.tmp 8) (.tmp 70), none⟩])
  (.seq (.region [⟨some 72, .faddr 0 (.tmp 8), none⟩,
    ⟨some 73, .load 1 false (.tmp 72), none⟩,
    ⟨some 74, .faddr 2 (.tmp 8), none⟩,
    ⟨some 75, .load 1 false (.tmp 74), none⟩,
    ⟨some 76, .call Fn.octal_Format [(.tmp 73), (.tmp 75)], none⟩,
    ⟨some 71, .mv (.tmp 76), none⟩,
    ⟨some 77, .extract 0 (.tmp 71), none⟩,
    ⟨some 78, .extract 1 (.tmp 71), none⟩,
    ⟨some 9, .mv (.tmp 77), none⟩,
    ⟨some 10, .mv (.tmp 78), none⟩])
  (.seq (.seq (.region [⟨some 79, .mv (.tmp 10), none⟩,
    ⟨some 80, .bin .prim .neq (.tmp 79) (.const (.int .i64 0)), none⟩])
  (.cond (.tmp 80)
  (.seq (.region [⟨some 81, .mv (.tmp 10), none⟩,
    ⟨some 2, .mv (.const (.slice none 0 0)), none⟩,
    ⟨some 3, .mv (.tmp 81), none⟩])
  .ret)
  .skip))
  code_head_Encode_k3))))
  code_head_Encode_k4)
noncomputable def code_head_Encode_l1 : ACode :=
  (.seq (.region [⟨some 68, .bin .prim .lss (.tmp 67) (.tmp 66), none⟩])
  (.seq (.cond (.tmp 68)
  .skip
  (.exit 2))
  code_head_Encode_k5))
noncomputable def code_head_Encode_k6 : ACode :=
  (.seq (.region [⟨some 89, .mv (.tmp 4), none⟩,
    ⟨some 90, .faddr 6 (.tmp 1), none⟩,
    ⟨some 91, .load 1 false (.tmp 90), none⟩,
    ⟨some 92, .iaddr 1 (.tmp 89) (.const (.int .i64 156)), none⟩,
    ⟨none, .store 1 (.tmp 92) (.tmp 91), none⟩])
  (.seq (.region [⟨some 93, .mv (.tmp 4), none⟩,
    ⟨some 94, .slice 1 (.tmp 93) (some (.const (.int .i64 257))) none, none⟩,
    ⟨some 95, .copy 1 (.tmp 94) (.const (.string ⟨#[117, 115, 116, 97, 114, 0, 48, 48]⟩)), none⟩])
  (.seq (.region [⟨some 96, .mv (.tmp 4), none⟩,
    ⟨some 97, .call Fn.sum_Seal [(.tmp 96)], none⟩,
    ⟨some 98, .extract 0 (.tmp 97), none⟩,
    ⟨some 99, .extract 1 (.tmp 97), none⟩,
    ⟨some 2, .mv (.tmp 98), none⟩,
    ⟨some 3, .mv (.tmp 99), none⟩])
  .ret)))
noncomputable def code_head_Encode_k7 : ACode :=
  (.seq (.seq (.region [⟨some 50, .faddr 7 (.tmp 1), none⟩,
    ⟨some 51, .load 1 false (.tmp 50), none⟩,
    ⟨some 52, .build [.int .i64 0, .int .i64 0, .int .i64 0] [(0, 1, (.tmp 51)), (1, 1, (.const (.int .i64 100))), (2, 1, (.const (.int .i64 8)))], none⟩,
    ⟨some 53, .faddr 8 (.tmp 1), none⟩,
    ⟨some 54, .load 1 false (.tmp 53), none⟩,
    ⟨some 55, .build [.int .i64 0, .int .i64 0, .int .i64 0] [(0, 1, (.tmp 54)), (1, 1, (.const (.int .i64 108))), (2, 1, (.const (.int .i64 8)))], none⟩,
    ⟨some 56, .faddr 9 (.tmp 1), none⟩,
    ⟨some 57, .load 1 false (.tmp 56), none⟩,
    ⟨some 58, .build [.int .i64 0, .int .i64 0, .int .i64 0] [(0, 1, (.tmp 57)), (1, 1, (.const (.int .i64 116))), (2, 1, (.const (.int .i64 8)))], none⟩,
    ⟨some 59, .faddr 10 (.tmp 1), none⟩,
    ⟨some 60, .load 1 false (.tmp 59), none⟩,
    ⟨some 61, .build [.int .i64 0, .int .i64 0, .int .i64 0] [(0, 1, (.tmp 60)), (1, 1, (.const (.int .i64 124))), (2, 1, (.const (.int .i64 12)))], none⟩,
    ⟨some 62, .faddr 11 (.tmp 1), none⟩,
    ⟨some 63, .load 1 false (.tmp 62), none⟩,
    ⟨some 64, .build [.int .i64 0, .int .i64 0, .int .i64 0] [(0, 1, (.tmp 63)), (1, 1, (.const (.int .i64 136))), (2, 1, (.const (.int .i64 12)))], none⟩,
    ⟨some 65, .bslice 5 [.int .i64 0, .int .i64 0, .int .i64 0, .int .i64 0, .int .i64 0, .int .i64 0, .int .i64 0, .int .i64 0, .int .i64 0, .int .i64 0, .int .i64 0, .int .i64 0, .int .i64 0, .int .i64 0, .int .i64 0] [(0, 3, (.tmp 52)), (3, 3, (.tmp 55)), (6, 3, (.tmp 58)), (9, 3, (.tmp 61)), (12, 3, (.tmp 64))], none⟩,
    ⟨some 66, .lenL (.tmp 65), none⟩,
    ⟨some 67, .mv (.const (.int .i64 0)), none⟩])
  (.block 2 (.loop code_head_Encode_l1)))
  code_head_Encode_k6)
noncomputable def code_head_Encode : ACode :=
  (.seq (.region [⟨some 1, .box (.tmp 0), none⟩,
    ⟨some 2, .mv (.const (.slice none 0 0)), none⟩,
    ⟨some 3, .mv (.const (.int .i64 0)), none⟩])
  (.seq (.region [⟨some 11, .mkSl 1 1 [.int .u8 0] (.const (.int .i64 512)) (.const (.int .i64 512)), none⟩,
    ⟨some 4, .mv (.tmp 11), none⟩])
  (.seq (.seq (.region [⟨some 12, .faddr 1 (.tmp 1), none⟩,
    ⟨some 13, .load 1 false (.tmp 12), none⟩,
    ⟨some 14, .build [.string ⟨#[]⟩, .int .i64 0, .int .i64 0] [(0, 1, (.tmp 13)), (1, 1, (.const (.int .i64 0))), (2, 1, (.const (.int .i64 100)))], none⟩,
    ⟨some 15, .faddr 2 (.tmp 1), none⟩,
    ⟨some 16, .load 1 false (.tmp 15), none⟩,
    ⟨some 17, .build [.string ⟨#[]⟩, .int .i64 0, .int .i64 0] [(0, 1, (.tmp 16)), (1, 1, (.const (.int .i64 157))), (2, 1, (.const (.int .i64 257)))], none⟩,
    ⟨some 18, .faddr 4 (.tmp 1), none⟩,
    ⟨some 19, .load 1 false (.tmp 18), none⟩,
    ⟨some 20, .build [.string ⟨#[]⟩, .int .i64 0, .int .i64 0] [(0, 1, (.tmp 19)), (1, 1, (.const (.int .i64 265))), (2, 1, (.const (.int .i64 296)))], none⟩,
    ⟨some 21, .faddr 5 (.tmp 1), none⟩,
    ⟨some 22, .load 1 false (.tmp 21), none⟩,
    ⟨some 23, .build [.string ⟨#[]⟩, .int .i64 0, .int .i64 0] [(0, 1, (.tmp 22)), (1, 1, (.const (.int .i64 297))), (2, 1, (.const (.int .i64 328)))], none⟩,
    ⟨some 24, .faddr 3 (.tmp 1), none⟩,
    ⟨some 25, .load 1 false (.tmp 24), none⟩,
    ⟨some 26, .build [.string ⟨#[]⟩, .int .i64 0, .int .i64 0] [(0, 1, (.tmp 25)), (1, 1, (.const (.int .i64 345))), (2, 1, (.const (.int .i64 500)))], none⟩,
    ⟨some 27, .bslice 5 [.string ⟨#[]⟩, .int .i64 0, .int .i64 0, .string ⟨#[]⟩, .int .i64 0, .int .i64 0, .string ⟨#[]⟩, .int .i64 0, .int .i64 0, .string ⟨#[]⟩, .int .i64 0, .int .i64 0, .string ⟨#[]⟩, .int .i64 0, .int .i64 0] [(0, 3, (.tmp 14)), (3, 3, (.tmp 17)), (6, 3, (.tmp 20)), (9, 3, (.tmp 23)), (12, 3, (.tmp 26))], none⟩,
    ⟨some 28, .lenL (.tmp 27), none⟩,
    ⟨some 29, .mv (.const (.int .i64 0)), none⟩])
  (.block 0 (.loop code_head_Encode_l0)))
  code_head_Encode_k7)))
theorem in_head_Encode {W0 : World} {args : List AV} {S : St} {Q : AV → St → Prop} (hle : args.length ≤ 100)
    (h : awp Pr W0 S code_head_Encode (bodyQ [.tmp 2, .tmp 3] S Q) (env0 args) S) : CallsA Pr W0 Fn.head_Encode args S Q :=
  CallsA.of_body (nt := 100) (rs := #[.tmp 2, .tmp 3]) (fn := Tryz.f6) [(7, .eff [0, 1, 2, 3, 4, 5] [(6, .done [])])] rfl rfl rfl rfl rfl hle (by kernel_rfl) h

noncomputable def code_push_New : ACode :=
  (.seq (.region [⟨some 0, .mv (.const (.pointer none)), none⟩])
  (.seq (.region [⟨some 1, .build [.int .i64 0, .slice none 0 0, .int .i64 0, .int .i64 0, .bool false, .int .i64 0, .slice none 0 0, .slice none 0 0, .slice none 0 0, .string ⟨#[]⟩, .string ⟨#[]⟩, .int .i64 0, .int .i64 0, .nilIface, .bool false, .slice none 0 0] [], none⟩,
    ⟨some 2, .box (.tmp 1), none⟩,
    ⟨some 0, .mv (.tmp 2), none⟩])
  .ret))
theorem in_push_New {W0 : World} {args : List AV} {S : St} {Q : AV → St → Prop} (hle : args.length ≤ 3)
    (h : awp Pr W0 S code_push_New (bodyQ [.tmp 0] S Q) (env0 args) S) : CallsA Pr W0 Fn.push_New args S Q :=
  CallsA.of_body (nt := 3) (rs := #[.tmp 0]) (fn := Tryz.f7) [] rfl rfl rfl rfl rfl hle (by kernel_rfl) h

noncomputable def code_push_Parser_Feed_t0 : ACode :=
  (.seq (.region [⟨some 60, .mv (.tmp 0), none⟩,
    ⟨some 61, .mv (.tmp 0), none⟩,
    ⟨some 62, .nilchk (.tmp 61), none⟩,
    ⟨some 63, .faddr 2 (.tmp 62), none⟩,
    ⟨some 64, .load 1 false (.tmp 63), none⟩,
    ⟨some 65, .bin .prim .sub (.tmp 64) (.const (.int .i64 512)), none⟩,
    ⟨some 66, .nilchk (.tmp 60), none⟩,
    ⟨some 67, .faddr 3 (.tmp 66), none⟩,
    ⟨none, .store 1 (.tmp 67) (.tmp 65), none⟩])
  (.seq (.region [⟨some 68, .mv (.tmp 0), none⟩,
    ⟨some 69, .call Fn.push_Parser_head [(.tmp 68)], none⟩])
  (.region [⟨some 70, .mv (.tmp 0), none⟩,
    ⟨some 71, .mv (.tmp 0), none⟩,
    ⟨some 72, .nilchk (.tmp 71), none⟩,
    ⟨some 73, .faddr 1 (.tmp 72), none⟩,
    ⟨some 74, .load 1 false (.tmp 73), none⟩,
    ⟨some 75, .slice 1 (.tmp 74) none (some (.const (.int .i64 0))), none⟩,
    ⟨some 76, .nilchk (.tmp 70), none⟩,
    ⟨some 77, .faddr 1 (.tmp 76), none⟩,
    ⟨none, .store 1 (.tmp 77) (.tmp 75), none⟩])))
noncomputable def code_push_Parser_Feed_t1 : ACode :=
  (.seq (.region [⟨some 163, .mv (.tmp 1), none⟩,
    ⟨some 164, .lenL (.tmp 163), none⟩,
    ⟨some 165, .mv (.tmp 0), none⟩,
    ⟨some 166, .nilchk (.tmp 165), none⟩,
    ⟨some 167, .faddr 12 (.tmp 166), none⟩,
    ⟨some 168, .load 1 false (.tmp 167), none⟩,
    ⟨some 169, .min (.tmp 164) (.tmp 168), none⟩,
    ⟨some 5, .mv (.tmp 169), none⟩])
  (.seq (.region [⟨some 170, .mv (.tmp 0), none⟩,
    ⟨some 171, .nilchk (.tmp 170), none⟩,
    ⟨some 172, .faddr 2 (.tmp 171), none⟩,
    ⟨some 173, .load 1 false (.tmp 172), none⟩,
    ⟨some 174, .mv (.tmp 5), none⟩,
    ⟨some 175, .bin .prim .add (.tmp 173) (.tmp 174), none⟩,
    ⟨some 176, .nilchk (.tmp 170), none⟩,
    ⟨some 177, .faddr 2 (.tmp 176), none⟩,
    ⟨none, .store 1 (.tmp 177) (.tmp 175), none⟩])
  (.seq (.region [⟨some 178, .mv (.tmp 0), none⟩,
    ⟨some 179, .nilchk (.tmp 178), none⟩,
    ⟨some 180, .faddr 12 (.tmp 179), none⟩,
    ⟨some 181, .load 1 false (.tmp 180), none⟩,
    ⟨some 182, .mv (.tmp 5), none⟩,
    ⟨some 183, .bin .prim .sub (.tmp 181) (.tmp 182), none⟩,
    ⟨some 184, .nilchk (.tmp 178), none⟩,
    ⟨some 185, .faddr 12 (.tmp 184), none⟩,
    ⟨none, .store 1 (.tmp 185) (.tmp 183), none⟩])
  (.seq (.region [⟨some 186, .mv (.tmp 0), none⟩,
    ⟨some 187, .nilchk (.tmp 186), none⟩,
    ⟨some 188, .faddr 12 (.tmp 187), none⟩,
    ⟨some 189, .load 1 false (.tmp 188), none⟩,
    ⟨some 190, .bin .prim .eql (.tmp 189) (.const (.int .i64 0)), none⟩])
  (.cond (.tmp 190)
  (.region [⟨some 191, .mv (.tmp 0), none⟩,
    ⟨some 192, .nilchk (.tmp 191), none⟩,
    ⟨some 193, .faddr 0 (.tmp 192), none⟩,
    ⟨none, .store 1 (.tmp 193) (.const (.int .i64 0)), none⟩])
  .skip)))))
noncomputable def code_push_Parser_Feed_t2 : ACode :=
  (.seq (.region [⟨some 123, .mv (.tmp 1), none⟩,
    ⟨some 124, .lenL (.tmp 123), none⟩,
    ⟨some 125, .mv (.tmp 0), none⟩,
    ⟨some 126, .nilchk (.tmp 125), none⟩,
    ⟨some 127, .faddr 11 (.tmp 126), none⟩,
    ⟨some 128, .load 1 false (.tmp 127), none⟩,
    ⟨some 129, .min (.tmp 124) (.tmp 128), none⟩,
    ⟨some 5, .mv (.tmp 129), none⟩])
  (.seq (.region [⟨some 130, .mv (.tmp 0), none⟩,
    ⟨some 131, .nilchk (.tmp 130), none⟩,
    ⟨some 132, .faddr 2 (.tmp 131), none⟩,
    ⟨some 133, .load 1 false (.tmp 132), none⟩,
    ⟨some 134, .mv (.tmp 5), none⟩,
    ⟨some 135, .bin .prim .add (.tmp 133) (.tmp 134), none⟩,
    ⟨some 136, .nilchk (.tmp 130), none⟩,
    ⟨some 137, .faddr 2 (.tmp 136), none⟩,
    ⟨none, .store 1 (.tmp 137) (.tmp 135), none⟩])
  (.seq (.region [⟨some 138, .mv (.tmp 0), none⟩,
    ⟨some 139, .bslice 0 [] [], none⟩,
    ⟨some 140, .mv (.tmp 1), none⟩,
    ⟨some 141, .mv (.tmp 5), none⟩,
    ⟨some 142, .slice 1 (.tmp 140) none (some (.tmp 141)), none⟩,
    ⟨some 143, .append 1 1 (.tmp 139) (.tmp 142), none⟩,
    ⟨some 144, .build [.int .i64 0, .string ⟨#[]⟩, .string ⟨#[]⟩, .int .i64 0, .int .i64 0, .int .i64 0, .int .i64 0, .int .i64 0, .int .i64 0, .string ⟨#[]⟩, .string ⟨#[]⟩, .slice none 0 0, .nilIface, .int .i64 0] [(0, 1, (.const (.int .i64 2))), (11, 1, (.tmp 143))], none⟩,
    ⟨some 145, .call Fn.push_Parser_say [(.tmp 138), (.tmp 144)], none⟩])
  (.seq (.region [⟨some 146, .mv (.tmp 0), none⟩,
    ⟨some 147, .nilchk (.tmp 146), none⟩,
    ⟨some 148, .faddr 11 (.tmp 147), none⟩,
    ⟨some 149, .load 1 false (.tmp 148), none⟩,
    ⟨some 150, .mv (.tmp 5), none⟩,
    ⟨some 151, .bin .prim .sub (.tmp 149) (.tmp 150), none⟩,
    ⟨some 152, .nilchk (.tmp 146), none⟩,
    ⟨some 153, .faddr 11 (.tmp 152), none⟩,
    ⟨none, .store 1 (.tmp 153) (.tmp 151), none⟩])
  (.seq (.region [⟨some 154, .mv (.tmp 0), none⟩,
    ⟨some 155, .nilchk (.tmp 154), none⟩,
    ⟨some 156, .faddr 11 (.tmp 155), none⟩,
    ⟨some 157, .load 1 false (.tmp 156), none⟩,
    ⟨some 158, .bin .prim .eql (.tmp 157) (.const (.int .i64 0)), none⟩])
  (.cond (.tmp 158)
  (.region [⟨some 159, .mv (.tmp 0), none⟩,
    ⟨some 160, .call Fn.push_Parser_finish [(.tmp 159)], none⟩])
  .skip))))))
noncomputable def code_push_Parser_Feed_t3 : ACode :=
  (.seq (.region [⟨some 162, .bin .prim .eql (.tmp 23) (.const (.int .i64 3)), none⟩,
    ⟨some 161, .mv (.tmp 162), none⟩])
  (.cond (.tmp 161)
  code_push_Parser_Feed_t1
  .skip))
noncomputable def code_push_Parser_Feed_t4 : ACode :=
  (.seq (.region [⟨some 80, .mv (.tmp 1), none⟩,
    ⟨some 81, .lenL (.tmp 80), none⟩,
    ⟨some 82, .mv (.tmp 0), none⟩,
    ⟨some 83, .nilchk (.tmp 82), none⟩,
    ⟨some 84, .faddr 11 (.tmp 83), none⟩,
    ⟨some 85, .load 1 false (.tmp 84), none⟩,
    ⟨some 86, .min (.tmp 81) (.tmp 85), none⟩,
    ⟨some 5, .mv (.tmp 86), none⟩])
  (.seq (.draw [⟨some 87, .mv (.tmp 0), none⟩,
    ⟨some 88, .mv (.tmp 0), none⟩,
    ⟨some 89, .nilchk (.tmp 88), none⟩,
    ⟨some 90, .faddr 6 (.tmp 89), none⟩,
    ⟨some 91, .load 1 false (.tmp 90), none⟩,
    ⟨some 92, .mv (.tmp 1), none⟩,
    ⟨some 93, .mv (.tmp 5), none⟩,
    ⟨some 94, .slice 1 (.tmp 92) none (some (.tmp 93)), none⟩,
    ⟨some 95, .append 1 1 (.tmp 91) (.tmp 94), none⟩,
    ⟨some 96, .nilchk (.tmp 87), none⟩,
    ⟨some 97, .faddr 6 (.tmp 96), none⟩,
    ⟨none, .store 1 (.tmp 97) (.tmp 95), none⟩]
    [[], [], [1], [2, 1], [3, 2, 1], [], [], [5, 6], [4, 7, 3, 2, 1, 5, 6], [0, 1, 2, 3, 4, 5, 6, 7, 8], [9, 0, 1, 2, 3, 4, 5, 6, 7, 8], [10, 8, 0, 1, 2, 3, 4, 5, 6, 7, 9]]
    (.eff [0, 1, 2, 3, 4, 5, 6, 7] [(8, .eff [9, 10] [(11, .done [])])]))
  (.seq (.region [⟨some 98, .mv (.tmp 0), none⟩,
    ⟨some 99, .nilchk (.tmp 98), none⟩,
    ⟨some 100, .faddr 2 (.tmp 99), none⟩,
    ⟨some 101, .load 1 false (.tmp 100), none⟩,
    ⟨some 102, .mv (.tmp 5), none⟩,
    ⟨some 103, .bin .prim .add (.tmp 101) (.tmp 102), none⟩,
    ⟨some 104, .nilchk (.tmp 98), none⟩,
    ⟨some 105, .faddr 2 (.tmp 104), none⟩,
    ⟨none, .store 1 (.tmp 105) (.tmp 103), none⟩])
  (.seq (.region [⟨some 106, .mv (.tmp 0), none⟩,
    ⟨some 107, .nilchk (.tmp 106), none⟩,
    ⟨some 108, .faddr 11 (.tmp 107), none⟩,
    ⟨some 109, .load 1 false (.tmp 108), none⟩,
    ⟨some 110, .mv (.tmp 5), none⟩,
    ⟨some 111, .bin .prim .sub (.tmp 109) (.tmp 110), none⟩,
    ⟨some 112, .nilchk (.tmp 106), none⟩,
    ⟨some 113, .faddr 11 (.tmp 112), none⟩,
    ⟨none, .store 1 (.tmp 113) (.tmp 111), none⟩])
  (.seq (.region [⟨some 114, .mv (.tmp 0), none⟩,
    ⟨some 115, .nilchk (.tmp 114), none⟩,
    ⟨some 116, .faddr 11 (.tmp 115), none⟩,
    ⟨some 117, .load 1 false (.tmp 116), none⟩,
    ⟨some 118, .bin .prim .eql (.tmp 117) (.const (.int .i64 0)), none⟩])
  (.cond (.tmp 118)
  (.region [⟨some 119, .mv (.tmp 0), none⟩,
    ⟨some 120, .call Fn.push_Parser_told [(.tmp 119)], none⟩])
  .skip))))))
noncomputable def code_push_Parser_Feed_t5 : ACode :=
  (.seq (.region [⟨some 122, .bin .prim .eql (.tmp 23) (.const (.int .i64 2)), none⟩,
    ⟨some 121, .mv (.tmp 122), none⟩])
  (.cond (.tmp 121)
  code_push_Parser_Feed_t2
  code_push_Parser_Feed_t3))
noncomputable def code_push_Parser_Feed_t6 : ACode :=
  (.seq (.region [⟨some 26, .mv (.tmp 1), none⟩,
    ⟨some 27, .lenL (.tmp 26), none⟩,
    ⟨some 28, .mv (.tmp 0), none⟩,
    ⟨some 29, .nilchk (.tmp 28), none⟩,
    ⟨some 30, .faddr 1 (.tmp 29), none⟩,
    ⟨some 31, .load 1 false (.tmp 30), none⟩,
    ⟨some 32, .lenL (.tmp 31), none⟩,
    ⟨some 33, .bin .prim .sub (.const (.int .i64 512)) (.tmp 32), none⟩,
    ⟨some 34, .min (.tmp 27) (.tmp 33), none⟩,
    ⟨some 5, .mv (.tmp 34), none⟩])
  (.seq (.draw [⟨some 35, .mv (.tmp 0), none⟩,
    ⟨some 36, .mv (.tmp 0), none⟩,
    ⟨some 37, .nilchk (.tmp 36), none⟩,
    ⟨some 38, .faddr 1 (.tmp 37), none⟩,
    ⟨some 39, .load 1 false (.tmp 38), none⟩,
    ⟨some 40, .mv (.tmp 1), none⟩,
    ⟨some 41, .mv (.tmp 5), none⟩,
    ⟨some 42, .slice 1 (.tmp 40) none (some (.tmp 41)), none⟩,
    ⟨some 43, .append 1 1 (.tmp 39) (.tmp 42), none⟩,
    ⟨some 44, .nilchk (.tmp 35), none⟩,
    ⟨some 45, .faddr 1 (.tmp 44), none⟩,
    ⟨none, .store 1 (.tmp 45) (.tmp 43), none⟩]
    [[], [], [1], [2, 1], [3, 2, 1], [], [], [5, 6], [4, 7, 3, 2, 1, 5, 6], [0, 1, 2, 3, 4, 5, 6, 7, 8], [9, 0, 1, 2, 3, 4, 5, 6, 7, 8], [10, 8, 0, 1, 2, 3, 4, 5, 6, 7, 9]]
    (.eff [0, 1, 2, 3, 4, 5, 6, 7] [(8, .eff [9, 10] [(11, .done [])])]))
  (.seq (.region [⟨some 46, .mv (.tmp 0), none⟩,
    ⟨some 47, .nilchk (.tmp 46), none⟩,
    ⟨some 48, .faddr 2 (.tmp 47), none⟩,
    ⟨some 49, .load 1 false (.tmp 48), none⟩,
    ⟨some 50, .mv (.tmp 5), none⟩,
    ⟨some 51, .bin .prim .add (.tmp 49) (.tmp 50), none⟩,
    ⟨some 52, .nilchk (.tmp 46), none⟩,
    ⟨some 53, .faddr 2 (.tmp 52), none⟩,
    ⟨none, .store 1 (.tmp 53) (.tmp 51), none⟩])
  (.seq (.region [⟨some 54, .mv (.tmp 0), none⟩,
    ⟨some 55, .nilchk (.tmp 54), none⟩,
    ⟨some 56, .faddr 1 (.tmp 55), none⟩,
    ⟨some 57, .load 1 false (.tmp 56), none⟩,
    ⟨some 58, .lenL (.tmp 57), none⟩,
    ⟨some 59, .bin .prim .eql (.tmp 58) (.const (.int .i64 512)), none⟩])
  (.cond (.tmp 59)
  code_push_Parser_Feed_t0
  .skip)))))
noncomputable def code_push_Parser_Feed_t7 : ACode :=
  (.seq (.region [⟨some 79, .bin .prim .eql (.tmp 23) (.const (.int .i64 1)), none⟩,
    ⟨some 78, .mv (.tmp 79), none⟩])
  (.cond (.tmp 78)
  code_push_Parser_Feed_t4
  code_push_Parser_Feed_t5))
noncomputable def code_push_Parser_Feed_k0 : ACode :=
  (.region [⟨some 194, .mv (.tmp 1), none⟩,
    ⟨some 195, .mv (.tmp 5), none⟩,
    ⟨some 196, .slice 1 (.tmp 194) (some (.tmp 195)) none, none⟩,
    ⟨some 1, .mv (.tmp 196), none⟩])
noncomputable def code_push_Parser_Feed_k1 : ACode :=
  (.block 1 (.seq (.region [⟨some 5, .mv (.const (.int .i64 0)), none⟩])
  (.seq (.seq (.region [⟨some 20, .mv (.tmp 0), none⟩,
    ⟨some 21, .nilchk (.tmp 20), none⟩,
    ⟨some 22, .faddr 0 (.tmp 21), none⟩,
    ⟨some 23, .load 1 false (.tmp 22), none⟩])
  (.block 2 (.seq (.region [⟨some 25, .bin .prim .eql (.tmp 23) (.const (.int .i64 0)), none⟩,
    ⟨some 24, .mv (.tmp 25), none⟩])
  (.cond (.tmp 24)
  code_push_Parser_Feed_t6
  code_push_Parser_Feed_t7))))
  code_push_Parser_Feed_k0)))
noncomputable def code_push_Parser_Feed_l0 : ACode :=
  (.seq (.seq (.region [⟨some 10, .mv (.tmp 1), none⟩,
    ⟨some 11, .lenL (.tmp 10), none⟩,
    ⟨some 12, .bin .prim .gtr (.tmp 11) (.const (.int .i64 0)), none⟩,
    ⟨some 13, .mv (.tmp 12), none⟩,
    ⟨some 14, .mv (.tmp 0), some (13, true)⟩,
    ⟨some 15, .nilchk (.tmp 14), some (13, true)⟩,
    ⟨some 16, .faddr 0 (.tmp 15), some (13, true)⟩,
    ⟨some 17, .load 1 false (.tmp 16), some (13, true)⟩,
    ⟨some 18, .bin .prim .neq (.tmp 17) (.const (.int .i64 4)), some (13, true)⟩,
    ⟨some 19, .pick (.tmp 13) (.tmp 18) (.const (.bool false)), none⟩])
  (.cond (.tmp 19)
  .skip
  (.exit 0)))
  code_push_Parser_Feed_k1)
noncomputable def code_push_Parser_Feed_k2 : ACode :=
  (.seq (.region [⟨some 197, .mv (.tmp 0), none⟩,
    ⟨some 198, .nilchk (.tmp 197), none⟩,
    ⟨some 199, .faddr 15 (.tmp 198), none⟩,
    ⟨some 200, .load 1 false (.tmp 199), none⟩,
    ⟨some 6, .mv (.tmp 200), none⟩])
  (.seq (.region [⟨some 201, .mv (.tmp 0), none⟩,
    ⟨some 202, .nilchk (.tmp 201), none⟩,
    ⟨some 203, .faddr 15 (.tmp 202), none⟩,
    ⟨none, .store 1 (.tmp 203) (.const (.slice none 0 0)), none⟩])
  (.seq (.region [⟨some 204, .mv (.tmp 6), none⟩,
    ⟨some 4, .mv (.tmp 204), none⟩])
  .ret)))
noncomputable def code_push_Parser_Feed : ACode :=
  (.seq (.region [⟨some 4, .mv (.const (.slice none 0 0)), none⟩])
  (.seq (.region [⟨some 7, .mv (.tmp 0), none⟩,
    ⟨some 8, .nilchk (.tmp 7), none⟩,
    ⟨some 9, .faddr 15 (.tmp 8), none⟩,
    ⟨none, .store 1 (.tmp 9) (.const (.slice none 0 0)), none⟩])
  (.seq (.block 0 (.loop code_push_Parser_Feed_l0))
  code_push_Parser_Feed_k2)))
theorem in_push_Parser_Feed {W0 : World} {args : List AV} {S : St} {Q : AV → St → Prop} (hle : args.length ≤ 205)
    (h : awp Pr W0 S code_push_Parser_Feed (bodyQ [.tmp 4] S Q) (env0 args) S) : CallsA Pr W0 Fn.push_Parser_Feed args S Q :=
  CallsA.of_body (nt := 205) (rs := #[.tmp 4]) (fn := Tryz.f8) [(7, .eff [0, 1, 2, 3, 4, 5, 6, 7] [(8, .eff [9, 10] [(11, .done [])])]), (15, .eff [0, 1, 2, 3, 4, 5, 6, 7] [(8, .eff [9, 10] [(11, .done [])])])] rfl rfl rfl rfl rfl hle (by kernel_rfl) h

noncomputable def code_fault_Code_k0 : ACode :=
  (.seq (.region [⟨some 2, .mv (.const (.int .i64 0)), none⟩])
  .ret)
noncomputable def code_fault_Code : ACode :=
  (.seq (.region [⟨some 2, .mv (.const (.int .i64 0)), none⟩])
  (.seq (.region [⟨some 3, .alloc [.int .i64 0], none⟩])
  (.seq (.seq (.region [⟨some 4, .mv (.tmp 0), none⟩,
    ⟨some 5, .mkI Ty.ptr_api_Errno (.tmp 3), none⟩,
    ⟨some 6, .call Fn.errors_As [(.tmp 4), (.tmp 5)], none⟩])
  (.cond (.tmp 6)
  (.seq (.region [⟨some 7, .load 1 false (.tmp 3), none⟩,
    ⟨some 2, .mv (.tmp 7), none⟩])
  .ret)
  .skip))
  code_fault_Code_k0)))
theorem in_fault_Code {W0 : World} {args : List AV} {S : St} {Q : AV → St → Prop} (hle : args.length ≤ 8)
    (h : awp Pr W0 S code_fault_Code (bodyQ [.tmp 2] S Q) (env0 args) S) : CallsA Pr W0 Fn.fault_Code args S Q :=
  CallsA.of_body (nt := 8) (rs := #[.tmp 2]) (fn := Tryz.f9) [] rfl rfl rfl rfl rfl hle (by kernel_rfl) h

noncomputable def code_fault_Place_k0 : ACode :=
  (.seq (.region [⟨some 2, .mv (.const (.int .i64 (-1))), none⟩])
  .ret)
noncomputable def code_fault_Place : ACode :=
  (.seq (.region [⟨some 2, .mv (.const (.int .i64 0)), none⟩])
  (.seq (.region [⟨some 3, .alloc [.int .i64 0, .nilIface], none⟩])
  (.seq (.seq (.region [⟨some 4, .mv (.tmp 0), none⟩,
    ⟨some 5, .mkI Ty.ptr_fault_At (.tmp 3), none⟩,
    ⟨some 6, .call Fn.errors_As [(.tmp 4), (.tmp 5)], none⟩])
  (.cond (.tmp 6)
  (.seq (.region [⟨some 7, .faddr 0 (.tmp 3), none⟩,
    ⟨some 8, .load 1 false (.tmp 7), none⟩,
    ⟨some 2, .mv (.tmp 8), none⟩])
  .ret)
  .skip))
  code_fault_Place_k0)))
theorem in_fault_Place {W0 : World} {args : List AV} {S : St} {Q : AV → St → Prop} (hle : args.length ≤ 9)
    (h : awp Pr W0 S code_fault_Place (bodyQ [.tmp 2] S Q) (env0 args) S) : CallsA Pr W0 Fn.fault_Place args S Q :=
  CallsA.of_body (nt := 9) (rs := #[.tmp 2]) (fn := Tryz.f10) [] rfl rfl rfl rfl rfl hle (by kernel_rfl) h

noncomputable def code_push_Parser_End_k0 : ACode :=
  (.seq (.region [⟨some 18, .mv (.tmp 0), none⟩,
    ⟨some 19, .nilchk (.tmp 18), none⟩,
    ⟨some 20, .faddr 2 (.tmp 19), none⟩,
    ⟨some 21, .load 1 false (.tmp 20), none⟩,
    ⟨some 22, .call Fn.fault_New [(.const (.int .i64 5)), (.tmp 21)], none⟩,
    ⟨some 2, .mv (.tmp 22), none⟩])
  .ret)
noncomputable def code_push_Parser_End : ACode :=
  (.seq (.region [⟨some 2, .mv (.const (.nilIface)), none⟩])
  (.seq (.block 0 (.seq (.region [⟨some 4, .mv (.tmp 0), none⟩,
    ⟨some 5, .nilchk (.tmp 4), none⟩,
    ⟨some 6, .faddr 13 (.tmp 5), none⟩,
    ⟨some 7, .load 1 false (.tmp 6), none⟩,
    ⟨some 8, .bin .nilI .neq (.tmp 7) (.const (.nilIface)), none⟩,
    ⟨some 3, .mv (.tmp 8), none⟩])
  (.cond (.tmp 3)
  (.seq (.region [⟨some 9, .mv (.tmp 0), none⟩,
    ⟨some 10, .nilchk (.tmp 9), none⟩,
    ⟨some 11, .faddr 13 (.tmp 10), none⟩,
    ⟨some 12, .load 1 false (.tmp 11), none⟩,
    ⟨some 2, .mv (.tmp 12), none⟩])
  .ret)
  (.seq (.region [⟨some 14, .mv (.tmp 0), none⟩,
    ⟨some 15, .nilchk (.tmp 14), none⟩,
    ⟨some 16, .faddr 14 (.tmp 15), none⟩,
    ⟨some 17, .load 1 false (.tmp 16), none⟩,
    ⟨some 13, .mv (.tmp 17), none⟩])
  (.cond (.tmp 13)
  (.seq (.region [⟨some 2, .mv (.const (.nilIface)), none⟩])
  .ret)
  .skip)))))
  code_push_Parser_End_k0))
theorem in_push_Parser_End {W0 : World} {args : List AV} {S : St} {Q : AV → St → Prop} (hle : args.length ≤ 23)
    (h : awp Pr W0 S code_push_Parser_End (bodyQ [.tmp 2] S Q) (env0 args) S) : CallsA Pr W0 Fn.push_Parser_End args S Q :=
  CallsA.of_body (nt := 23) (rs := #[.tmp 2]) (fn := Tryz.f11) [] rfl rfl rfl rfl rfl hle (by kernel_rfl) h

noncomputable def code_push_Parser_At : ACode :=
  (.seq (.region [⟨some 2, .mv (.const (.int .i64 0)), none⟩])
  (.seq (.region [⟨some 3, .mv (.tmp 0), none⟩,
    ⟨some 4, .nilchk (.tmp 3), none⟩,
    ⟨some 5, .faddr 2 (.tmp 4), none⟩,
    ⟨some 6, .load 1 false (.tmp 5), none⟩,
    ⟨some 2, .mv (.tmp 6), none⟩])
  .ret))
theorem in_push_Parser_At {W0 : World} {args : List AV} {S : St} {Q : AV → St → Prop} (hle : args.length ≤ 7)
    (h : awp Pr W0 S code_push_Parser_At (bodyQ [.tmp 2] S Q) (env0 args) S) : CallsA Pr W0 Fn.push_Parser_At args S Q :=
  CallsA.of_body (nt := 7) (rs := #[.tmp 2]) (fn := Tryz.f12) [] rfl rfl rfl rfl rfl hle (by kernel_rfl) h

noncomputable def code_head_Fits : ACode :=
  (.seq (.region [⟨some 4, .mv (.const (.bool false)), none⟩])
  (.seq (.region [⟨some 5, .mv (.tmp 0), none⟩,
    ⟨some 6, .lenS (.tmp 5), none⟩,
    ⟨some 7, .mv (.tmp 1), none⟩,
    ⟨some 8, .bin .prim .leq (.tmp 6) (.tmp 7), none⟩,
    ⟨some 9, .mv (.tmp 8), none⟩,
    ⟨some 10, .mv (.tmp 0), some (9, true)⟩,
    ⟨some 11, .call Fn.strings_Contains [(.tmp 10), (.const (.string ⟨#[0]⟩))], some (9, true)⟩,
    ⟨some 12, .un .not (.tmp 11), some (9, true)⟩,
    ⟨some 13, .pick (.tmp 9) (.tmp 12) (.const (.bool false)), none⟩,
    ⟨some 4, .mv (.tmp 13), none⟩])
  .ret))
theorem in_head_Fits {W0 : World} {args : List AV} {S : St} {Q : AV → St → Prop} (hle : args.length ≤ 14)
    (h : awp Pr W0 S code_head_Fits (bodyQ [.tmp 4] S Q) (env0 args) S) : CallsA Pr W0 Fn.head_Fits args S Q :=
  CallsA.of_body (nt := 14) (rs := #[.tmp 4]) (fn := Tryz.f16) [] rfl rfl rfl rfl rfl hle (by kernel_rfl) h

noncomputable def code_octal_Format_k0 : ACode :=
  (.region [⟨some 26, .mv (.tmp 7), none⟩,
    ⟨some 27, .bin .prim .sub (.tmp 26) (.const (.int .i64 1)), none⟩,
    ⟨some 7, .mv (.tmp 27), none⟩])
noncomputable def code_octal_Format_k1 : ACode :=
  (.seq (.block 2 (.seq (.region [⟨some 28, .mv (.tmp 6), none⟩,
    ⟨some 29, .mv (.tmp 7), none⟩,
    ⟨some 30, .mv (.tmp 0), none⟩,
    ⟨some 31, .bin .prim .rem (.tmp 30) (.const (.int .i64 8)), none⟩,
    ⟨some 32, .bin .prim .add (.const (.int .i64 48)) (.tmp 31), none⟩,
    ⟨some 33, .convI .u8 (.tmp 32), none⟩,
    ⟨some 34, .iaddr 1 (.tmp 28) (.tmp 29), none⟩,
    ⟨none, .store 1 (.tmp 34) (.tmp 33), none⟩])
  (.region [⟨some 35, .mv (.tmp 0), none⟩,
    ⟨some 36, .bin .prim .quo (.tmp 35) (.const (.int .i64 8)), none⟩,
    ⟨some 0, .mv (.tmp 36), none⟩])))
  code_octal_Format_k0)
noncomputable def code_octal_Format_l0 : ACode :=
  (.seq (.seq (.region [⟨some 24, .mv (.tmp 7), none⟩,
    ⟨some 25, .bin .prim .geq (.tmp 24) (.const (.int .i64 0)), none⟩])
  (.cond (.tmp 25)
  .skip
  (.exit 1)))
  code_octal_Format_k1)
noncomputable def code_octal_Format_k2 : ACode :=
  (.seq (.region [⟨some 37, .mv (.tmp 6), none⟩,
    ⟨some 4, .mv (.tmp 37), none⟩,
    ⟨some 5, .mv (.const (.int .i64 0)), none⟩])
  .ret)
noncomputable def code_octal_Format_k3 : ACode :=
  (.seq (.region [⟨some 20, .mv (.tmp 1), none⟩,
    ⟨some 21, .mkSl 1 1 [.int .u8 0] (.tmp 20) (.tmp 20), none⟩,
    ⟨some 6, .mv (.tmp 21), none⟩])
  (.seq (.seq (.region [⟨some 22, .mv (.tmp 1), none⟩,
    ⟨some 23, .bin .prim .sub (.tmp 22) (.const (.int .i64 2)), none⟩,
    ⟨some 7, .mv (.tmp 23), none⟩])
  (.block 1 (.loop code_octal_Format_l0)))
  code_octal_Format_k2))
noncomputable def code_octal_Format : ACode :=
  (.seq (.region [⟨some 4, .mv (.const (.slice none 0 0)), none⟩,
    ⟨some 5, .mv (.const (.int .i64 0)), none⟩])
  (.seq (.block 0 (.seq (.region [⟨some 9, .mv (.tmp 1), none⟩,
    ⟨some 10, .bin .prim .lss (.tmp 9) (.const (.int .i64 2)), none⟩,
    ⟨some 11, .mv (.tmp 10), none⟩,
    ⟨some 12, .mv (.tmp 1), some (11, false)⟩,
    ⟨some 13, .bin .prim .gtr (.tmp 12) (.const (.int .i64 24)), some (11, false)⟩,
    ⟨some 14, .pick (.tmp 11) (.const (.bool true)) (.tmp 13), none⟩,
    ⟨some 8, .mv (.tmp 14), none⟩])
  (.cond (.tmp 8)
  (.seq (.region [⟨some 4, .mv (.const (.slice none 0 0)), none⟩,
    ⟨some 5, .mv (.const (.int .i64 1)), none⟩])
  .ret)
  (.seq (.region [⟨some 16, .mv (.tmp 0), none⟩,
    ⟨some 17, .mv (.tmp 1), none⟩,
    ⟨some 18, .call Fn.octal_Fits [(.tmp 16), (.tmp 17)], none⟩,
    ⟨some 19, .un .not (.tmp 18), none⟩,
    ⟨some 15, .mv (.tmp 19), none⟩])
  (.cond (.tmp 15)
  (.seq (.region [⟨some 4, .mv (.const (.slice none 0 0)), none⟩,
    ⟨some 5, .mv (.const (.int .i64 20)), none⟩])
  .ret)
  .skip)))))
  code_octal_Format_k3))
theorem in_octal_Format {W0 : World} {args : List AV} {S : St} {Q : AV → St → Prop} (hle : args.length ≤ 38)
    (h : awp Pr W0 S code_octal_Format (bodyQ [.tmp 4, .tmp 5] S Q) (env0 args) S) : CallsA Pr W0 Fn.octal_Format args S Q :=
  CallsA.of_body (nt := 38) (rs := #[.tmp 4, .tmp 5]) (fn := Tryz.f17) [] rfl rfl rfl rfl rfl hle (by kernel_rfl) h

noncomputable def code_sum_Seal_k0 : ACode :=
  (.seq (.draw [⟨some 22, .mv (.tmp 4), none⟩,
    ⟨some 23, .slice 1 (.tmp 22) (some (.const (.int .i64 148))) (some (.const (.int .i64 156))), none⟩,
    ⟨some 24, .mv (.tmp 5), none⟩,
    ⟨some 25, .bslice 1 [.int .u8 0] [(0, 1, (.const (.int .u8 32)))], none⟩,
    ⟨some 26, .append 1 1 (.tmp 24) (.tmp 25), none⟩,
    ⟨some 27, .copy 1 (.tmp 23) (.tmp 26), none⟩]
    [[], [0], [], [], [2, 3], [1, 4, 0, 2, 3]]
    (.eff [0, 1, 2, 3] [(4, .eff [] [(5, .done [])])]))
  (.seq (.region [⟨some 28, .mv (.tmp 4), none⟩,
    ⟨some 2, .mv (.tmp 28), none⟩,
    ⟨some 3, .mv (.const (.int .i64 0)), none⟩])
  .ret))
noncomputable def code_sum_Seal_k1 : ACode :=
  (.seq (.region [⟨some 10, .bslice 0 [] [], none⟩,
    ⟨some 11, .mv (.tmp 0), none⟩,
    ⟨some 12, .append 1 1 (.tmp 10) (.tmp 11), none⟩,
    ⟨some 4, .mv (.tmp 12), none⟩])
  (.seq (.region [⟨some 14, .mv (.tmp 0), none⟩,
    ⟨some 15, .call Fn.sum_Plain [(.tmp 14)], none⟩,
    ⟨some 16, .call Fn.octal_Format [(.tmp 15), (.const (.int .i64 7))], none⟩,
    ⟨some 13, .mv (.tmp 16), none⟩,
    ⟨some 17, .extract 0 (.tmp 13), none⟩,
    ⟨some 18, .extract 1 (.tmp 13), none⟩,
    ⟨some 5, .mv (.tmp 17), none⟩,
    ⟨some 6, .mv (.tmp 18), none⟩])
  (.seq (.seq (.region [⟨some 19, .mv (.tmp 6), none⟩,
    ⟨some 20, .bin .prim .neq (.tmp 19) (.const (.int .i64 0)), none⟩])
  (.cond (.tmp 20)
  (.seq (.region [⟨some 21, .mv (.tmp 6), none⟩,
    ⟨some 2, .mv (.const (.slice none 0 0)), none⟩,
    ⟨some 3, .mv (.tmp 21), none⟩])
  .ret)
  .skip))
  code_sum_Seal_k0)))
noncomputable def code_sum_Seal : ACode :=
  (.seq (.region [⟨some 2, .mv (.const (.slice none 0 0)), none⟩,
    ⟨some 3, .mv (.const (.int .i64 0)), none⟩])
  (.seq (.seq (.region [⟨some 7, .mv (.tmp 0), none⟩,
    ⟨some 8, .lenL (.tmp 7), none⟩,
    ⟨some 9, .bin .prim .neq (.tmp 8) (.const (.int .i64 512)), none⟩])
  (.cond (.tmp 9)
  (.seq (.region [⟨some 2, .mv (.const (.slice none 0 0)), none⟩,
    ⟨some 3, .mv (.const (.int .i64 1)), none⟩])
  .ret)
  .skip))
  code_sum_Seal_k1))
theorem in_sum_Seal {W0 : World} {args : List AV} {S : St} {Q : AV → St → Prop} (hle : args.length ≤ 29)
    (h : awp Pr W0 S code_sum_Seal (bodyQ [.tmp 2, .tmp 3] S Q) (env0 args) S) : CallsA Pr W0 Fn.sum_Seal args S Q :=
  CallsA.of_body (nt := 29) (rs := #[.tmp 2, .tmp 3]) (fn := Tryz.f18) [(7, .eff [0, 1, 2, 3] [(4, .eff [] [(5, .done [])])])] rfl rfl rfl rfl rfl hle (by kernel_rfl) h

noncomputable def code_push_Parser_head_k0 : ACode :=
  (.seq (.region [⟨some 22, .mv (.tmp 0), none⟩,
    ⟨some 23, .nilchk (.tmp 22), none⟩,
    ⟨some 24, .faddr 4 (.tmp 23), none⟩,
    ⟨none, .store 1 (.tmp 24) (.const (.bool true)), none⟩])
  .ret)
noncomputable def code_push_Parser_head_t0 : ACode :=
  (.seq (.seq (.region [⟨some 9, .mv (.tmp 0), none⟩,
    ⟨some 10, .nilchk (.tmp 9), none⟩,
    ⟨some 11, .faddr 4 (.tmp 10), none⟩,
    ⟨some 12, .load 1 false (.tmp 11), none⟩])
  (.cond (.tmp 12)
  (.seq (.region [⟨some 13, .mv (.tmp 0), none⟩,
    ⟨some 14, .mv (.tmp 0), none⟩,
    ⟨some 15, .nilchk (.tmp 13), none⟩,
    ⟨some 16, .faddr 0 (.tmp 15), none⟩,
    ⟨none, .store 1 (.tmp 16) (.const (.int .i64 4)), none⟩,
    ⟨some 17, .nilchk (.tmp 14), none⟩,
    ⟨some 18, .faddr 14 (.tmp 17), none⟩,
    ⟨none, .store 1 (.tmp 18) (.const (.bool true)), none⟩])
  (.region [⟨some 19, .mv (.tmp 0), none⟩,
    ⟨some 20, .build [.int .i64 0, .string ⟨#[]⟩, .string ⟨#[]⟩, .int .i64 0, .int .i64 0, .int .i64 0, .int .i64 0, .int .i64 0, .int .i64 0, .string ⟨#[]⟩, .string ⟨#[]⟩, .slice none 0 0, .nilIface, .int .i64 0] [(0, 1, (.const (.int .i64 4)))], none⟩,
    ⟨some 21, .call Fn.push_Parser_say [(.tmp 19), (.tmp 20)], none⟩]))
  .skip))
  code_push_Parser_head_k0)
noncomputable def code_push_Parser_head_t1 : ACode :=
  (.seq (.draw [⟨some 54, .mv (.tmp 0), none⟩,
    ⟨some 55, .mv (.tmp 0), none⟩,
    ⟨some 56, .mv (.tmp 0), none⟩,
    ⟨some 57, .mv (.tmp 0), none⟩,
    ⟨some 58, .faddr 10 (.tmp 2), none⟩,
    ⟨some 59, .load 1 false (.tmp 58), none⟩,
    ⟨some 60, .faddr 10 (.tmp 2), none⟩,
    ⟨some 61, .load 1 false (.tmp 60), none⟩,
    ⟨some 62, .call Fn.entry_Pad [(.tmp 61)], none⟩,
    ⟨some 63, .nilchk (.tmp 54), none⟩,
    ⟨some 64, .faddr 0 (.tmp 63), none⟩,
    ⟨none, .store 1 (.tmp 64) (.const (.int .i64 1)), none⟩,
    ⟨some 65, .nilchk (.tmp 55), none⟩,
    ⟨some 66, .faddr 11 (.tmp 65), none⟩,
    ⟨none, .store 1 (.tmp 66) (.tmp 59), none⟩,
    ⟨some 67, .nilchk (.tmp 56), none⟩,
    ⟨some 68, .faddr 12 (.tmp 67), none⟩,
    ⟨none, .store 1 (.tmp 68) (.tmp 62), none⟩,
    ⟨some 69, .nilchk (.tmp 57), none⟩,
    ⟨some 70, .faddr 6 (.tmp 69), none⟩,
    ⟨none, .store 1 (.tmp 70) (.const (.slice none 0 0)), none⟩]
    [[], [], [], [], [], [4], [], [6], [7, 6], [0, 8, 7, 6], [9, 0, 8, 7, 6], [10, 8, 0, 9, 7, 6], [1, 0, 4, 5, 8, 9, 10, 11, 7, 6], [12, 0, 1, 4, 5, 8, 9, 10, 11, 7, 6], [13, 5, 11, 0, 1, 4, 8, 9, 10, 12, 7, 6], [2, 0, 1, 4, 5, 6, 7, 8, 9, 10, 11, 12, 13, 14], [15, 0, 1, 2, 4, 5, 6, 7, 8, 9, 10, 11, 12, 13, 14], [16, 8, 14, 0, 1, 2, 4, 5, 6, 7, 9, 10, 11, 12, 13, 15], [3, 0, 1, 2, 4, 5, 6, 7, 8, 9, 10, 11, 12, 13, 14, 15, 16, 17], [18, 0, 1, 2, 3, 4, 5, 6, 7, 8, 9, 10, 11, 12, 13, 14, 15, 16, 17], [19, 17, 0, 1, 2, 3, 4, 5, 6, 7, 8, 9, 10, 11, 12, 13, 14, 15, 16, 18]]
    (.eff [0, 1, 2, 3, 4, 5, 6, 7] [(8, .eff [9, 10] [(11, .eff [12, 13] [(14, .eff [15, 16] [(17, .eff [18, 19] [(20, .done [])])])])])]))
  (.seq (.region [⟨some 71, .faddr 10 (.tmp 2), none⟩,
    ⟨some 72, .load 1 false (.tmp 71), none⟩,
    ⟨some 73, .bin .prim .eql (.tmp 72) (.const (.int .i64 0)), none⟩])
  (.cond (.tmp 73)
  (.region [⟨some 74, .mv (.tmp 0), none⟩,
    ⟨some 75, .call Fn.push_Parser_told [(.tmp 74)], none⟩])
  .skip)))
noncomputable def code_push_Parser_head_t2 : ACode :=
  (.seq (.region [⟨some 83, .faddr 10 (.tmp 2), none⟩,
    ⟨some 84, .load 1 false (.tmp 83), none⟩,
    ⟨some 85, .bin .prim .gtr (.tmp 84) (.const (.int .i64 8192)), none⟩,
    ⟨some 82, .mv (.tmp 85), none⟩])
  (.cond (.tmp 82)
  (.region [⟨some 86, .mv (.tmp 0), none⟩,
    ⟨some 87, .call Fn.push_Parser_bad [(.tmp 86), (.const (.int .i64 2))], none⟩])
  code_push_Parser_head_t1))
noncomputable def code_push_Parser_head_t3 : ACode :=
  (.block 1 (.seq (.region [⟨some 77, .faddr 10 (.tmp 2), none⟩,
    ⟨some 78, .load 1 false (.tmp 77), none⟩,
    ⟨some 79, .bin .prim .lss (.tmp 78) (.const (.int .i64 0)), none⟩,
    ⟨some 76, .mv (.tmp 79), none⟩])
  (.cond (.tmp 76)
  (.region [⟨some 80, .mv (.tmp 0), none⟩,
    ⟨some 81, .call Fn.push_Parser_bad [(.tmp 80), (.const (.int .i64 90))], none⟩])
  code_push_Parser_head_t2)))
noncomputable def code_push_Parser_head_t4 : ACode :=
  (.seq (.region [⟨some 93, .bin .prim .eql (.tmp 53) (.const (.int .i64 1)), none⟩,
    ⟨some 92, .mv (.tmp 93), none⟩])
  (.cond (.tmp 92)
  (.region [⟨some 94, .mv (.tmp 0), none⟩,
    ⟨some 95, .load 12 true (.tmp 2), none⟩,
    ⟨some 96, .call Fn.push_Parser_thing [(.tmp 94), (.tmp 95)], none⟩])
  code_push_Parser_head_t3))
noncomputable def code_push_Parser_head_k1 : ACode :=
  (.seq (.region [⟨some 44, .mv (.tmp 0), none⟩,
    ⟨some 45, .faddr 6 (.tmp 2), none⟩,
    ⟨some 46, .load 1 false (.tmp 45), none⟩,
    ⟨some 47, .call Fn.kind_Class [(.tmp 46)], none⟩,
    ⟨some 48, .nilchk (.tmp 44), none⟩,
    ⟨some 49, .faddr 5 (.tmp 48), none⟩,
    ⟨none, .store 1 (.tmp 49) (.tmp 47), none⟩])
  (.seq (.region [⟨some 50, .mv (.tmp 0), none⟩,
    ⟨some 51, .nilchk (.tmp 50), none⟩,
    ⟨some 52, .faddr 5 (.tmp 51), none⟩,
    ⟨some 53, .load 1 false (.tmp 52), none⟩])
  (.block 0 (.seq (.region [⟨some 89, .bin .prim .eql (.tmp 53) (.const (.int .i64 0)), none⟩,
    ⟨some 88, .mv (.tmp 89), none⟩])
  (.cond (.tmp 88)
  (.region [⟨some 90, .mv (.tmp 0), none⟩,
    ⟨some 91, .call Fn.push_Parser_bad [(.tmp 90), (.const (.int .i64 80))], none⟩])
  code_push_Parser_head_t4)))))
noncomputable def code_push_Parser_head_k2 : ACode :=
  (.seq (.region [⟨some 32, .mv (.tmp 0), none⟩,
    ⟨some 33, .nilchk (.tmp 32), none⟩,
    ⟨some 34, .faddr 1 (.tmp 33), none⟩,
    ⟨some 35, .load 1 false (.tmp 34), none⟩,
    ⟨some 36, .call Fn.head_Decode [(.tmp 35)], none⟩,
    ⟨some 31, .mv (.tmp 36), none⟩,
    ⟨some 37, .extract 0 (.tmp 31), none⟩,
    ⟨some 38, .extract 1 (.tmp 31), none⟩,
    ⟨some 2, .alloc [.int .i64 0, .string ⟨#[]⟩, .string ⟨#[]⟩, .string ⟨#[]⟩, .string ⟨#[]⟩, .string ⟨#[]⟩, .int .u8 0, .int .i64 0, .int .i64 0, .int .i64 0, .int .i64 0, .int .i64 0], none⟩,
    ⟨none, .store 12 (.tmp 2) (.tmp 37), none⟩,
    ⟨some 3, .mv (.tmp 38), none⟩])
  (.seq (.seq (.region [⟨some 39, .mv (.tmp 3), none⟩,
    ⟨some 40, .bin .prim .neq (.tmp 39) (.const (.int .i64 0)), none⟩])
  (.cond (.tmp 40)
  (.seq (.region [⟨some 41, .mv (.tmp 0), none⟩,
    ⟨some 42, .mv (.tmp 3), none⟩,
    ⟨some 43, .call Fn.push_Parser_bad [(.tmp 41), (.tmp 42)], none⟩])
  .ret)
  .skip))
  code_push_Parser_head_k1))
noncomputable def code_push_Parser_head_k3 : ACode :=
  (.seq (.seq (.region [⟨some 25, .mv (.tmp 0), none⟩,
    ⟨some 26, .nilchk (.tmp 25), none⟩,
    ⟨some 27, .faddr 4 (.tmp 26), none⟩,
    ⟨some 28, .load 1 false (.tmp 27), none⟩])
  (.cond (.tmp 28)
  (.seq (.region [⟨some 29, .mv (.tmp 0), none⟩,
    ⟨some 30, .call Fn.push_Parser_bad [(.tmp 29), (.const (.int .i64 120))], none⟩])
  .ret)
  .skip))
  code_push_Parser_head_k2)
noncomputable def code_push_Parser_head : ACode :=
  (.seq (.seq (.region [⟨some 4, .mv (.tmp 0), none⟩,
    ⟨some 5, .nilchk (.tmp 4), none⟩,
    ⟨some 6, .faddr 1 (.tmp 5), none⟩,
    ⟨some 7, .load 1 false (.tmp 6), none⟩,
    ⟨some 8, .call Fn.head_Blank [(.tmp 7)], none⟩])
  (.cond (.tmp 8)
  code_push_Parser_head_t0
  .skip))
  code_push_Parser_head_k3)
theorem in_push_Parser_head {W0 : World} {args : List AV} {S : St} {Q : AV → St → Prop} (hle : args.length ≤ 97)
    (h : awp Pr W0 S code_push_Parser_head (bodyQ [] S Q) (env0 args) S) : CallsA Pr W0 Fn.push_Parser_head args S Q :=
  CallsA.of_body (nt := 97) (rs := #[]) (fn := Tryz.f19) [(12, .eff [0, 1, 2, 3, 4, 5, 6, 7] [(8, .eff [9, 10] [(11, .eff [12, 13] [(14, .eff [15, 16] [(17, .eff [18, 19] [(20, .done [])])])])])])] rfl rfl rfl rfl rfl hle (by kernel_rfl) h

noncomputable def code_push_Parser_told_k0 : ACode :=
  (.region [⟨some 58, .mv (.tmp 7), none⟩,
    ⟨some 59, .mv (.tmp 7), none⟩,
    ⟨some 60, .nilchk (.tmp 59), none⟩,
    ⟨some 61, .load 1 false (.tmp 60), none⟩,
    ⟨some 62, .mv (.tmp 5), none⟩,
    ⟨some 63, .append 2 32 (.tmp 61) (.tmp 62), none⟩,
    ⟨some 64, .nilchk (.tmp 58), none⟩,
    ⟨none, .store 1 (.tmp 64) (.tmp 63), none⟩])
noncomputable def code_push_Parser_told_k1 : ACode :=
  (.seq (.seq (.region [⟨some 48, .mv (.tmp 7), none⟩,
    ⟨some 49, .nilchk (.tmp 48), none⟩,
    ⟨some 50, .load 1 false (.tmp 49), none⟩,
    ⟨some 51, .lenL (.tmp 50), none⟩,
    ⟨some 52, .mv (.tmp 5), none⟩,
    ⟨some 53, .lenL (.tmp 52), none⟩,
    ⟨some 54, .bin .prim .add (.tmp 51) (.tmp 53), none⟩,
    ⟨some 55, .bin .prim .gtr (.tmp 54) (.const (.int .i64 64)), none⟩])
  (.cond (.tmp 55)
  (.seq (.region [⟨some 56, .mv (.tmp 0), none⟩,
    ⟨some 57, .call Fn.push_Parser_bad [(.tmp 56), (.const (.int .i64 2))], none⟩])
  .ret)
  .skip))
  code_push_Parser_told_k0)
noncomputable def code_push_Parser_told_k2 : ACode :=
  (.seq (.region [⟨some 35, .mv (.tmp 0), none⟩,
    ⟨some 36, .nilchk (.tmp 35), none⟩,
    ⟨some 37, .faddr 7 (.tmp 36), none⟩,
    ⟨some 38, .faddr 1 (.tmp 37), none⟩,
    ⟨some 7, .mv (.tmp 38), none⟩])
  (.seq (.seq (.region [⟨some 39, .mv (.tmp 0), none⟩,
    ⟨some 40, .nilchk (.tmp 39), none⟩,
    ⟨some 41, .faddr 5 (.tmp 40), none⟩,
    ⟨some 42, .load 1 false (.tmp 41), none⟩,
    ⟨some 43, .bin .prim .eql (.tmp 42) (.const (.int .i64 3)), none⟩])
  (.cond (.tmp 43)
  (.region [⟨some 44, .mv (.tmp 0), none⟩,
    ⟨some 45, .nilchk (.tmp 44), none⟩,
    ⟨some 46, .faddr 7 (.tmp 45), none⟩,
    ⟨some 47, .faddr 0 (.tmp 46), none⟩,
    ⟨some 7, .mv (.tmp 47), none⟩])
  .skip))
  code_push_Parser_told_k1))
noncomputable def code_push_Parser_told_t0 : ACode :=
  (.seq (.region [⟨some 23, .mv (.tmp 0), none⟩,
    ⟨some 24, .nilchk (.tmp 23), none⟩,
    ⟨some 25, .faddr 6 (.tmp 24), none⟩,
    ⟨some 26, .load 1 false (.tmp 25), none⟩,
    ⟨some 27, .call Fn.pax_Decode [(.tmp 26)], none⟩,
    ⟨some 22, .mv (.tmp 27), none⟩,
    ⟨some 28, .extract 0 (.tmp 22), none⟩,
    ⟨some 29, .extract 1 (.tmp 22), none⟩,
    ⟨some 5, .mv (.tmp 28), none⟩,
    ⟨some 6, .mv (.tmp 29), none⟩])
  (.seq (.seq (.region [⟨some 30, .mv (.tmp 6), none⟩,
    ⟨some 31, .bin .prim .neq (.tmp 30) (.const (.int .i64 0)), none⟩])
  (.cond (.tmp 31)
  (.seq (.region [⟨some 32, .mv (.tmp 0), none⟩,
    ⟨some 33, .mv (.tmp 6), none⟩,
    ⟨some 34, .call Fn.push_Parser_bad [(.tmp 32), (.tmp 33)], none⟩])
  .ret)
  .skip))
  code_push_Parser_told_k2))
noncomputable def code_push_Parser_told_t1 : ACode :=
  (.seq (.region [⟨some 73, .bin .prim .eql (.tmp 21) (.const (.int .i64 5)), none⟩,
    ⟨some 72, .mv (.tmp 73), none⟩])
  (.cond (.tmp 72)
  (.region [⟨some 74, .mv (.tmp 0), none⟩,
    ⟨some 75, .mv (.tmp 2), none⟩,
    ⟨some 76, .nilchk (.tmp 74), none⟩,
    ⟨some 77, .faddr 7 (.tmp 76), none⟩,
    ⟨some 78, .faddr 3 (.tmp 77), none⟩,
    ⟨none, .store 1 (.tmp 78) (.tmp 75), none⟩])
  code_push_Parser_told_t0))
noncomputable def code_push_Parser_told_k3 : ACode :=
  (.region [⟨some 79, .mv (.tmp 0), none⟩,
    ⟨some 80, .call Fn.push_Parser_skip [(.tmp 79)], none⟩])
noncomputable def code_push_Parser_told : ACode :=
  (.seq (.region [⟨some 9, .mv (.tmp 0), none⟩,
    ⟨some 10, .nilchk (.tmp 9), none⟩,
    ⟨some 11, .faddr 6 (.tmp 10), none⟩,
    ⟨some 12, .load 1 false (.tmp 11), none⟩,
    ⟨some 13, .convBS (.tmp 12), none⟩,
    ⟨some 14, .call Fn.strings_Cut [(.tmp 13), (.const (.string ⟨#[0]⟩))], none⟩,
    ⟨some 8, .mv (.tmp 14), none⟩,
    ⟨some 15, .extract 0 (.tmp 8), none⟩,
    ⟨some 16, .extract 1 (.tmp 8), none⟩,
    ⟨some 17, .extract 2 (.tmp 8), none⟩,
    ⟨some 2, .mv (.tmp 15), none⟩,
    ⟨some 3, .mv (.tmp 16), none⟩,
    ⟨some 4, .mv (.tmp 17), none⟩])
  (.seq (.seq (.region [⟨some 18, .mv (.tmp 0), none⟩,
    ⟨some 19, .nilchk (.tmp 18), none⟩,
    ⟨some 20, .faddr 5 (.tmp 19), none⟩,
    ⟨some 21, .load 1 false (.tmp 20), none⟩])
  (.block 0 (.seq (.region [⟨some 66, .bin .prim .eql (.tmp 21) (.const (.int .i64 4)), none⟩,
    ⟨some 65, .mv (.tmp 66), none⟩])
  (.cond (.tmp 65)
  (.region [⟨some 67, .mv (.tmp 0), none⟩,
    ⟨some 68, .mv (.tmp 2), none⟩,
    ⟨some 69, .nilchk (.tmp 67), none⟩,
    ⟨some 70, .faddr 7 (.tmp 69), none⟩,
    ⟨some 71, .faddr 2 (.tmp 70), none⟩,
    ⟨none, .store 1 (.tmp 71) (.tmp 68), none⟩])
  code_push_Parser_told_t1))))
  code_push_Parser_told_k3))
theorem in_push_Parser_told {W0 : World} {args : List AV} {S : St} {Q : AV → St → Prop} (hle : args.length ≤ 81)
    (h : awp Pr W0 S code_push_Parser_told (bodyQ [] S Q) (env0 args) S) : CallsA Pr W0 Fn.push_Parser_told args S Q :=
  CallsA.of_body (nt := 81) (rs := #[]) (fn := Tryz.f20) [] rfl rfl rfl rfl rfl hle (by kernel_rfl) h

noncomputable def code_push_Parser_say : ACode :=
  (.seq (.region [⟨some 3, .box (.tmp 1), none⟩])
  (.seq (.region [⟨some 4, .mv (.tmp 0), none⟩,
    ⟨some 5, .nilchk (.tmp 4), none⟩,
    ⟨some 6, .faddr 2 (.tmp 5), none⟩,
    ⟨some 7, .load 1 false (.tmp 6), none⟩,
    ⟨some 8, .faddr 13 (.tmp 3), none⟩,
    ⟨none, .store 1 (.tmp 8) (.tmp 7), none⟩])
  (.draw [⟨some 9, .mv (.tmp 0), none⟩,
    ⟨some 10, .mv (.tmp 0), none⟩,
    ⟨some 11, .nilchk (.tmp 10), none⟩,
    ⟨some 12, .faddr 15 (.tmp 11), none⟩,
    ⟨some 13, .load 1 false (.tmp 12), none⟩,
    ⟨some 14, .load 14 true (.tmp 3), none⟩,
    ⟨some 15, .bslice 1 [.int .i64 0, .string ⟨#[]⟩, .string ⟨#[]⟩, .int .i64 0, .int .i64 0, .int .i64 0, .int .i64 0, .int .i64 0, .int .i64 0, .string ⟨#[]⟩, .string ⟨#[]⟩, .slice none 0 0, .nilIface, .int .i64 0] [(0, 14, (.tmp 14))], none⟩,
    ⟨some 16, .append 14 168 (.tmp 13) (.tmp 15), none⟩,
    ⟨some 17, .nilchk (.tmp 9), none⟩,
    ⟨some 18, .faddr 15 (.tmp 17), none⟩,
    ⟨none, .store 1 (.tmp 18) (.tmp 16), none⟩]
    [[], [], [1], [2, 1], [3, 2, 1], [], [5], [4, 6, 3, 2, 1, 5], [0, 1, 2, 3, 4, 5, 6, 7], [8, 0, 1, 2, 3, 4, 5, 6, 7], [9, 7, 0, 1, 2, 3, 4, 5, 6, 8]]
    (.eff [0, 1, 2, 3, 4, 5, 6] [(7, .eff [8, 9] [(10, .done [])])]))))
theorem in_push_Parser_say {W0 : World} {args : List AV} {S : St} {Q : AV → St → Prop} (hle : args.length ≤ 19)
    (h : awp Pr W0 S code_push_Parser_say (bodyQ [] S Q) (env0 args) S) : CallsA Pr W0 Fn.push_Parser_say args S Q :=
  CallsA.of_body (nt := 19) (rs := #[]) (fn := Tryz.f21) [(2, .eff [0, 1, 2, 3, 4, 5, 6] [(7, .eff [8, 9] [(10, .done [])])])] rfl rfl rfl rfl rfl hle (by kernel_rfl) h

noncomputable def code_push_Parser_finish : ACode :=
  (.seq (.region [⟨some 2, .mv (.tmp 0), none⟩,
    ⟨some 3, .build [.int .i64 0, .string ⟨#[]⟩, .string ⟨#[]⟩, .int .i64 0, .int .i64 0, .int .i64 0, .int .i64 0, .int .i64 0, .int .i64 0, .string ⟨#[]⟩, .string ⟨#[]⟩, .slice none 0 0, .nilIface, .int .i64 0] [(0, 1, (.const (.int .i64 3)))], none⟩,
    ⟨some 4, .call Fn.push_Parser_say [(.tmp 2), (.tmp 3)], none⟩])
  (.region [⟨some 5, .mv (.tmp 0), none⟩,
    ⟨some 6, .call Fn.push_Parser_skip [(.tmp 5)], none⟩]))
theorem in_push_Parser_finish {W0 : World} {args : List AV} {S : St} {Q : AV → St → Prop} (hle : args.length ≤ 7)
    (h : awp Pr W0 S code_push_Parser_finish (bodyQ [] S Q) (env0 args) S) : CallsA Pr W0 Fn.push_Parser_finish args S Q :=
  CallsA.of_body (nt := 7) (rs := #[]) (fn := Tryz.f22) [] rfl rfl rfl rfl rfl hle (by kernel_rfl) h

noncomputable def code_fault_New_k0 : ACode :=
  (.seq (.region [⟨some 7, .mv (.tmp 1), none⟩,
    ⟨some 8, .mv (.tmp 0), none⟩,
    ⟨some 9, .mkI Ty.api_Errno (.tmp 8), none⟩,
    ⟨some 10, .build [.int .i64 0, .nilIface] [(0, 1, (.tmp 7)), (1, 1, (.tmp 9))], none⟩,
    ⟨some 11, .mkI Ty.fault_At (.tmp 10), none⟩,
    ⟨some 4, .mv (.tmp 11), none⟩])
  .ret)
noncomputable def code_fault_New : ACode :=
  (.seq (.region [⟨some 4, .mv (.const (.nilIface)), none⟩])
  (.seq (.seq (.region [⟨some 5, .mv (.tmp 0), none⟩,
    ⟨some 6, .bin .prim .eql (.tmp 5) (.const (.int .i64 0)), none⟩])
  (.cond (.tmp 6)
  (.seq (.region [⟨some 4, .mv (.const (.nilIface)), none⟩])
  .ret)
  .skip))
  code_fault_New_k0))
theorem in_fault_New {W0 : World} {args : List AV} {S : St} {Q : AV → St → Prop} (hle : args.length ≤ 12)
    (h : awp Pr W0 S code_fault_New (bodyQ [.tmp 4] S Q) (env0 args) S) : CallsA Pr W0 Fn.fault_New args S Q :=
  CallsA.of_body (nt := 12) (rs := #[.tmp 4]) (fn := Tryz.f24) [] rfl rfl rfl rfl rfl hle (by kernel_rfl) h

noncomputable def code_pax_Check_k0 : ACode :=
  (.seq (.region [⟨some 2, .mv (.const (.int .i64 0)), none⟩])
  .ret)
noncomputable def code_pax_Check : ACode :=
  (.seq (.region [⟨some 1, .box (.tmp 0), none⟩,
    ⟨some 2, .mv (.const (.int .i64 0)), none⟩])
  (.seq (.block 0 (.seq (.region [⟨some 4, .faddr 0 (.tmp 1), none⟩,
    ⟨some 5, .load 1 false (.tmp 4), none⟩,
    ⟨some 6, .bin .prim .eql (.tmp 5) (.const (.string ⟨#[]⟩)), none⟩,
    ⟨some 7, .mv (.tmp 6), none⟩,
    ⟨some 8, .faddr 0 (.tmp 1), some (7, false)⟩,
    ⟨some 9, .load 1 false (.tmp 8), some (7, false)⟩,
    ⟨some 10, .call Fn.strings_ContainsAny [(.tmp 9), (.const (.string ⟨#[61, 0, 10]⟩))], some (7, false)⟩,
    ⟨some 11, .pick (.tmp 7) (.const (.bool true)) (.tmp 10), none⟩,
    ⟨some 3, .mv (.tmp 11), none⟩])
  (.cond (.tmp 3)
  (.seq (.region [⟨some 2, .mv (.const (.int .i64 70)), none⟩])
  .ret)
  (.seq (.region [⟨some 13, .faddr 0 (.tmp 1), none⟩,
    ⟨some 14, .load 1 false (.tmp 13), none⟩,
    ⟨some 15, .lenS (.tmp 14), none⟩,
    ⟨some 16, .faddr 1 (.tmp 1), none⟩,
    ⟨some 17, .load 1 false (.tmp 16), none⟩,
    ⟨some 18, .lenS (.tmp 17), none⟩,
    ⟨some 19, .bin .prim .add (.tmp 15) (.tmp 18), none⟩,
    ⟨some 20, .bin .prim .gtr (.tmp 19) (.const (.int .i64 4096)), none⟩,
    ⟨some 12, .mv (.tmp 20), none⟩])
  (.cond (.tmp 12)
  (.seq (.region [⟨some 2, .mv (.const (.int .i64 2)), none⟩])
  .ret)
  .skip)))))
  code_pax_Check_k0))
theorem in_pax_Check {W0 : World} {args : List AV} {S : St} {Q : AV → St → Prop} (hle : args.length ≤ 21)
    (h : awp Pr W0 S code_pax_Check (bodyQ [.tmp 2] S Q) (env0 args) S) : CallsA Pr W0 Fn.pax_Check args S Q :=
  CallsA.of_body (nt := 21) (rs := #[.tmp 2]) (fn := Tryz.f25) [] rfl rfl rfl rfl rfl hle (by kernel_rfl) h

noncomputable def code_pax_length_k0 : ACode :=
  (.seq (.region [⟨some 25, .mv (.tmp 3), none⟩,
    ⟨some 26, .mv (.tmp 4), none⟩,
    ⟨some 27, .bin .prim .add (.tmp 25) (.tmp 26), none⟩,
    ⟨some 2, .mv (.tmp 27), none⟩])
  .ret)
noncomputable def code_pax_length : ACode :=
  (.seq (.region [⟨some 1, .box (.tmp 0), none⟩,
    ⟨some 2, .mv (.const (.int .i64 0)), none⟩])
  (.seq (.region [⟨some 5, .faddr 0 (.tmp 1), none⟩,
    ⟨some 6, .load 1 false (.tmp 5), none⟩,
    ⟨some 7, .lenS (.tmp 6), none⟩,
    ⟨some 8, .faddr 1 (.tmp 1), none⟩,
    ⟨some 9, .load 1 false (.tmp 8), none⟩,
    ⟨some 10, .lenS (.tmp 9), none⟩,
    ⟨some 11, .bin .prim .add (.tmp 7) (.tmp 10), none⟩,
    ⟨some 12, .bin .prim .add (.tmp 11) (.const (.int .i64 3)), none⟩,
    ⟨some 3, .mv (.tmp 12), none⟩])
  (.seq (.region [⟨some 13, .mv (.tmp 3), none⟩,
    ⟨some 14, .call Fn.strconv_Itoa [(.tmp 13)], none⟩,
    ⟨some 15, .lenS (.tmp 14), none⟩,
    ⟨some 4, .mv (.tmp 15), none⟩])
  (.seq (.seq (.region [⟨some 16, .mv (.tmp 3), none⟩,
    ⟨some 17, .mv (.tmp 4), none⟩,
    ⟨some 18, .bin .prim .add (.tmp 16) (.tmp 17), none⟩,
    ⟨some 19, .call Fn.strconv_Itoa [(.tmp 18)], none⟩,
    ⟨some 20, .lenS (.tmp 19), none⟩,
    ⟨some 21, .mv (.tmp 4), none⟩,
    ⟨some 22, .bin .prim .gtr (.tmp 20) (.tmp 21), none⟩])
  (.cond (.tmp 22)
  (.region [⟨some 23, .mv (.tmp 4), none⟩,
    ⟨some 24, .bin .prim .add (.tmp 23) (.const (.int .i64 1)), none⟩,
    ⟨some 4, .mv (.tmp 24), none⟩])
  .skip))
  code_pax_length_k0))))
theorem in_pax_length {W0 : World} {args : List AV} {S : St} {Q : AV → St → Prop} (hle : args.length ≤ 28)
    (h : awp Pr W0 S code_pax_length (bodyQ [.tmp 2] S Q) (env0 args) S) : CallsA Pr W0 Fn.pax_length args S Q :=
  CallsA.of_body (nt := 28) (rs := #[.tmp 2]) (fn := Tryz.f28) [] rfl rfl rfl rfl rfl hle (by kernel_rfl) h

noncomputable def code_octal_Fits : ACode :=
  (.seq (.region [⟨some 4, .mv (.const (.bool false)), none⟩])
  (.seq (.region [⟨some 5, .mv (.tmp 0), none⟩,
    ⟨some 6, .bin .prim .geq (.tmp 5) (.const (.int .i64 0)), none⟩,
    ⟨some 7, .mv (.tmp 6), none⟩,
    ⟨some 8, .mv (.tmp 1), some (7, true)⟩,
    ⟨some 9, .bin .prim .geq (.tmp 8) (.const (.int .i64 2)), some (7, true)⟩,
    ⟨some 10, .pick (.tmp 7) (.tmp 9) (.const (.bool false)), none⟩,
    ⟨some 11, .mv (.tmp 10), none⟩,
    ⟨some 12, .mv (.tmp 0), some (11, true)⟩,
    ⟨some 13, .call Fn.octal_digits [(.tmp 12)], some (11, true)⟩,
    ⟨some 14, .mv (.tmp 1), some (11, true)⟩,
    ⟨some 15, .bin .prim .lss (.tmp 13) (.tmp 14), some (11, true)⟩,
    ⟨some 16, .pick (.tmp 11) (.tmp 15) (.const (.bool false)), none⟩,
    ⟨some 4, .mv (.tmp 16), none⟩])
  .ret))
theorem in_octal_Fits {W0 : World} {args : List AV} {S : St} {Q : AV → St → Prop} (hle : args.length ≤ 17)
    (h : awp Pr W0 S code_octal_Fits (bodyQ [.tmp 4] S Q) (env0 args) S) : CallsA Pr W0 Fn.octal_Fits args S Q :=
  CallsA.of_body (nt := 17) (rs := #[.tmp 4]) (fn := Tryz.f31) [] rfl rfl rfl rfl rfl hle (by kernel_rfl) h

noncomputable def code_sum_Plain : ACode :=
  (.seq (.region [⟨some 2, .mv (.const (.int .i64 0)), none⟩])
  (.seq (.region [⟨some 3, .mv (.tmp 0), none⟩,
    ⟨some 4, .call Fn.sum_each [(.tmp 3), (.func Fn.sum_Plain_1)], none⟩,
    ⟨some 2, .mv (.tmp 4), none⟩])
  .ret))
theorem in_sum_Plain {W0 : World} {args : List AV} {S : St} {Q : AV → St → Prop} (hle : args.length ≤ 5)
    (h : awp Pr W0 S code_sum_Plain (bodyQ [.tmp 2] S Q) (env0 args) S) : CallsA Pr W0 Fn.sum_Plain args S Q :=
  CallsA.of_body (nt := 5) (rs := #[.tmp 2]) (fn := Tryz.f32) [] rfl rfl rfl rfl rfl hle (by kernel_rfl) h

noncomputable def code_head_Blank_k0 : ACode :=
  (.region [⟨some 13, .bin .prim .add (.tmp 7) (.const (.int .i64 1)), none⟩,
    ⟨some 7, .mv (.tmp 13), none⟩])
noncomputable def code_head_Blank_k1 : ACode :=
  (.seq (.block 1 (.seq (.region [⟨some 9, .iaddr 1 (.tmp 5) (.tmp 7), none⟩,
    ⟨some 10, .load 1 false (.tmp 9), none⟩,
    ⟨some 4, .mv (.tmp 10), none⟩])
  (.seq (.region [⟨some 11, .mv (.tmp 4), none⟩,
    ⟨some 12, .bin .prim .neq (.tmp 11) (.const (.int .u8 0)), none⟩])
  (.cond (.tmp 12)
  (.seq (.region [⟨some 2, .mv (.const (.bool false)), none⟩])
  .ret)
  .skip))))
  code_head_Blank_k0)
noncomputable def code_head_Blank_l0 : ACode :=
  (.seq (.region [⟨some 8, .bin .prim .lss (.tmp 7) (.tmp 6), none⟩])
  (.seq (.cond (.tmp 8)
  .skip
  (.exit 0))
  code_head_Blank_k1))
noncomputable def code_head_Blank_k2 : ACode :=
  (.seq (.region [⟨some 14, .mv (.tmp 0), none⟩,
    ⟨some 15, .lenL (.tmp 14), none⟩,
    ⟨some 16, .bin .prim .eql (.tmp 15) (.const (.int .i64 512)), none⟩,
    ⟨some 2, .mv (.tmp 16), none⟩])
  .ret)
noncomputable def code_head_Blank : ACode :=
  (.seq (.region [⟨some 2, .mv (.const (.bool false)), none⟩])
  (.seq (.seq (.region [⟨some 5, .mv (.tmp 0), none⟩,
    ⟨some 6, .lenL (.tmp 5), none⟩,
    ⟨some 7, .mv (.const (.int .i64 0)), none⟩])
  (.block 0 (.loop code_head_Blank_l0)))
  code_head_Blank_k2))
theorem in_head_Blank {W0 : World} {args : List AV} {S : St} {Q : AV → St → Prop} (hle : args.length ≤ 17)
    (h : awp Pr W0 S code_head_Blank (bodyQ [.tmp 2] S Q) (env0 args) S) : CallsA Pr W0 Fn.head_Blank args S Q :=
  CallsA.of_body (nt := 17) (rs := #[.tmp 2]) (fn := Tryz.f33) [] rfl rfl rfl rfl rfl hle (by kernel_rfl) h

noncomputable def code_push_Parser_bad : ACode :=
  (.seq (.region [⟨some 4, .mv (.tmp 0), none⟩,
    ⟨some 5, .mv (.tmp 0), none⟩,
    ⟨some 6, .mv (.tmp 1), none⟩,
    ⟨some 7, .mv (.tmp 0), none⟩,
    ⟨some 8, .nilchk (.tmp 7), none⟩,
    ⟨some 9, .faddr 3 (.tmp 8), none⟩,
    ⟨some 10, .load 1 false (.tmp 9), none⟩,
    ⟨some 11, .call Fn.fault_New [(.tmp 6), (.tmp 10)], none⟩,
    ⟨some 12, .nilchk (.tmp 4), none⟩,
    ⟨some 13, .faddr 0 (.tmp 12), none⟩,
    ⟨none, .store 1 (.tmp 13) (.const (.int .i64 4)), none⟩,
    ⟨some 14, .nilchk (.tmp 5), none⟩,
    ⟨some 15, .faddr 13 (.tmp 14), none⟩,
    ⟨none, .store 1 (.tmp 15) (.tmp 11), none⟩])
  (.region [⟨some 16, .mv (.tmp 0), none⟩,
    ⟨some 17, .mv (.tmp 0), none⟩,
    ⟨some 18, .nilchk (.tmp 17), none⟩,
    ⟨some 19, .faddr 13 (.tmp 18), none⟩,
    ⟨some 20, .load 1 false (.tmp 19), none⟩,
    ⟨some 21, .build [.int .i64 0, .string ⟨#[]⟩, .string ⟨#[]⟩, .int .i64 0, .int .i64 0, .int .i64 0, .int .i64 0, .int .i64 0, .int .i64 0, .string ⟨#[]⟩, .string ⟨#[]⟩, .slice none 0 0, .nilIface, .int .i64 0] [(0, 1, (.const (.int .i64 5))), (12, 1, (.tmp 20))], none⟩,
    ⟨some 22, .call Fn.push_Parser_say [(.tmp 16), (.tmp 21)], none⟩]))
theorem in_push_Parser_bad {W0 : World} {args : List AV} {S : St} {Q : AV → St → Prop} (hle : args.length ≤ 23)
    (h : awp Pr W0 S code_push_Parser_bad (bodyQ [] S Q) (env0 args) S) : CallsA Pr W0 Fn.push_Parser_bad args S Q :=
  CallsA.of_body (nt := 23) (rs := #[]) (fn := Tryz.f34) [] rfl rfl rfl rfl rfl hle (by kernel_rfl) h

noncomputable def code_head_Decode_k0 : ACode :=
  (.region [⟨some 59, .faddr 0 (.tmp 6), none⟩,
    ⟨some 60, .load 1 false (.tmp 59), none⟩,
    ⟨some 61, .mv (.tmp 7), none⟩,
    ⟨some 62, .nilchk (.tmp 60), none⟩,
    ⟨none, .store 1 (.tmp 62) (.tmp 61), none⟩])
noncomputable def code_head_Decode_k1 : ACode :=
  (.region [⟨some 63, .bin .prim .add (.tmp 41) (.const (.int .i64 1)), none⟩,
    ⟨some 41, .mv (.tmp 63), none⟩])
noncomputable def code_head_Decode_k2 : ACode :=
  (.seq (.block 2 (.seq (.region [⟨some 43, .iaddr 3 (.tmp 39) (.tmp 41), none⟩,
    ⟨some 44, .load 3 true (.tmp 43), none⟩,
    ⟨some 6, .alloc [.pointer none, .int .i64 0, .int .i64 0], none⟩,
    ⟨none, .store 3 (.tmp 6) (.tmp 44), none⟩])
  (.seq (.region [⟨some 46, .mv (.tmp 0), none⟩,
    ⟨some 47, .faddr 1 (.tmp 6), none⟩,
    ⟨some 48, .load 1 false (.tmp 47), none⟩,
    ⟨some 49, .faddr 2 (.tmp 6), none⟩,
    ⟨some 50, .load 1 false (.tmp 49), none⟩,
    ⟨some 51, .slice 1 (.tmp 46) (some (.tmp 48)) (some (.tmp 50)), none⟩,
    ⟨some 52, .call Fn.octal_Parse [(.tmp 51)], none⟩,
    ⟨some 45, .mv (.tmp 52), none⟩,
    ⟨some 53, .extract 0 (.tmp 45), none⟩,
    ⟨some 54, .extract 1 (.tmp 45), none⟩,
    ⟨some 7, .mv (.tmp 53), none⟩,
    ⟨some 8, .mv (.tmp 54), none⟩])
  (.seq (.seq (.region [⟨some 55, .mv (.tmp 8), none⟩,
    ⟨some 56, .bin .prim .neq (.tmp 55) (.const (.int .i64 0)), none⟩])
  (.cond (.tmp 56)
  (.seq (.region [⟨some 57, .build [.int .i64 0, .string ⟨#[]⟩, .string ⟨#[]⟩, .string ⟨#[]⟩, .string ⟨#[]⟩, .string ⟨#[]⟩, .int .u8 0, .int .i64 0, .int .i64 0, .int .i64 0, .int .i64 0, .int .i64 0] [], none⟩,
    ⟨some 58, .mv (.tmp 8), none⟩,
    ⟨none, .store 12 (.tmp 2) (.tmp 57), none⟩,
    ⟨some 3, .mv (.tmp 58), none⟩])
  .ret)
  .skip))
  code_head_Decode_k0))))
  code_head_Decode_k1)
noncomputable def code_head_Decode_l0 : ACode :=
  (.seq (.region [⟨some 42, .bin .prim .lss (.tmp 41) (.tmp 40), none⟩])
  (.seq (.cond (.tmp 42)
  .skip
  (.exit 1))
  code_head_Decode_k2))
noncomputable def code_head_Decode_k3 : ACode :=
  (.seq (.draw [⟨some 78, .mv (.tmp 0), none⟩,
    ⟨some 79, .slice 1 (.tmp 78) (some (.const (.int .i64 265))) (some (.const (.int .i64 297))), none⟩,
    ⟨some 80, .call Fn.head_text [(.tmp 79)], none⟩,
    ⟨some 81, .mv (.tmp 0), none⟩,
    ⟨some 82, .slice 1 (.tmp 81) (some (.const (.int .i64 297))) (some (.const (.int .i64 329))), none⟩,
    ⟨some 83, .call Fn.head_text [(.tmp 82)], none⟩,
    ⟨some 84, .faddr 4 (.tmp 4), none⟩,
    ⟨none, .store 1 (.tmp 84) (.tmp 80), none⟩,
    ⟨some 85, .faddr 5 (.tmp 4), none⟩,
    ⟨none, .store 1 (.tmp 85) (.tmp 83), none⟩]
    [[], [0], [1, 0], [], [3], [4, 2, 3, 1, 0], [0, 1, 2, 5, 4, 3], [6, 2, 5, 0, 1, 4, 3], [0, 1, 2, 3, 4, 5, 6, 7], [8, 5, 7, 0, 1, 2, 3, 4, 6]]
    (.eff [0, 1, 3, 4] [(2, .eff [] [(5, .eff [6] [(7, .eff [8] [(9, .done [])])])])]))
  (.seq (.region [⟨some 86, .load 12 true (.tmp 4), none⟩,
    ⟨none, .store 12 (.tmp 2) (.tmp 86), none⟩,
    ⟨some 3, .mv (.const (.int .i64 0)), none⟩])
  .ret))
noncomputable def code_head_Decode_k4 : ACode :=
  (.seq (.seq (.region [⟨some 64, .mv (.tmp 0), none⟩,
    ⟨some 65, .slice 1 (.tmp 64) (some (.const (.int .i64 257))) (some (.const (.int .i64 265))), none⟩,
    ⟨some 66, .convBS (.tmp 65), none⟩])
  (.block 3 (.seq (.region [⟨some 69, .bin .prim .eql (.tmp 66) (.const (.string ⟨#[117, 115, 116, 97, 114, 0, 48, 48]⟩)), none⟩,
    ⟨some 68, .mv (.tmp 69), none⟩])
  (.cond (.tmp 68)
  (.seq (.region [⟨some 70, .faddr 0 (.tmp 4), none⟩,
    ⟨none, .store 1 (.tmp 70) (.const (.int .i64 1)), none⟩])
  (.region [⟨some 71, .mv (.tmp 0), none⟩,
    ⟨some 72, .slice 1 (.tmp 71) (some (.const (.int .i64 345))) (some (.const (.int .i64 500))), none⟩,
    ⟨some 73, .call Fn.head_text [(.tmp 72)], none⟩,
    ⟨some 74, .faddr 3 (.tmp 4), none⟩,
    ⟨none, .store 1 (.tmp 74) (.tmp 73), none⟩]))
  (.seq (.region [⟨some 76, .bin .prim .eql (.tmp 66) (.const (.string ⟨#[117, 115, 116, 97, 114, 32, 32, 0]⟩)), none⟩,
    ⟨some 75, .mv (.tmp 76), none⟩])
  (.cond (.tmp 75)
  (.region [⟨some 77, .faddr 0 (.tmp 4), none⟩,
    ⟨none, .store 1 (.tmp 77) (.const (.int .i64 2)), none⟩])
  (.seq (.region [⟨some 67, .load 12 true (.tmp 4), none⟩,
    ⟨none, .store 12 (.tmp 2) (.tmp 67), none⟩,
    ⟨some 3, .mv (.const (.int .i64 0)), none⟩])
  .ret)))))))
  code_head_Decode_k3)
noncomputable def code_head_Decode_d0 : ACode :=
  (.seq (.draw [⟨some 19, .mv (.tmp 0), none⟩,
    ⟨some 20, .slice 1 (.tmp 19) (some (.const (.int .i64 0))) (some (.const (.int .i64 100))), none⟩,
    ⟨some 21, .call Fn.head_text [(.tmp 20)], none⟩,
    ⟨some 22, .mv (.tmp 0), none⟩,
    ⟨some 23, .slice 1 (.tmp 22) (some (.const (.int .i64 157))) (some (.const (.int .i64 257))), none⟩,
    ⟨some 24, .call Fn.head_text [(.tmp 23)], none⟩,
    ⟨some 25, .mv (.tmp 0), none⟩,
    ⟨some 26, .iaddr 1 (.tmp 25) (.const (.int .i64 156)), none⟩,
    ⟨some 27, .load 1 false (.tmp 26), none⟩,
    ⟨some 28, .build [.int .i64 0, .string ⟨#[]⟩, .string ⟨#[]⟩, .string ⟨#[]⟩, .string ⟨#[]⟩, .string ⟨#[]⟩, .int .u8 0, .int .i64 0, .int .i64 0, .int .i64 0, .int .i64 0, .int .i64 0] [(1, 1, (.tmp 21)), (2, 1, (.tmp 24)), (6, 1, (.tmp 27))], none⟩,
    ⟨some 4, .alloc [.int .i64 0, .string ⟨#[]⟩, .string ⟨#[]⟩, .string ⟨#[]⟩, .string ⟨#[]⟩, .string ⟨#[]⟩, .int .u8 0, .int .i64 0, .int .i64 0, .int .i64 0, .int .i64 0, .int .i64 0], none⟩,
    ⟨none, .store 12 (.tmp 4) (.tmp 28), none⟩]
    [[], [0], [1, 0], [], [3], [4, 2, 3, 1, 0], [], [6], [7, 6], [2, 5, 8, 1, 0, 4, 3, 7, 6], [], [10, 9, 5, 0, 1, 2, 3, 4, 6, 7, 8]]
    (.eff [0, 1, 3, 4, 6, 7, 8] [(2, .eff [] [(5, .eff [9] [(10, .eff [] [(11, .done [])])]), (10, .eff [] [(5, .eff [9] [(11, .done [])])])]), (10, .eff [] [(2, .eff [] [(5, .eff [9] [(11, .done [])])])])]))
  (.seq (.seq (.region [⟨some 29, .faddr 7 (.tmp 4), none⟩,
    ⟨some 30, .build [.pointer none, .int .i64 0, .int .i64 0] [(0, 1, (.tmp 29)), (1, 1, (.const (.int .i64 100))), (2, 1, (.const (.int .i64 108)))], none⟩,
    ⟨some 31, .faddr 8 (.tmp 4), none⟩,
    ⟨some 32, .build [.pointer none, .int .i64 0, .int .i64 0] [(0, 1, (.tmp 31)), (1, 1, (.const (.int .i64 108))), (2, 1, (.const (.int .i64 116)))], none⟩,
    ⟨some 33, .faddr 9 (.tmp 4), none⟩,
    ⟨some 34, .build [.pointer none, .int .i64 0, .int .i64 0] [(0, 1, (.tmp 33)), (1, 1, (.const (.int .i64 116))), (2, 1, (.const (.int .i64 124)))], none⟩,
    ⟨some 35, .faddr 10 (.tmp 4), none⟩,
    ⟨some 36, .build [.pointer none, .int .i64 0, .int .i64 0] [(0, 1, (.tmp 35)), (1, 1, (.const (.int .i64 124))), (2, 1, (.const (.int .i64 136)))], none⟩,
    ⟨some 37, .faddr 11 (.tmp 4), none⟩,
    ⟨some 38, .build [.pointer none, .int .i64 0, .int .i64 0] [(0, 1, (.tmp 37)), (1, 1, (.const (.int .i64 136))), (2, 1, (.const (.int .i64 148)))], none⟩,
    ⟨some 39, .bslice 5 [.pointer none, .int .i64 0, .int .i64 0, .pointer none, .int .i64 0, .int .i64 0, .pointer none, .int .i64 0, .int .i64 0, .pointer none, .int .i64 0, .int .i64 0, .pointer none, .int .i64 0, .int .i64 0] [(0, 3, (.tmp 30)), (3, 3, (.tmp 32)), (6, 3, (.tmp 34)), (9, 3, (.tmp 36)), (12, 3, (.tmp 38))], none⟩,
    ⟨some 40, .lenL (.tmp 39), none⟩,
    ⟨some 41, .mv (.const (.int .i64 0)), none⟩])
  (.block 1 (.loop code_head_Decode_l0)))
  code_head_Decode_k4))
noncomputable def code_head_Decode_k5 : ACode :=
  code_head_Decode_d0
noncomputable def code_head_Decode : ACode :=
  (.seq (.region [⟨some 2, .alloc [.int .i64 0, .string ⟨#[]⟩, .string ⟨#[]⟩, .string ⟨#[]⟩, .string ⟨#[]⟩, .string ⟨#[]⟩, .int .u8 0, .int .i64 0, .int .i64 0, .int .i64 0, .int .i64 0, .int .i64 0], none⟩,
    ⟨some 3, .mv (.const (.int .i64 0)), none⟩])
  (.seq (.block 0 (.seq (.region [⟨some 10, .mv (.tmp 0), none⟩,
    ⟨some 11, .lenL (.tmp 10), none⟩,
    ⟨some 12, .bin .prim .neq (.tmp 11) (.const (.int .i64 512)), none⟩,
    ⟨some 9, .mv (.tmp 12), none⟩])
  (.cond (.tmp 9)
  (.seq (.region [⟨some 13, .build [.int .i64 0, .string ⟨#[]⟩, .string ⟨#[]⟩, .string ⟨#[]⟩, .string ⟨#[]⟩, .string ⟨#[]⟩, .int .u8 0, .int .i64 0, .int .i64 0, .int .i64 0, .int .i64 0, .int .i64 0] [], none⟩,
    ⟨none, .store 12 (.tmp 2) (.tmp 13), none⟩,
    ⟨some 3, .mv (.const (.int .i64 1)), none⟩])
  .ret)
  (.seq (.region [⟨some 15, .mv (.tmp 0), none⟩,
    ⟨some 16, .call Fn.sum_Right [(.tmp 15)], none⟩,
    ⟨some 17, .un .not (.tmp 16), none⟩,
    ⟨some 14, .mv (.tmp 17), none⟩])
  (.cond (.tmp 14)
  (.seq (.region [⟨some 18, .build [.int .i64 0, .string ⟨#[]⟩, .string ⟨#[]⟩, .string ⟨#[]⟩, .string ⟨#[]⟩, .string ⟨#[]⟩, .int .u8 0, .int .i64 0, .int .i64 0, .int .i64 0, .int .i64 0, .int .i64 0] [], none⟩,
    ⟨none, .store 12 (.tmp 2) (.tmp 18), none⟩,
    ⟨some 3, .mv (.const (.int .i64 50)), none⟩])
  .ret)
  .skip)))))
  code_head_Decode_k5))
theorem in_head_Decode {W0 : World} {args : List AV} {S : St} {Q : AV → St → Prop} (hle : args.length ≤ 87)
    (h : awp Pr W0 S code_head_Decode (bodyQ [.cell 2 12 true, .tmp 3] S Q) (env0 args) S) : CallsA Pr W0 Fn.head_Decode args S Q :=
  CallsA.of_body (nt := 87) (rs := #[.cell 2 28, .tmp 3]) (fn := Tryz.f35) [(5, .eff [0, 1, 3, 4, 6, 7, 8] [(2, .eff [] [(5, .eff [9] [(10, .eff [] [(11, .done [])])]), (10, .eff [] [(5, .eff [9] [(11, .done [])])])]), (10, .eff [] [(2, .eff [] [(5, .eff [9] [(11, .done [])])])])]), (21, .eff [0, 1, 3, 4] [(2, .eff [] [(5, .eff [6] [(7, .eff [8] [(9, .done [])])])])])] rfl rfl rfl rfl rfl hle (by kernel_rfl) h

noncomputable def code_kind_Class_k0 : ACode :=
  (.seq (.region [⟨some 2, .mv (.const (.int .i64 0)), none⟩])
  .ret)
noncomputable def code_kind_Class_k1 : ACode :=
  (.seq (.seq (.region [⟨some 12, .mv (.tmp 0), none⟩,
    ⟨some 13, .call Fn.kind_Kind [(.tmp 12)], none⟩,
    ⟨some 14, .bin .prim .neq (.tmp 13) (.const (.int .i64 0)), none⟩])
  (.cond (.tmp 14)
  (.seq (.region [⟨some 2, .mv (.const (.int .i64 1)), none⟩])
  .ret)
  .skip))
  code_kind_Class_k0)
noncomputable def code_kind_Class : ACode :=
  (.seq (.region [⟨some 2, .mv (.const (.int .i64 0)), none⟩])
  (.seq (.seq (.region [⟨some 3, .mv (.tmp 0), none⟩])
  (.block 0 (.seq (.region [⟨some 5, .bin .prim .eql (.tmp 3) (.const (.int .u8 120)), none⟩,
    ⟨some 4, .mv (.tmp 5), none⟩])
  (.cond (.tmp 4)
  (.seq (.region [⟨some 2, .mv (.const (.int .i64 2)), none⟩])
  .ret)
  (.seq (.region [⟨some 7, .bin .prim .eql (.tmp 3) (.const (.int .u8 103)), none⟩,
    ⟨some 6, .mv (.tmp 7), none⟩])
  (.cond (.tmp 6)
  (.seq (.region [⟨some 2, .mv (.const (.int .i64 3)), none⟩])
  .ret)
  (.seq (.region [⟨some 9, .bin .prim .eql (.tmp 3) (.const (.int .u8 76)), none⟩,
    ⟨some 8, .mv (.tmp 9), none⟩])
  (.cond (.tmp 8)
  (.seq (.region [⟨some 2, .mv (.const (.int .i64 4)), none⟩])
  .ret)
  (.seq (.region [⟨some 11, .bin .prim .eql (.tmp 3) (.const (.int .u8 75)), none⟩,
    ⟨some 10, .mv (.tmp 11), none⟩])
  (.cond (.tmp 10)
  (.seq (.region [⟨some 2, .mv (.const (.int .i64 5)), none⟩])
  .ret)
  .skip))))))))))
  code_kind_Class_k1))
theorem in_kind_Class {W0 : World} {args : List AV} {S : St} {Q : AV → St → Prop} (hle : args.length ≤ 15)
    (h : awp Pr W0 S code_kind_Class (bodyQ [.tmp 2] S Q) (env0 args) S) : CallsA Pr W0 Fn.kind_Class args S Q :=
  CallsA.of_body (nt := 15) (rs := #[.tmp 2]) (fn := Tryz.f36) [] rfl rfl rfl rfl rfl hle (by kernel_rfl) h

noncomputable def code_push_Parser_thing_k0 : ACode :=
  (.seq (.region [⟨some 20, .mv (.tmp 0), none⟩,
    ⟨some 21, .mv (.tmp 0), none⟩,
    ⟨some 22, .nilchk (.tmp 21), none⟩,
    ⟨some 23, .faddr 7 (.tmp 22), none⟩,
    ⟨some 24, .faddr 0 (.tmp 23), none⟩,
    ⟨some 25, .load 1 false (.tmp 24), none⟩,
    ⟨some 26, .build [.slice none 0 0, .slice none 0 0, .string ⟨#[]⟩, .string ⟨#[]⟩] [(0, 1, (.tmp 25))], none⟩,
    ⟨some 27, .nilchk (.tmp 20), none⟩,
    ⟨some 28, .faddr 7 (.tmp 27), none⟩,
    ⟨none, .store 4 (.tmp 28) (.tmp 26), none⟩])
  (.seq (.region [⟨some 29, .mv (.tmp 0), none⟩,
    ⟨some 30, .load 10 true (.tmp 4), none⟩,
    ⟨some 31, .build [.int .i64 0, .string ⟨#[]⟩, .string ⟨#[]⟩, .int .i64 0, .int .i64 0, .int .i64 0, .int .i64 0, .int .i64 0, .int .i64 0, .string ⟨#[]⟩, .string ⟨#[]⟩, .slice none 0 0, .nilIface, .int .i64 0] [(0, 1, (.const (.int .i64 1))), (1, 10, (.tmp 30))], none⟩,
    ⟨some 32, .call Fn.push_Parser_say [(.tmp 29), (.tmp 31)], none⟩])
  (.seq (.draw [⟨some 33, .mv (.tmp 0), none⟩,
    ⟨some 34, .mv (.tmp 0), none⟩,
    ⟨some 35, .mv (.tmp 0), none⟩,
    ⟨some 36, .faddr 7 (.tmp 4), none⟩,
    ⟨some 37, .load 1 false (.tmp 36), none⟩,
    ⟨some 38, .faddr 7 (.tmp 4), none⟩,
    ⟨some 39, .load 1 false (.tmp 38), none⟩,
    ⟨some 40, .call Fn.entry_Pad [(.tmp 39)], none⟩,
    ⟨some 41, .nilchk (.tmp 33), none⟩,
    ⟨some 42, .faddr 0 (.tmp 41), none⟩,
    ⟨none, .store 1 (.tmp 42) (.const (.int .i64 2)), none⟩,
    ⟨some 43, .nilchk (.tmp 34), none⟩,
    ⟨some 44, .faddr 11 (.tmp 43), none⟩,
    ⟨none, .store 1 (.tmp 44) (.tmp 37), none⟩,
    ⟨some 45, .nilchk (.tmp 35), none⟩,
    ⟨some 46, .faddr 12 (.tmp 45), none⟩,
    ⟨none, .store 1 (.tmp 46) (.tmp 40), none⟩]
    [[], [], [], [], [3], [], [5], [6, 5], [0, 7, 6, 5], [8, 0, 7, 6, 5], [9, 7, 0, 8, 6, 5], [1, 0, 3, 4, 7, 8, 9, 10, 6, 5], [11, 0, 1, 3, 4, 7, 8, 9, 10, 6, 5], [12, 4, 10, 0, 1, 3, 7, 8, 9, 11, 6, 5], [2, 0, 1, 3, 4, 5, 6, 7, 8, 9, 10, 11, 12, 13], [14, 0, 1, 2, 3, 4, 5, 6, 7, 8, 9, 10, 11, 12, 13], [15, 7, 13, 0, 1, 2, 3, 4, 5, 6, 8, 9, 10, 11, 12, 14]]
    (.eff [0, 1, 2, 3, 4, 5, 6] [(7, .eff [8, 9] [(10, .eff [11, 12] [(13, .eff [14, 15] [(16, .done [])])])])]))
  (.seq (.region [⟨some 47, .faddr 7 (.tmp 4), none⟩,
    ⟨some 48, .load 1 false (.tmp 47), none⟩,
    ⟨some 49, .bin .prim .eql (.tmp 48) (.const (.int .i64 0)), none⟩])
  (.cond (.tmp 49)
  (.region [⟨some 50, .mv (.tmp 0), none⟩,
    ⟨some 51, .call Fn.push_Parser_finish [(.tmp 50)], none⟩])
  .skip)))))
noncomputable def code_push_Parser_thing_d0 : ACode :=
  (.seq (.draw [⟨some 7, .load 12 true (.tmp 3), none⟩,
    ⟨some 8, .mv (.tmp 0), none⟩,
    ⟨some 9, .nilchk (.tmp 8), none⟩,
    ⟨some 10, .faddr 7 (.tmp 9), none⟩,
    ⟨some 11, .load 4 true (.tmp 10), none⟩,
    ⟨some 12, .call Fn.entry_Make [(.tmp 7), (.tmp 11)], none⟩,
    ⟨some 6, .mv (.tmp 12), none⟩,
    ⟨some 13, .extract 0 (.tmp 6), none⟩,
    ⟨some 14, .extract 1 (.tmp 6), none⟩,
    ⟨some 4, .alloc [.string ⟨#[]⟩, .string ⟨#[]⟩, .int .i64 0, .int .i64 0, .int .i64 0, .int .i64 0, .int .i64 0, .int .i64 0, .string ⟨#[]⟩, .string ⟨#[]⟩], none⟩,
    ⟨none, .store 10 (.tmp 4) (.tmp 13), none⟩,
    ⟨some 5, .mv (.tmp 14), none⟩]
    [[], [], [1], [2, 1], [3, 2, 1], [0, 4, 3, 2, 1], [5, 0, 4, 3, 2, 1], [6, 5, 0, 4, 3, 2, 1], [6, 5, 0, 4, 3, 2, 1], [], [9, 7, 5, 0, 1, 2, 3, 4, 6], [8, 10, 0, 1, 2, 3, 4, 5, 6, 7, 9]]
    (.eff [0, 1, 2, 3, 4] [(5, .eff [6, 7, 8] [(9, .eff [] [(10, .done [11])])]), (9, .eff [] [(5, .eff [6, 7, 8] [(10, .done [11])])])]))
  (.seq (.seq (.region [⟨some 15, .mv (.tmp 5), none⟩,
    ⟨some 16, .bin .prim .neq (.tmp 15) (.const (.int .i64 0)), none⟩])
  (.cond (.tmp 16)
  (.seq (.region [⟨some 17, .mv (.tmp 0), none⟩,
    ⟨some 18, .mv (.tmp 5), none⟩,
    ⟨some 19, .call Fn.push_Parser_bad [(.tmp 17), (.tmp 18)], none⟩])
  .ret)
  .skip))
  code_push_Parser_thing_k0))
noncomputable def code_push_Parser_thing : ACode :=
  (.seq (.region [⟨some 3, .box (.tmp 1), none⟩])
  code_push_Parser_thing_d0)
theorem in_push_Parser_thing {W0 : World} {args : List AV} {S : St} {Q : AV → St → Prop} (hle : args.length ≤ 52)
    (h : awp Pr W0 S code_push_Parser_thing (bodyQ [] S Q) (env0 args) S) : CallsA Pr W0 Fn.push_Parser_thing args S Q :=
  CallsA.of_body (nt := 52) (rs := #[]) (fn := Tryz.f37) [(1, .eff [0, 1, 2, 3, 4] [(5, .eff [6, 7, 8] [(9, .eff [] [(10, .done [11])])]), (9, .eff [] [(5, .eff [6, 7, 8] [(10, .done [11])])])]), (6, .eff [0, 1, 2, 3, 4, 5, 6] [(7, .eff [8, 9] [(10, .eff [11, 12] [(13, .eff [14, 15] [(16, .done [])])])])])] rfl rfl rfl rfl rfl hle (by kernel_rfl) h

noncomputable def code_entry_Pad : ACode :=
  (.seq (.region [⟨some 2, .mv (.const (.int .i64 0)), none⟩])
  (.seq (.region [⟨some 3, .mv (.tmp 0), none⟩,
    ⟨some 4, .bin .prim .rem (.tmp 3) (.const (.int .i64 512)), none⟩,
    ⟨some 5, .bin .prim .sub (.const (.int .i64 512)) (.tmp 4), none⟩,
    ⟨some 6, .bin .prim .rem (.tmp 5) (.const (.int .i64 512)), none⟩,
    ⟨some 2, .mv (.tmp 6), none⟩])
  .ret))
theorem in_entry_Pad {W0 : World} {args : List AV} {S : St} {Q : AV → St → Prop} (hle : args.length ≤ 7)
    (h : awp Pr W0 S code_entry_Pad (bodyQ [.tmp 2] S Q) (env0 args) S) : CallsA Pr W0 Fn.entry_Pad args S Q :=
  CallsA.of_body (nt := 7) (rs := #[.tmp 2]) (fn := Tryz.f38) [] rfl rfl rfl rfl rfl hle (by kernel_rfl) h

noncomputable def code_pax_Decode_k0 : ACode :=
  (.seq (.region [⟨some 25, .mv (.tmp 4), none⟩,
    ⟨some 26, .load 2 true (.tmp 6), none⟩,
    ⟨some 27, .bslice 1 [.string ⟨#[]⟩, .string ⟨#[]⟩] [(0, 2, (.tmp 26))], none⟩,
    ⟨some 28, .append 2 32 (.tmp 25) (.tmp 27), none⟩,
    ⟨some 4, .mv (.tmp 28), none⟩])
  (.region [⟨some 29, .mv (.tmp 7), none⟩,
    ⟨some 5, .mv (.tmp 29), none⟩]))
noncomputable def code_pax_Decode_k1 : ACode :=
  (.seq (.region [⟨some 17, .mv (.tmp 5), none⟩,
    ⟨some 18, .call Fn.pax_one [(.tmp 17)], none⟩,
    ⟨some 16, .mv (.tmp 18), none⟩,
    ⟨some 19, .extract 0 (.tmp 16), none⟩,
    ⟨some 20, .extract 1 (.tmp 16), none⟩,
    ⟨some 21, .extract 2 (.tmp 16), none⟩,
    ⟨some 6, .alloc [.string ⟨#[]⟩, .string ⟨#[]⟩], none⟩,
    ⟨none, .store 2 (.tmp 6) (.tmp 19), none⟩,
    ⟨some 7, .mv (.tmp 20), none⟩,
    ⟨some 8, .mv (.tmp 21), none⟩])
  (.seq (.seq (.region [⟨some 22, .mv (.tmp 8), none⟩,
    ⟨some 23, .bin .prim .neq (.tmp 22) (.const (.int .i64 0)), none⟩])
  (.cond (.tmp 23)
  (.seq (.region [⟨some 24, .mv (.tmp 8), none⟩,
    ⟨some 2, .mv (.const (.slice none 0 0)), none⟩,
    ⟨some 3, .mv (.tmp 24), none⟩])
  .ret)
  .skip))
  code_pax_Decode_k0))
noncomputable def code_pax_Decode_k2 : ACode :=
  (.block 1 (.seq (.seq (.region [⟨some 13, .mv (.tmp 4), none⟩,
    ⟨some 14, .lenL (.tmp 13), none⟩,
    ⟨some 15, .bin .prim .eql (.tmp 14) (.const (.int .i64 64)), none⟩])
  (.cond (.tmp 15)
  (.seq (.region [⟨some 2, .mv (.const (.slice none 0 0)), none⟩,
    ⟨some 3, .mv (.const (.int .i64 2)), none⟩])
  .ret)
  .skip))
  code_pax_Decode_k1))
noncomputable def code_pax_Decode_l0 : ACode :=
  (.seq (.seq (.region [⟨some 11, .mv (.tmp 5), none⟩,
    ⟨some 12, .bin .prim .neq (.tmp 11) (.const (.string ⟨#[]⟩)), none⟩])
  (.cond (.tmp 12)
  .skip
  (.exit 0)))
  code_pax_Decode_k2)
noncomputable def code_pax_Decode_k3 : ACode :=
  (.seq (.region [⟨some 30, .mv (.tmp 4), none⟩,
    ⟨some 2, .mv (.tmp 30), none⟩,
    ⟨some 3, .mv (.const (.int .i64 0)), none⟩])
  .ret)
noncomputable def code_pax_Decode : ACode :=
  (.seq (.region [⟨some 2, .mv (.const (.slice none 0 0)), none⟩,
    ⟨some 3, .mv (.const (.int .i64 0)), none⟩])
  (.seq (.region [⟨some 4, .mv (.const (.slice none 0 0)), none⟩])
  (.seq (.region [⟨some 9, .mv (.tmp 0), none⟩,
    ⟨some 10, .convBS (.tmp 9), none⟩,
    ⟨some 5, .mv (.tmp 10), none⟩])
  (.seq (.block 0 (.loop code_pax_Decode_l0))
  code_pax_Decode_k3))))
theorem in_pax_Decode {W0 : World} {args : List AV} {S : St} {Q : AV → St → Prop} (hle : args.length ≤ 31)
    (h : awp Pr W0 S code_pax_Decode (bodyQ [.tmp 2, .tmp 3] S Q) (env0 args) S) : CallsA Pr W0 Fn.pax_Decode args S Q :=
  CallsA.of_body (nt := 31) (rs := #[.tmp 2, .tmp 3]) (fn := Tryz.f40) [] rfl rfl rfl rfl rfl hle (by kernel_rfl) h

noncomputable def code_push_Parser_skip : ACode :=
  (.seq (.region [⟨some 2, .mv (.tmp 0), none⟩,
    ⟨some 3, .nilchk (.tmp 2), none⟩,
    ⟨some 4, .faddr 0 (.tmp 3), none⟩,
    ⟨none, .store 1 (.tmp 4) (.const (.int .i64 3)), none⟩])
  (.seq (.region [⟨some 5, .mv (.tmp 0), none⟩,
    ⟨some 6, .nilchk (.tmp 5), none⟩,
    ⟨some 7, .faddr 12 (.tmp 6), none⟩,
    ⟨some 8, .load 1 false (.tmp 7), none⟩,
    ⟨some 9, .bin .prim .eql (.tmp 8) (.const (.int .i64 0)), none⟩])
  (.cond (.tmp 9)
  (.region [⟨some 10, .mv (.tmp 0), none⟩,
    ⟨some 11, .nilchk (.tmp 10), none⟩,
    ⟨some 12, .faddr 0 (.tmp 11), none⟩,
    ⟨none, .store 1 (.tmp 12) (.const (.int .i64 0)), none⟩])
  .skip)))
theorem in_push_Parser_skip {W0 : World} {args : List AV} {S : St} {Q : AV → St → Prop} (hle : args.length ≤ 13)
    (h : awp Pr W0 S code_push_Parser_skip (bodyQ [] S Q) (env0 args) S) : CallsA Pr W0 Fn.push_Parser_skip args S Q :=
  CallsA.of_body (nt := 13) (rs := #[]) (fn := Tryz.f41) [] rfl rfl rfl rfl rfl hle (by kernel_rfl) h

noncomputable def code_strings_ContainsAny : ACode :=
  (.seq (.region [⟨some 4, .mv (.const (.bool false)), none⟩])
  (.seq (.region [⟨some 5, .mv (.tmp 0), none⟩,
    ⟨some 6, .mv (.tmp 1), none⟩,
    ⟨some 7, .call Fn.strings_IndexAny [(.tmp 5), (.tmp 6)], none⟩,
    ⟨some 8, .bin .prim .geq (.tmp 7) (.const (.int .i64 0)), none⟩,
    ⟨some 4, .mv (.tmp 8), none⟩])
  .ret))
theorem in_strings_ContainsAny {W0 : World} {args : List AV} {S : St} {Q : AV → St → Prop} (hle : args.length ≤ 9)
    (h : awp Pr W0 S code_strings_ContainsAny (bodyQ [.tmp 4] S Q) (env0 args) S) : CallsA Pr W0 Fn.strings_ContainsAny args S Q :=
  CallsA.of_body (nt := 9) (rs := #[.tmp 4]) (fn := Tryz.f46) [] rfl rfl rfl rfl rfl hle (by kernel_rfl) h

noncomputable def code_octal_digits_k0 : ACode :=
  (.block 1 (.seq (.region [⟨some 6, .mv (.tmp 0), none⟩,
    ⟨some 7, .bin .prim .quo (.tmp 6) (.const (.int .i64 8)), none⟩,
    ⟨some 0, .mv (.tmp 7), none⟩])
  (.region [⟨some 8, .mv (.tmp 3), none⟩,
    ⟨some 9, .bin .prim .add (.tmp 8) (.const (.int .i64 1)), none⟩,
    ⟨some 3, .mv (.tmp 9), none⟩])))
noncomputable def code_octal_digits_l0 : ACode :=
  (.seq (.seq (.region [⟨some 4, .mv (.tmp 0), none⟩,
    ⟨some 5, .bin .prim .geq (.tmp 4) (.const (.int .i64 8)), none⟩])
  (.cond (.tmp 5)
  .skip
  (.exit 0)))
  code_octal_digits_k0)
noncomputable def code_octal_digits_k1 : ACode :=
  (.seq (.region [⟨some 10, .mv (.tmp 3), none⟩,
    ⟨some 2, .mv (.tmp 10), none⟩])
  .ret)
noncomputable def code_octal_digits : ACode :=
  (.seq (.region [⟨some 2, .mv (.const (.int .i64 0)), none⟩])
  (.seq (.region [⟨some 3, .mv (.const (.int .i64 1)), none⟩])
  (.seq (.block 0 (.loop code_octal_digits_l0))
  code_octal_digits_k1)))
theorem in_octal_digits {W0 : World} {args : List AV} {S : St} {Q : AV → St → Prop} (hle : args.length ≤ 11)
    (h : awp Pr W0 S code_octal_digits (bodyQ [.tmp 2] S Q) (env0 args) S) : CallsA Pr W0 Fn.octal_digits args S Q :=
  CallsA.of_body (nt := 11) (rs := #[.tmp 2]) (fn := Tryz.f50) [] rfl rfl rfl rfl rfl hle (by kernel_rfl) h

noncomputable def code_sum_each_k0 : ACode :=
  (.region [⟨some 21, .mv (.tmp 5), none⟩,
    ⟨some 22, .mv (.tmp 1), none⟩,
    ⟨some 23, .mv (.tmp 7), none⟩,
    ⟨some 24, .callv (.tmp 22) [(.tmp 23)], none⟩,
    ⟨some 25, .bin .prim .add (.tmp 21) (.tmp 24), none⟩,
    ⟨some 5, .mv (.tmp 25), none⟩])
noncomputable def code_sum_each_k1 : ACode :=
  (.region [⟨some 26, .bin .prim .add (.tmp 10) (.const (.int .i64 1)), none⟩,
    ⟨some 10, .mv (.tmp 26), none⟩])
noncomputable def code_sum_each_k2 : ACode :=
  (.seq (.block 1 (.seq (.region [⟨some 12, .mv (.tmp 10), none⟩,
    ⟨some 13, .iaddr 1 (.tmp 8) (.tmp 10), none⟩,
    ⟨some 14, .load 1 false (.tmp 13), none⟩,
    ⟨some 6, .mv (.tmp 12), none⟩,
    ⟨some 7, .mv (.tmp 14), none⟩])
  (.seq (.seq (.region [⟨some 15, .mv (.tmp 6), none⟩,
    ⟨some 16, .bin .prim .geq (.tmp 15) (.const (.int .i64 148)), none⟩,
    ⟨some 17, .mv (.tmp 16), none⟩,
    ⟨some 18, .mv (.tmp 6), some (17, true)⟩,
    ⟨some 19, .bin .prim .lss (.tmp 18) (.const (.int .i64 156)), some (17, true)⟩,
    ⟨some 20, .pick (.tmp 17) (.tmp 19) (.const (.bool false)), none⟩])
  (.cond (.tmp 20)
  (.region [⟨some 7, .mv (.const (.int .u8 32)), none⟩])
  .skip))
  code_sum_each_k0)))
  code_sum_each_k1)
noncomputable def code_sum_each_l0 : ACode :=
  (.seq (.region [⟨some 11, .bin .prim .lss (.tmp 10) (.tmp 9), none⟩])
  (.seq (.cond (.tmp 11)
  .skip
  (.exit 0))
  code_sum_each_k2))
noncomputable def code_sum_each_k3 : ACode :=
  (.seq (.region [⟨some 27, .mv (.tmp 5), none⟩,
    ⟨some 4, .mv (.tmp 27), none⟩])
  .ret)
noncomputable def code_sum_each : ACode :=
  (.seq (.region [⟨some 4, .mv (.const (.int .i64 0)), none⟩])
  (.seq (.region [⟨some 5, .mv (.const (.int .i64 0)), none⟩])
  (.seq (.seq (.region [⟨some 8, .mv (.tmp 0), none⟩,
    ⟨some 9, .lenL (.tmp 8), none⟩,
    ⟨some 10, .mv (.const (.int .i64 0)), none⟩])
  (.block 0 (.loop code_sum_each_l0)))
  code_sum_each_k3)))
theorem in_sum_each {W0 : World} {args : List AV} {S : St} {Q : AV → St → Prop} (hle : args.length ≤ 28)
    (h : awp Pr W0 S code_sum_each (bodyQ [.tmp 4] S Q) (env0 args) S) : CallsA Pr W0 Fn.sum_each args S Q :=
  CallsA.of_body (nt := 28) (rs := #[.tmp 4]) (fn := Tryz.f51) [] rfl rfl rfl rfl rfl hle (by kernel_rfl) h

noncomputable def code_sum_Plain_1 : ACode :=
  (.seq (.region [⟨some 2, .mv (.const (.int .i64 0)), none⟩])
  (.seq (.region [⟨some 3, .mv (.tmp 0), none⟩,
    ⟨some 4, .convI .i64 (.tmp 3), none⟩,
    ⟨some 2, .mv (.tmp 4), none⟩])
  .ret))
theorem in_sum_Plain_1 {W0 : World} {args : List AV} {S : St} {Q : AV → St → Prop} (hle : args.length ≤ 5)
    (h : awp Pr W0 S code_sum_Plain_1 (bodyQ [.tmp 2] S Q) (env0 args) S) : CallsA Pr W0 Fn.sum_Plain_1 args S Q :=
  CallsA.of_body (nt := 5) (rs := #[.tmp 2]) (fn := Tryz.f52) [] rfl rfl rfl rfl rfl hle (by kernel_rfl) h

noncomputable def code_sum_Right_k0 : ACode :=
  (.seq (.region [⟨some 9, .mv (.tmp 0), none⟩,
    ⟨some 10, .slice 1 (.tmp 9) (some (.const (.int .i64 148))) (some (.const (.int .i64 156))), none⟩,
    ⟨some 11, .call Fn.octal_Parse [(.tmp 10)], none⟩,
    ⟨some 8, .mv (.tmp 11), none⟩,
    ⟨some 12, .extract 0 (.tmp 8), none⟩,
    ⟨some 13, .extract 1 (.tmp 8), none⟩,
    ⟨some 3, .mv (.tmp 12), none⟩,
    ⟨some 4, .mv (.tmp 13), none⟩])
  (.seq (.region [⟨some 14, .mv (.tmp 4), none⟩,
    ⟨some 15, .bin .prim .eql (.tmp 14) (.const (.int .i64 0)), none⟩,
    ⟨some 16, .mv (.tmp 15), none⟩,
    ⟨some 17, .mv (.tmp 3), some (16, true)⟩,
    ⟨some 18, .mv (.tmp 0), some (16, true)⟩,
    ⟨some 19, .call Fn.sum_Plain [(.tmp 18)], some (16, true)⟩,
    ⟨some 20, .bin .prim .eql (.tmp 17) (.tmp 19), some (16, true)⟩,
    ⟨some 21, .mv (.tmp 20), some (16, true)⟩,
    ⟨some 22, .mv (.tmp 3), some (21, false)⟩,
    ⟨some 23, .mv (.tmp 0), some (21, false)⟩,
    ⟨some 24, .call Fn.sum_Signed [(.tmp 23)], some (21, false)⟩,
    ⟨some 25, .bin .prim .eql (.tmp 22) (.tmp 24), some (21, false)⟩,
    ⟨some 26, .pick (.tmp 21) (.const (.bool true)) (.tmp 25), some (16, true)⟩,
    ⟨some 27, .pick (.tmp 16) (.tmp 26) (.const (.bool false)), none⟩,
    ⟨some 2, .mv (.tmp 27), none⟩])
  .ret))
noncomputable def code_sum_Right : ACode :=
  (.seq (.region [⟨some 2, .mv (.const (.bool false)), none⟩])
  (.seq (.seq (.region [⟨some 5, .mv (.tmp 0), none⟩,
    ⟨some 6, .lenL (.tmp 5), none⟩,
    ⟨some 7, .bin .prim .neq (.tmp 6) (.const (.int .i64 512)), none⟩])
  (.cond (.tmp 7)
  (.seq (.region [⟨some 2, .mv (.const (.bool false)), none⟩])
  .ret)
  .skip))
  code_sum_Right_k0))
theorem in_sum_Right {W0 : World} {args : List AV} {S : St} {Q : AV → St → Prop} (hle : args.length ≤ 28)
    (h : awp Pr W0 S code_sum_Right (bodyQ [.tmp 2] S Q) (env0 args) S) : CallsA Pr W0 Fn.sum_Right args S Q :=
  CallsA.of_body (nt := 28) (rs := #[.tmp 2]) (fn := Tryz.f53) [] rfl rfl rfl rfl rfl hle (by kernel_rfl) h

noncomputable def code_head_text : ACode :=
  (.seq (.region [⟨some 2, .mv (.const (.string ⟨#[]⟩)), none⟩])
  (.seq (.region [⟨some 7, .mv (.tmp 0), none⟩,
    ⟨some 8, .convBS (.tmp 7), none⟩,
    ⟨some 9, .call Fn.strings_Cut [(.tmp 8), (.const (.string ⟨#[0]⟩))], none⟩,
    ⟨some 6, .mv (.tmp 9), none⟩,
    ⟨some 10, .extract 0 (.tmp 6), none⟩,
    ⟨some 11, .extract 1 (.tmp 6), none⟩,
    ⟨some 12, .extract 2 (.tmp 6), none⟩,
    ⟨some 3, .mv (.tmp 10), none⟩,
    ⟨some 4, .mv (.tmp 11), none⟩,
    ⟨some 5, .mv (.tmp 12), none⟩])
  (.seq (.region [⟨some 13, .mv (.tmp 3), none⟩,
    ⟨some 2, .mv (.tmp 13), none⟩])
  .ret)))
theorem in_head_text {W0 : World} {args : List AV} {S : St} {Q : AV → St → Prop} (hle : args.length ≤ 14)
    (h : awp Pr W0 S code_head_text (bodyQ [.tmp 2] S Q) (env0 args) S) : CallsA Pr W0 Fn.head_text args S Q :=
  CallsA.of_body (nt := 14) (rs := #[.tmp 2]) (fn := Tryz.f54) [] rfl rfl rfl rfl rfl hle (by kernel_rfl) h

noncomputable def code_octal_Parse_k0 : ACode :=
  (.block 1 (.region [⟨some 30, .mv (.tmp 4), none⟩,
    ⟨some 31, .bin .prim .add (.tmp 30) (.const (.int .i64 1)), none⟩,
    ⟨some 4, .mv (.tmp 31), none⟩]))
noncomputable def code_octal_Parse_l0 : ACode :=
  (.seq (.seq (.region [⟨some 19, .mv (.tmp 4), none⟩,
    ⟨some 20, .mv (.tmp 0), none⟩,
    ⟨some 21, .lenL (.tmp 20), none⟩,
    ⟨some 22, .bin .prim .lss (.tmp 19) (.tmp 21), none⟩,
    ⟨some 23, .mv (.tmp 22), none⟩,
    ⟨some 24, .mv (.tmp 0), some (23, true)⟩,
    ⟨some 25, .mv (.tmp 4), some (23, true)⟩,
    ⟨some 26, .iaddr 1 (.tmp 24) (.tmp 25), some (23, true)⟩,
    ⟨some 27, .load 1 false (.tmp 26), some (23, true)⟩,
    ⟨some 28, .bin .prim .eql (.tmp 27) (.const (.int .u8 32)), some (23, true)⟩,
    ⟨some 29, .pick (.tmp 23) (.tmp 28) (.const (.bool false)), none⟩])
  (.cond (.tmp 29)
  .skip
  (.exit 0)))
  code_octal_Parse_k0)
noncomputable def code_octal_Parse_k1 : ACode :=
  (.region [⟨some 54, .mv (.tmp 5), none⟩,
    ⟨some 55, .bin .prim .mul (.const (.int .i64 8)) (.tmp 54), none⟩,
    ⟨some 56, .mv (.tmp 0), none⟩,
    ⟨some 57, .mv (.tmp 4), none⟩,
    ⟨some 58, .iaddr 1 (.tmp 56) (.tmp 57), none⟩,
    ⟨some 59, .load 1 false (.tmp 58), none⟩,
    ⟨some 60, .bin .prim .sub (.tmp 59) (.const (.int .u8 48)), none⟩,
    ⟨some 61, .convI .i64 (.tmp 60), none⟩,
    ⟨some 62, .bin .prim .add (.tmp 55) (.tmp 61), none⟩,
    ⟨some 5, .mv (.tmp 62), none⟩])
noncomputable def code_octal_Parse_k2 : ACode :=
  (.region [⟨some 50, .mv (.tmp 4), none⟩,
    ⟨some 51, .bin .prim .add (.tmp 50) (.const (.int .i64 1)), none⟩,
    ⟨some 4, .mv (.tmp 51), none⟩])
noncomputable def code_octal_Parse_k3 : ACode :=
  (.seq (.block 3 (.seq (.seq (.region [⟨some 52, .mv (.tmp 5), none⟩,
    ⟨some 53, .bin .prim .geq (.tmp 52) (.const (.int .i64 1152921504606846976)), none⟩])
  (.cond (.tmp 53)
  (.seq (.region [⟨some 2, .mv (.const (.int .i64 0)), none⟩,
    ⟨some 3, .mv (.const (.int .i64 20)), none⟩])
  .ret)
  .skip))
  code_octal_Parse_k1))
  code_octal_Parse_k2)
noncomputable def code_octal_Parse_l1 : ACode :=
  (.seq (.seq (.region [⟨some 32, .mv (.tmp 4), none⟩,
    ⟨some 33, .mv (.tmp 0), none⟩,
    ⟨some 34, .lenL (.tmp 33), none⟩,
    ⟨some 35, .bin .prim .lss (.tmp 32) (.tmp 34), none⟩,
    ⟨some 36, .mv (.tmp 35), none⟩,
    ⟨some 37, .mv (.tmp 0), some (36, true)⟩,
    ⟨some 38, .mv (.tmp 4), some (36, true)⟩,
    ⟨some 39, .iaddr 1 (.tmp 37) (.tmp 38), some (36, true)⟩,
    ⟨some 40, .load 1 false (.tmp 39), some (36, true)⟩,
    ⟨some 41, .bin .prim .geq (.tmp 40) (.const (.int .u8 48)), some (36, true)⟩,
    ⟨some 42, .pick (.tmp 36) (.tmp 41) (.const (.bool false)), none⟩,
    ⟨some 43, .mv (.tmp 42), none⟩,
    ⟨some 44, .mv (.tmp 0), some (43, true)⟩,
    ⟨some 45, .mv (.tmp 4), some (43, true)⟩,
    ⟨some 46, .iaddr 1 (.tmp 44) (.tmp 45), some (43, true)⟩,
    ⟨some 47, .load 1 false (.tmp 46), some (43, true)⟩,
    ⟨some 48, .bin .prim .leq (.tmp 47) (.const (.int .u8 55)), some (43, true)⟩,
    ⟨some 49, .pick (.tmp 43) (.tmp 48) (.const (.bool false)), none⟩])
  (.cond (.tmp 49)
  .skip
  (.exit 2)))
  code_octal_Parse_k3)
noncomputable def code_octal_Parse_k4 : ACode :=
  (.region [⟨some 67, .mv (.tmp 4), none⟩,
    ⟨some 68, .bin .prim .add (.tmp 67) (.const (.int .i64 1)), none⟩,
    ⟨some 4, .mv (.tmp 68), none⟩])
noncomputable def code_octal_Parse_k5 : ACode :=
  (.seq (.block 5 (.seq (.region [⟨some 69, .mv (.tmp 0), none⟩,
    ⟨some 70, .mv (.tmp 4), none⟩,
    ⟨some 71, .iaddr 1 (.tmp 69) (.tmp 70), none⟩,
    ⟨some 72, .load 1 false (.tmp 71), none⟩,
    ⟨some 73, .bin .prim .neq (.tmp 72) (.const (.int .u8 0)), none⟩,
    ⟨some 74, .mv (.tmp 73), none⟩,
    ⟨some 75, .mv (.tmp 0), some (74, true)⟩,
    ⟨some 76, .mv (.tmp 4), some (74, true)⟩,
    ⟨some 77, .iaddr 1 (.tmp 75) (.tmp 76), some (74, true)⟩,
    ⟨some 78, .load 1 false (.tmp 77), some (74, true)⟩,
    ⟨some 79, .bin .prim .neq (.tmp 78) (.const (.int .u8 32)), some (74, true)⟩,
    ⟨some 80, .pick (.tmp 74) (.tmp 79) (.const (.bool false)), none⟩])
  (.cond (.tmp 80)
  (.seq (.region [⟨some 2, .mv (.const (.int .i64 0)), none⟩,
    ⟨some 3, .mv (.const (.int .i64 20)), none⟩])
  .ret)
  .skip)))
  code_octal_Parse_k4)
noncomputable def code_octal_Parse_l2 : ACode :=
  (.seq (.seq (.region [⟨some 63, .mv (.tmp 4), none⟩,
    ⟨some 64, .mv (.tmp 0), none⟩,
    ⟨some 65, .lenL (.tmp 64), none⟩,
    ⟨some 66, .bin .prim .lss (.tmp 63) (.tmp 65), none⟩])
  (.cond (.tmp 66)
  .skip
  (.exit 4)))
  code_octal_Parse_k5)
noncomputable def code_octal_Parse_k6 : ACode :=
  (.seq (.region [⟨some 81, .mv (.tmp 5), none⟩,
    ⟨some 2, .mv (.tmp 81), none⟩,
    ⟨some 3, .mv (.const (.int .i64 0)), none⟩])
  .ret)
noncomputable def code_octal_Parse_k7 : ACode :=
  (.seq (.block 4 (.loop code_octal_Parse_l2))
  code_octal_Parse_k6)
noncomputable def code_octal_Parse_k8 : ACode :=
  (.seq (.region [⟨some 5, .mv (.const (.int .i64 0)), none⟩])
  (.seq (.block 2 (.loop code_octal_Parse_l1))
  code_octal_Parse_k7))
noncomputable def code_octal_Parse_k9 : ACode :=
  (.seq (.region [⟨some 4, .mv (.const (.int .i64 0)), none⟩])
  (.seq (.block 0 (.loop code_octal_Parse_l0))
  code_octal_Parse_k8))
noncomputable def code_octal_Parse : ACode :=
  (.seq (.region [⟨some 2, .mv (.const (.int .i64 0)), none⟩,
    ⟨some 3, .mv (.const (.int .i64 0)), none⟩])
  (.seq (.seq (.region [⟨some 6, .mv (.tmp 0), none⟩,
    ⟨some 7, .lenL (.tmp 6), none⟩,
    ⟨some 8, .bin .prim .gtr (.tmp 7) (.const (.int .i64 0)), none⟩,
    ⟨some 9, .mv (.tmp 8), none⟩,
    ⟨some 10, .mv (.tmp 0), some (9, true)⟩,
    ⟨some 11, .iaddr 1 (.tmp 10) (.const (.int .i64 0)), some (9, true)⟩,
    ⟨some 12, .load 1 false (.tmp 11), some (9, true)⟩,
    ⟨some 13, .bin .prim .geq (.tmp 12) (.const (.int .u8 128)), some (9, true)⟩,
    ⟨some 14, .pick (.tmp 9) (.tmp 13) (.const (.bool false)), none⟩])
  (.cond (.tmp 14)
  (.seq (.region [⟨some 15, .mv (.tmp 0), none⟩,
    ⟨some 16, .call Fn.octal_binary [(.tmp 15)], none⟩,
    ⟨some 17, .extract 0 (.tmp 16), none⟩,
    ⟨some 18, .extract 1 (.tmp 16), none⟩,
    ⟨some 2, .mv (.tmp 17), none⟩,
    ⟨some 3, .mv (.tmp 18), none⟩])
  .ret)
  .skip))
  code_octal_Parse_k9))
theorem in_octal_Parse {W0 : World} {args : List AV} {S : St} {Q : AV → St → Prop} (hle : args.length ≤ 82)
    (h : awp Pr W0 S code_octal_Parse (bodyQ [.tmp 2, .tmp 3] S Q) (env0 args) S) : CallsA Pr W0 Fn.octal_Parse args S Q :=
  CallsA.of_body (nt := 82) (rs := #[.tmp 2, .tmp 3]) (fn := Tryz.f55) [] rfl rfl rfl rfl rfl hle (by kernel_rfl) h

noncomputable def code_kind_Kind_k0 : ACode :=
  (.seq (.region [⟨some 15, .bin .prim .eql (.tmp 3) (.const (.int .u8 53)), none⟩,
    ⟨some 14, .mv (.tmp 15), none⟩])
  (.cond (.tmp 14)
  (.exit 6)
  .skip))
noncomputable def code_kind_Kind_k1 : ACode :=
  (.seq (.seq (.region [⟨some 13, .bin .prim .eql (.tmp 3) (.const (.int .u8 50)), none⟩,
    ⟨some 12, .mv (.tmp 13), none⟩])
  (.cond (.tmp 12)
  (.exit 5)
  .skip))
  code_kind_Kind_k0)
noncomputable def code_kind_Kind_k2 : ACode :=
  (.seq (.seq (.region [⟨some 11, .bin .prim .eql (.tmp 3) (.const (.int .u8 49)), none⟩,
    ⟨some 10, .mv (.tmp 11), none⟩])
  (.cond (.tmp 10)
  (.exit 4)
  .skip))
  code_kind_Kind_k1)
noncomputable def code_kind_Kind_k3 : ACode :=
  (.seq (.seq (.region [⟨some 9, .bin .prim .eql (.tmp 3) (.const (.int .u8 55)), none⟩,
    ⟨some 8, .mv (.tmp 9), none⟩])
  (.cond (.tmp 8)
  (.exit 3)
  .skip))
  code_kind_Kind_k2)
noncomputable def code_kind_Kind_k4 : ACode :=
  (.seq (.seq (.region [⟨some 7, .bin .prim .eql (.tmp 3) (.const (.int .u8 48)), none⟩,
    ⟨some 6, .mv (.tmp 7), none⟩])
  (.cond (.tmp 6)
  (.exit 2)
  .skip))
  code_kind_Kind_k3)
noncomputable def code_kind_Kind_k5 : ACode :=
  (.seq (.seq (.region [⟨some 2, .mv (.const (.int .i64 1)), none⟩])
  .ret)
  (.exit 0))
noncomputable def code_kind_Kind_k6 : ACode :=
  (.seq (.seq (.region [⟨some 2, .mv (.const (.int .i64 2)), none⟩])
  .ret)
  (.exit 0))
noncomputable def code_kind_Kind_k7 : ACode :=
  (.seq (.seq (.region [⟨some 2, .mv (.const (.int .i64 3)), none⟩])
  .ret)
  (.exit 0))
noncomputable def code_kind_Kind_k8 : ACode :=
  (.seq (.seq (.region [⟨some 2, .mv (.const (.int .i64 4)), none⟩])
  .ret)
  (.exit 0))
noncomputable def code_kind_Kind_k9 : ACode :=
  (.seq (.region [⟨some 2, .mv (.const (.int .i64 0)), none⟩])
  .ret)
noncomputable def code_kind_Kind : ACode :=
  (.seq (.region [⟨some 2, .mv (.const (.int .i64 0)), none⟩])
  (.seq (.seq (.region [⟨some 3, .mv (.tmp 0), none⟩])
  (.block 0 (.seq (.block 6 (.seq (.block 5 (.seq (.block 4 (.seq (.block 3 (.block 2 (.block 1 (.seq (.seq (.seq (.region [⟨some 5, .bin .prim .eql (.tmp 3) (.const (.int .u8 0)), none⟩,
    ⟨some 4, .mv (.tmp 5), none⟩])
  (.cond (.tmp 4)
  (.exit 1)
  .skip))
  code_kind_Kind_k4)
  (.exit 0)))))
  code_kind_Kind_k5))
  code_kind_Kind_k6))
  code_kind_Kind_k7))
  code_kind_Kind_k8)))
  code_kind_Kind_k9))
theorem in_kind_Kind {W0 : World} {args : List AV} {S : St} {Q : AV → St → Prop} (hle : args.length ≤ 16)
    (h : awp Pr W0 S code_kind_Kind (bodyQ [.tmp 2] S Q) (env0 args) S) : CallsA Pr W0 Fn.kind_Kind args S Q :=
  CallsA.of_body (nt := 16) (rs := #[.tmp 2]) (fn := Tryz.f56) [] rfl rfl rfl rfl rfl hle (by kernel_rfl) h

noncomputable def code_entry_Make_k0 : ACode :=
  (.region [⟨some 82, .faddr 2 (.tmp 9), none⟩,
    ⟨some 83, .load 1 false (.tmp 82), none⟩,
    ⟨some 84, .mv (.tmp 10), none⟩,
    ⟨some 85, .nilchk (.tmp 83), none⟩,
    ⟨none, .store 1 (.tmp 85) (.tmp 84), none⟩])
noncomputable def code_entry_Make_k1 : ACode :=
  (.region [⟨some 86, .bin .prim .add (.tmp 65) (.const (.int .i64 1)), none⟩,
    ⟨some 65, .mv (.tmp 86), none⟩])
noncomputable def code_entry_Make_k2 : ACode :=
  (.seq (.block 1 (.seq (.region [⟨some 67, .iaddr 3 (.tmp 63) (.tmp 65), none⟩,
    ⟨some 68, .load 3 true (.tmp 67), none⟩,
    ⟨some 9, .alloc [.string ⟨#[]⟩, .int .i64 0, .pointer none], none⟩,
    ⟨none, .store 3 (.tmp 9) (.tmp 68), none⟩])
  (.seq (.region [⟨some 70, .load 4 true (.tmp 3), none⟩,
    ⟨some 71, .faddr 0 (.tmp 9), none⟩,
    ⟨some 72, .load 1 false (.tmp 71), none⟩,
    ⟨some 73, .faddr 1 (.tmp 9), none⟩,
    ⟨some 74, .load 1 false (.tmp 73), none⟩,
    ⟨some 75, .call Fn.entry_Ahead_number [(.tmp 70), (.tmp 72), (.tmp 74)], none⟩,
    ⟨some 69, .mv (.tmp 75), none⟩,
    ⟨some 76, .extract 0 (.tmp 69), none⟩,
    ⟨some 77, .extract 1 (.tmp 69), none⟩,
    ⟨some 10, .mv (.tmp 76), none⟩,
    ⟨some 11, .mv (.tmp 77), none⟩])
  (.seq (.seq (.region [⟨some 78, .mv (.tmp 11), none⟩,
    ⟨some 79, .bin .prim .neq (.tmp 78) (.const (.int .i64 0)), none⟩])
  (.cond (.tmp 79)
  (.seq (.region [⟨some 80, .build [.string ⟨#[]⟩, .string ⟨#[]⟩, .int .i64 0, .int .i64 0, .int .i64 0, .int .i64 0, .int .i64 0, .int .i64 0, .string ⟨#[]⟩, .string ⟨#[]⟩] [], none⟩,
    ⟨some 81, .mv (.tmp 11), none⟩,
    ⟨none, .store 10 (.tmp 4) (.tmp 80), none⟩,
    ⟨some 5, .mv (.tmp 81), none⟩])
  .ret)
  .skip))
  code_entry_Make_k0))))
  code_entry_Make_k1)
noncomputable def code_entry_Make_l0 : ACode :=
  (.seq (.region [⟨some 66, .bin .prim .lss (.tmp 65) (.tmp 64), none⟩])
  (.seq (.cond (.tmp 66)
  .skip
  (.exit 0))
  code_entry_Make_k2))
noncomputable def code_entry_Make_k3 : ACode :=
  (.seq (.region [⟨some 127, .load 10 true (.tmp 7), none⟩,
    ⟨none, .store 10 (.tmp 4) (.tmp 127), none⟩,
    ⟨some 5, .mv (.const (.int .i64 0)), none⟩])
  .ret)
noncomputable def code_entry_Make_k4 : ACode :=
  (.seq (.seq (.region [⟨some 113, .faddr 7 (.tmp 7), none⟩,
    ⟨some 114, .load 1 false (.tmp 113), none⟩,
    ⟨some 115, .bin .prim .lss (.tmp 114) (.const (.int .i64 0)), none⟩,
    ⟨some 116, .mv (.tmp 115), none⟩,
    ⟨some 117, .faddr 4 (.tmp 7), some (116, false)⟩,
    ⟨some 118, .load 1 false (.tmp 117), some (116, false)⟩,
    ⟨some 119, .bin .prim .lss (.tmp 118) (.const (.int .i64 0)), some (116, false)⟩,
    ⟨some 120, .pick (.tmp 116) (.const (.bool true)) (.tmp 119), none⟩,
    ⟨some 121, .mv (.tmp 120), none⟩,
    ⟨some 122, .faddr 5 (.tmp 7), some (121, false)⟩,
    ⟨some 123, .load 1 false (.tmp 122), some (121, false)⟩,
    ⟨some 124, .bin .prim .lss (.tmp 123) (.const (.int .i64 0)), some (121, false)⟩,
    ⟨some 125, .pick (.tmp 121) (.const (.bool true)) (.tmp 124), none⟩])
  (.cond (.tmp 125)
  (.seq (.region [⟨some 126, .build [.string ⟨#[]⟩, .string ⟨#[]⟩, .int .i64 0, .int .i64 0, .int .i64 0, .int .i64 0, .int .i64 0, .int .i64 0, .string ⟨#[]⟩, .string ⟨#[]⟩] [], none⟩,
    ⟨none, .store 10 (.tmp 4) (.tmp 126), none⟩,
    ⟨some 5, .mv (.const (.int .i64 90)), none⟩])
  .ret)
  .skip))
  code_entry_Make_k3)
noncomputable def code_entry_Make_k5 : ACode :=
  (.seq (.seq (.region [⟨some 104, .faddr 2 (.tmp 7), none⟩,
    ⟨some 105, .load 1 false (.tmp 104), none⟩,
    ⟨some 106, .bin .prim .neq (.tmp 105) (.const (.int .i64 2)), none⟩,
    ⟨some 107, .mv (.tmp 106), none⟩,
    ⟨some 108, .faddr 2 (.tmp 7), some (107, true)⟩,
    ⟨some 109, .load 1 false (.tmp 108), some (107, true)⟩,
    ⟨some 110, .bin .prim .neq (.tmp 109) (.const (.int .i64 3)), some (107, true)⟩,
    ⟨some 111, .pick (.tmp 107) (.tmp 110) (.const (.bool false)), none⟩])
  (.cond (.tmp 111)
  (.region [⟨some 112, .faddr 1 (.tmp 7), none⟩,
    ⟨none, .store 1 (.tmp 112) (.const (.string ⟨#[]⟩)), none⟩])
  .skip))
  code_entry_Make_k4)
noncomputable def code_entry_Make_k6 : ACode :=
  (.seq (.seq (.region [⟨some 100, .faddr 2 (.tmp 7), none⟩,
    ⟨some 101, .load 1 false (.tmp 100), none⟩,
    ⟨some 102, .bin .prim .neq (.tmp 101) (.const (.int .i64 1)), none⟩])
  (.cond (.tmp 102)
  (.region [⟨some 103, .faddr 7 (.tmp 7), none⟩,
    ⟨none, .store 1 (.tmp 103) (.const (.int .i64 0)), none⟩])
  .skip))
  code_entry_Make_k5)
noncomputable def code_entry_Make_k7 : ACode :=
  (.seq (.seq (.region [⟨some 87, .mv (.tmp 6), none⟩,
    ⟨some 88, .bin .prim .eql (.tmp 87) (.const (.int .i64 1)), none⟩,
    ⟨some 89, .mv (.tmp 88), none⟩,
    ⟨some 90, .faddr 0 (.tmp 2), some (89, true)⟩,
    ⟨some 91, .load 1 false (.tmp 90), some (89, true)⟩,
    ⟨some 92, .bin .prim .eql (.tmp 91) (.const (.int .i64 0)), some (89, true)⟩,
    ⟨some 93, .pick (.tmp 89) (.tmp 92) (.const (.bool false)), none⟩,
    ⟨some 94, .mv (.tmp 93), none⟩,
    ⟨some 95, .faddr 0 (.tmp 7), some (94, true)⟩,
    ⟨some 96, .load 1 false (.tmp 95), some (94, true)⟩,
    ⟨some 97, .call Fn.strings_HasSuffix [(.tmp 96), (.const (.string ⟨#[47]⟩))], some (94, true)⟩,
    ⟨some 98, .pick (.tmp 94) (.tmp 97) (.const (.bool false)), none⟩])
  (.cond (.tmp 98)
  (.region [⟨some 99, .faddr 2 (.tmp 7), none⟩,
    ⟨none, .store 1 (.tmp 99) (.const (.int .i64 4)), none⟩])
  .skip))
  code_entry_Make_k6)
noncomputable def code_entry_Make_k8 : ACode :=
  (.seq (.region [⟨some 18, .mv (.tmp 6), none⟩,
    ⟨some 19, .faddr 7 (.tmp 2), none⟩,
    ⟨some 20, .load 1 false (.tmp 19), none⟩,
    ⟨some 21, .bin .prim .and (.tmp 20) (.const (.int .i64 4095)), none⟩,
    ⟨some 22, .build [.string ⟨#[]⟩, .string ⟨#[]⟩, .int .i64 0, .int .i64 0, .int .i64 0, .int .i64 0, .int .i64 0, .int .i64 0, .string ⟨#[]⟩, .string ⟨#[]⟩] [(2, 1, (.tmp 18)), (3, 1, (.tmp 21))], none⟩,
    ⟨some 7, .alloc [.string ⟨#[]⟩, .string ⟨#[]⟩, .int .i64 0, .int .i64 0, .int .i64 0, .int .i64 0, .int .i64 0, .int .i64 0, .string ⟨#[]⟩, .string ⟨#[]⟩], none⟩,
    ⟨none, .store 10 (.tmp 7) (.tmp 22), none⟩])
  (.seq (.draw [⟨some 23, .load 4 true (.tmp 3), none⟩,
    ⟨some 24, .faddr 2 (.tmp 3), none⟩,
    ⟨some 25, .load 1 false (.tmp 24), none⟩,
    ⟨some 26, .load 12 true (.tmp 2), none⟩,
    ⟨some 27, .call Fn.head_Header_Full [(.tmp 26)], none⟩,
    ⟨some 28, .call Fn.entry_Ahead_text [(.tmp 23), (.const (.string ⟨#[112, 97, 116, 104]⟩)), (.tmp 25), (.tmp 27)], none⟩,
    ⟨some 29, .faddr 0 (.tmp 7), none⟩,
    ⟨none, .store 1 (.tmp 29) (.tmp 28), none⟩]
    [[], [], [1], [], [3], [0, 2, 4, 1, 3], [0, 1, 2, 3, 4, 5], [6, 5, 0, 1, 2, 3, 4]]
    (.eff [0, 1, 2, 3] [(4, .eff [] [(5, .eff [6] [(7, .done [])])])]))
  (.seq (.region [⟨some 30, .load 4 true (.tmp 3), none⟩,
    ⟨some 31, .faddr 3 (.tmp 3), none⟩,
    ⟨some 32, .load 1 false (.tmp 31), none⟩,
    ⟨some 33, .faddr 2 (.tmp 2), none⟩,
    ⟨some 34, .load 1 false (.tmp 33), none⟩,
    ⟨some 35, .call Fn.entry_Ahead_text [(.tmp 30), (.const (.string ⟨#[108, 105, 110, 107, 112, 97, 116, 104]⟩)), (.tmp 32), (.tmp 34)], none⟩,
    ⟨some 36, .faddr 1 (.tmp 7), none⟩,
    ⟨none, .store 1 (.tmp 36) (.tmp 35), none⟩])
  (.seq (.draw [⟨some 37, .load 4 true (.tmp 3), none⟩,
    ⟨some 38, .faddr 4 (.tmp 2), none⟩,
    ⟨some 39, .load 1 false (.tmp 38), none⟩,
    ⟨some 40, .call Fn.entry_Ahead_text [(.tmp 37), (.const (.string ⟨#[117, 110, 97, 109, 101]⟩)), (.const (.string ⟨#[]⟩)), (.tmp 39)], none⟩,
    ⟨some 41, .load 4 true (.tmp 3), none⟩,
    ⟨some 42, .faddr 5 (.tmp 2), none⟩,
    ⟨some 43, .load 1 false (.tmp 42), none⟩,
    ⟨some 44, .call Fn.entry_Ahead_text [(.tmp 41), (.const (.string ⟨#[103, 110, 97, 109, 101]⟩)), (.const (.string ⟨#[]⟩)), (.tmp 43)], none⟩,
    ⟨some 45, .faddr 8 (.tmp 7), none⟩,
    ⟨none, .store 1 (.tmp 45) (.tmp 40), none⟩,
    ⟨some 46, .faddr 9 (.tmp 7), none⟩,
    ⟨none, .store 1 (.tmp 46) (.tmp 44), none⟩]
    [[], [], [1], [0, 2, 1], [], [], [5], [4, 6, 3, 5, 0, 2, 1], [0, 1, 2, 3, 7, 4, 6, 5], [8, 3, 7, 0, 1, 2, 4, 6, 5], [0, 1, 2, 3, 4, 5, 6, 7, 8, 9], [10, 7, 9, 0, 1, 2, 3, 4, 5, 6, 8]]
    (.eff [0, 1, 2, 4, 5, 6] [(3, .eff [] [(7, .eff [8] [(9, .eff [10] [(11, .done [])])])])]))
  (.seq (.seq (.region [⟨some 47, .faddr 10 (.tmp 2), none⟩,
    ⟨some 48, .load 1 false (.tmp 47), none⟩,
    ⟨some 49, .faddr 7 (.tmp 7), none⟩,
    ⟨some 50, .build [.string ⟨#[]⟩, .int .i64 0, .pointer none] [(0, 1, (.const (.string ⟨#[115, 105, 122, 101]⟩))), (1, 1, (.tmp 48)), (2, 1, (.tmp 49))], none⟩,
    ⟨some 51, .faddr 8 (.tmp 2), none⟩,
    ⟨some 52, .load 1 false (.tmp 51), none⟩,
    ⟨some 53, .faddr 4 (.tmp 7), none⟩,
    ⟨some 54, .build [.string ⟨#[]⟩, .int .i64 0, .pointer none] [(0, 1, (.const (.string ⟨#[117, 105, 100]⟩))), (1, 1, (.tmp 52)), (2, 1, (.tmp 53))], none⟩,
    ⟨some 55, .faddr 9 (.tmp 2), none⟩,
    ⟨some 56, .load 1 false (.tmp 55), none⟩,
    ⟨some 57, .faddr 5 (.tmp 7), none⟩,
    ⟨some 58, .build [.string ⟨#[]⟩, .int .i64 0, .pointer none] [(0, 1, (.const (.string ⟨#[103, 105, 100]⟩))), (1, 1, (.tmp 56)), (2, 1, (.tmp 57))], none⟩,
    ⟨some 59, .faddr 11 (.tmp 2), none⟩,
    ⟨some 60, .load 1 false (.tmp 59), none⟩,
    ⟨some 61, .faddr 6 (.tmp 7), none⟩,
    ⟨some 62, .build [.string ⟨#[]⟩, .int .i64 0, .pointer none] [(0, 1, (.const (.string ⟨#[109, 116, 105, 109, 101]⟩))), (1, 1, (.tmp 60)), (2, 1, (.tmp 61))], none⟩,
    ⟨some 63, .bslice 4 [.string ⟨#[]⟩, .int .i64 0, .pointer none, .string ⟨#[]⟩, .int .i64 0, .pointer none, .string ⟨#[]⟩, .int .i64 0, .pointer none, .string ⟨#[]⟩, .int .i64 0, .pointer none] [(0, 3, (.tmp 50)), (3, 3, (.tmp 54)), (6, 3, (.tmp 58)), (9, 3, (.tmp 62))], none⟩,
    ⟨some 64, .lenL (.tmp 63), none⟩,
    ⟨some 65, .mv (.const (.int .i64 0)), none⟩])
  (.block 0 (.loop code_entry_Make_l0)))
  code_entry_Make_k7)))))
noncomputable def code_entry_Make : ACode :=
  (.seq (.region [⟨some 2, .box (.tmp 0), none⟩,
    ⟨some 3, .box (.tmp 1), none⟩,
    ⟨some 4, .alloc [.string ⟨#[]⟩, .string ⟨#[]⟩, .int .i64 0, .int .i64 0, .int .i64 0, .int .i64 0, .int .i64 0, .int .i64 0, .string ⟨#[]⟩, .string ⟨#[]⟩], none⟩,
    ⟨some 5, .mv (.const (.int .i64 0)), none⟩])
  (.seq (.region [⟨some 12, .faddr 6 (.tmp 2), none⟩,
    ⟨some 13, .load 1 false (.tmp 12), none⟩,
    ⟨some 14, .call Fn.kind_Kind [(.tmp 13)], none⟩,
    ⟨some 6, .mv (.tmp 14), none⟩])
  (.seq (.seq (.region [⟨some 15, .mv (.tmp 6), none⟩,
    ⟨some 16, .bin .prim .eql (.tmp 15) (.const (.int .i64 0)), none⟩])
  (.cond (.tmp 16)
  (.seq (.region [⟨some 17, .build [.string ⟨#[]⟩, .string ⟨#[]⟩, .int .i64 0, .int .i64 0, .int .i64 0, .int .i64 0, .int .i64 0, .int .i64 0, .string ⟨#[]⟩, .string ⟨#[]⟩] [], none⟩,
    ⟨none, .store 10 (.tmp 4) (.tmp 17), none⟩,
    ⟨some 5, .mv (.const (.int .i64 80)), none⟩])
  .ret)
  .skip))
  code_entry_Make_k8)))
theorem in_entry_Make {W0 : World} {args : List AV} {S : St} {Q : AV → St → Prop} (hle : args.length ≤ 128)
    (h : awp Pr W0 S code_entry_Make (bodyQ [.cell 4 10 true, .tmp 5] S Q) (env0 args) S) : CallsA Pr W0 Fn.entry_Make args S Q :=
  CallsA.of_body (nt := 128) (rs := #[.cell 4 34, .tmp 5]) (fn := Tryz.f57) [(5, .eff [0, 1, 2, 3] [(4, .eff [] [(5, .eff [6] [(7, .done [])])])]), (7, .eff [0, 1, 2, 4, 5, 6] [(3, .eff [] [(7, .eff [8] [(9, .eff [10] [(11, .done [])])])])])] rfl rfl rfl rfl rfl hle (by kernel_rfl) h

noncomputable def code_pax_one_k0 : ACode :=
  (.seq (.draw [⟨some 92, .load 2 true (.tmp 12), none⟩,
    ⟨some 93, .mv (.tmp 0), none⟩,
    ⟨some 94, .mv (.tmp 8), none⟩,
    ⟨some 95, .sliceStr (.tmp 93) (some (.tmp 94)) none, none⟩,
    ⟨none, .store 2 (.tmp 2) (.tmp 92), none⟩,
    ⟨some 3, .mv (.tmp 95), none⟩,
    ⟨some 4, .mv (.const (.int .i64 0)), none⟩]
    [[], [], [], [1, 2], [0], [3, 4, 0, 1, 2], [5, 0, 1, 2, 3, 4]]
    (.eff [0, 1, 2, 3] [(4, .done [5, 6])]))
  .ret)
noncomputable def code_pax_one_k1 : ACode :=
  (.seq (.seq (.region [⟨some 86, .load 2 true (.tmp 12), none⟩,
    ⟨some 87, .call Fn.pax_Check [(.tmp 86)], none⟩,
    ⟨some 13, .mv (.tmp 87), none⟩])
  (.seq (.region [⟨some 88, .mv (.tmp 13), none⟩,
    ⟨some 89, .bin .prim .neq (.tmp 88) (.const (.int .i64 0)), none⟩])
  (.cond (.tmp 89)
  (.seq (.region [⟨some 90, .build [.string ⟨#[]⟩, .string ⟨#[]⟩] [], none⟩,
    ⟨some 91, .mv (.tmp 13), none⟩,
    ⟨none, .store 2 (.tmp 2) (.tmp 90), none⟩,
    ⟨some 3, .mv (.const (.string ⟨#[]⟩)), none⟩,
    ⟨some 4, .mv (.tmp 91), none⟩])
  .ret)
  .skip)))
  code_pax_one_k0)
noncomputable def code_pax_one_k2 : ACode :=
  (.seq (.region [⟨some 63, .mv (.tmp 0), none⟩,
    ⟨some 64, .mv (.tmp 5), none⟩,
    ⟨some 65, .lenS (.tmp 64), none⟩,
    ⟨some 66, .bin .prim .add (.tmp 65) (.const (.int .i64 1)), none⟩,
    ⟨some 67, .mv (.tmp 8), none⟩,
    ⟨some 68, .bin .prim .sub (.tmp 67) (.const (.int .i64 1)), none⟩,
    ⟨some 69, .sliceStr (.tmp 63) (some (.tmp 66)) (some (.tmp 68)), none⟩,
    ⟨some 70, .call Fn.strings_Cut [(.tmp 69), (.const (.string ⟨#[61]⟩))], none⟩,
    ⟨some 62, .mv (.tmp 70), none⟩,
    ⟨some 71, .extract 0 (.tmp 62), none⟩,
    ⟨some 72, .extract 1 (.tmp 62), none⟩,
    ⟨some 73, .extract 2 (.tmp 62), none⟩,
    ⟨some 10, .mv (.tmp 71), none⟩,
    ⟨some 11, .mv (.tmp 72), none⟩,
    ⟨some 7, .mv (.tmp 73), none⟩])
  (.seq (.region [⟨some 74, .mv (.tmp 10), none⟩,
    ⟨some 75, .mv (.tmp 11), none⟩,
    ⟨some 76, .build [.string ⟨#[]⟩, .string ⟨#[]⟩] [(0, 1, (.tmp 74)), (1, 1, (.tmp 75))], none⟩,
    ⟨some 12, .alloc [.string ⟨#[]⟩, .string ⟨#[]⟩], none⟩,
    ⟨none, .store 2 (.tmp 12) (.tmp 76), none⟩])
  (.seq (.seq (.region [⟨some 77, .mv (.tmp 7), none⟩,
    ⟨some 78, .un .not (.tmp 77), none⟩,
    ⟨some 79, .mv (.tmp 78), none⟩,
    ⟨some 80, .load 2 true (.tmp 12), some (79, false)⟩,
    ⟨some 81, .call Fn.pax_length [(.tmp 80)], some (79, false)⟩,
    ⟨some 82, .mv (.tmp 8), some (79, false)⟩,
    ⟨some 83, .bin .prim .neq (.tmp 81) (.tmp 82), some (79, false)⟩,
    ⟨some 84, .pick (.tmp 79) (.const (.bool true)) (.tmp 83), none⟩])
  (.cond (.tmp 84)
  (.seq (.region [⟨some 85, .build [.string ⟨#[]⟩, .string ⟨#[]⟩] [], none⟩,
    ⟨none, .store 2 (.tmp 2) (.tmp 85), none⟩,
    ⟨some 3, .mv (.const (.string ⟨#[]⟩)), none⟩,
    ⟨some 4, .mv (.const (.int .i64 70)), none⟩])
  .ret)
  .skip))
  code_pax_one_k1)))
noncomputable def code_pax_one_k3 : ACode :=
  (.seq (.region [⟨some 29, .mv (.tmp 5), none⟩,
    ⟨some 30, .call Fn.strconv_Atoi [(.tmp 29)], none⟩,
    ⟨some 28, .mv (.tmp 30), none⟩,
    ⟨some 31, .extract 0 (.tmp 28), none⟩,
    ⟨some 32, .extract 1 (.tmp 28), none⟩,
    ⟨some 8, .mv (.tmp 31), none⟩,
    ⟨some 9, .mv (.tmp 32), none⟩])
  (.seq (.seq (.region [⟨some 33, .mv (.tmp 9), none⟩,
    ⟨some 34, .bin .nilI .neq (.tmp 33) (.const (.nilIface)), none⟩,
    ⟨some 35, .mv (.tmp 34), none⟩,
    ⟨some 36, .mv (.tmp 8), some (35, false)⟩,
    ⟨some 37, .call Fn.strconv_Itoa [(.tmp 36)], some (35, false)⟩,
    ⟨some 38, .mv (.tmp 5), some (35, false)⟩,
    ⟨some 39, .bin .prim .neq (.tmp 37) (.tmp 38), some (35, false)⟩,
    ⟨some 40, .pick (.tmp 35) (.const (.bool true)) (.tmp 39), none⟩,
    ⟨some 41, .mv (.tmp 40), none⟩,
    ⟨some 42, .mv (.tmp 8), some (41, false)⟩,
    ⟨some 43, .mv (.tmp 5), some (41, false)⟩,
    ⟨some 44, .lenS (.tmp 43), some (41, false)⟩,
    ⟨some 45, .bin .prim .add (.tmp 44) (.const (.int .i64 1)), some (41, false)⟩,
    ⟨some 46, .bin .prim .leq (.tmp 42) (.tmp 45), some (41, false)⟩,
    ⟨some 47, .pick (.tmp 41) (.const (.bool true)) (.tmp 46), none⟩,
    ⟨some 48, .mv (.tmp 47), none⟩,
    ⟨some 49, .mv (.tmp 8), some (48, false)⟩,
    ⟨some 50, .mv (.tmp 0), some (48, false)⟩,
    ⟨some 51, .lenS (.tmp 50), some (48, false)⟩,
    ⟨some 52, .bin .prim .gtr (.tmp 49) (.tmp 51), some (48, false)⟩,
    ⟨some 53, .pick (.tmp 48) (.const (.bool true)) (.tmp 52), none⟩,
    ⟨some 54, .mv (.tmp 53), none⟩,
    ⟨some 55, .mv (.tmp 0), some (54, false)⟩,
    ⟨some 56, .mv (.tmp 8), some (54, false)⟩,
    ⟨some 57, .bin .prim .sub (.tmp 56) (.const (.int .i64 1)), some (54, false)⟩,
    ⟨some 58, .idx (.tmp 55) (.tmp 57), some (54, false)⟩,
    ⟨some 59, .bin .prim .neq (.tmp 58) (.const (.int .u8 10)), some (54, false)⟩,
    ⟨some 60, .pick (.tmp 54) (.const (.bool true)) (.tmp 59), none⟩])
  (.cond (.tmp 60)
  (.seq (.region [⟨some 61, .build [.string ⟨#[]⟩, .string ⟨#[]⟩] [], none⟩,
    ⟨none, .store 2 (.tmp 2) (.tmp 61), none⟩,
    ⟨some 3, .mv (.const (.string ⟨#[]⟩)), none⟩,
    ⟨some 4, .mv (.const (.int .i64 70)), none⟩])
  .ret)
  .skip))
  code_pax_one_k2))
noncomputable def code_pax_one : ACode :=
  (.seq (.region [⟨some 2, .alloc [.string ⟨#[]⟩, .string ⟨#[]⟩], none⟩,
    ⟨some 3, .mv (.const (.string ⟨#[]⟩)), none⟩,
    ⟨some 4, .mv (.const (.int .i64 0)), none⟩])
  (.seq (.region [⟨some 15, .mv (.tmp 0), none⟩,
    ⟨some 16, .call Fn.strings_Cut [(.tmp 15), (.const (.string ⟨#[32]⟩))], none⟩,
    ⟨some 14, .mv (.tmp 16), none⟩,
    ⟨some 17, .extract 0 (.tmp 14), none⟩,
    ⟨some 18, .extract 1 (.tmp 14), none⟩,
    ⟨some 19, .extract 2 (.tmp 14), none⟩,
    ⟨some 5, .mv (.tmp 17), none⟩,
    ⟨some 6, .mv (.tmp 18), none⟩,
    ⟨some 7, .mv (.tmp 19), none⟩])
  (.seq (.seq (.region [⟨some 20, .mv (.tmp 7), none⟩,
    ⟨some 21, .un .not (.tmp 20), none⟩,
    ⟨some 22, .mv (.tmp 21), none⟩,
    ⟨some 23, .mv (.tmp 5), some (22, false)⟩,
    ⟨some 24, .lenS (.tmp 23), some (22, false)⟩,
    ⟨some 25, .bin .prim .gtr (.tmp 24) (.const (.int .i64 5)), some (22, false)⟩,
    ⟨some 26, .pick (.tmp 22) (.const (.bool true)) (.tmp 25), none⟩])
  (.cond (.tmp 26)
  (.seq (.region [⟨some 27, .build [.string ⟨#[]⟩, .string ⟨#[]⟩] [], none⟩,
    ⟨none, .store 2 (.tmp 2) (.tmp 27), none⟩,
    ⟨some 3, .mv (.const (.string ⟨#[]⟩)), none⟩,
    ⟨some 4, .mv (.const (.int .i64 70)), none⟩])
  .ret)
  .skip))
  code_pax_one_k3)))
theorem in_pax_one {W0 : World} {args : List AV} {S : St} {Q : AV → St → Prop} (hle : args.length ≤ 96)
    (h : awp Pr W0 S code_pax_one (bodyQ [.cell 2 2 true, .tmp 3, .tmp 4] S Q) (env0 args) S) : CallsA Pr W0 Fn.pax_one args S Q :=
  CallsA.of_body (nt := 96) (rs := #[.cell 2 46, .tmp 3, .tmp 4]) (fn := Tryz.f59) [(14, .eff [0, 1, 2, 3] [(4, .done [5, 6])])] rfl rfl rfl rfl rfl hle (by kernel_rfl) h

noncomputable def code_strings_IndexAny_k0 : ACode :=
  (.seq (.region [⟨some 21, .mv (.tmp 0), none⟩,
    ⟨some 22, .mv (.tmp 5), none⟩,
    ⟨some 23, .call Fn.strings_IndexRune [(.tmp 21), (.tmp 22)], none⟩,
    ⟨some 4, .mv (.tmp 23), none⟩])
  .ret)
noncomputable def code_strings_IndexAny_k1 : ACode :=
  (.region [⟨some 37, .mv (.tmp 8), none⟩,
    ⟨some 38, .bin .prim .add (.tmp 37) (.const (.int .i64 1)), none⟩,
    ⟨some 8, .mv (.tmp 38), none⟩])
noncomputable def code_strings_IndexAny_k2 : ACode :=
  (.seq (.block 1 (.seq (.region [⟨some 39, .mv (.tmp 0), none⟩,
    ⟨some 40, .mv (.tmp 8), none⟩,
    ⟨some 41, .idx (.tmp 39) (.tmp 40), none⟩,
    ⟨some 42, .call Fn.strings_asciiSet_contains [(.tmp 6), (.tmp 41)], none⟩])
  (.cond (.tmp 42)
  (.seq (.region [⟨some 43, .mv (.tmp 8), none⟩,
    ⟨some 4, .mv (.tmp 43), none⟩])
  .ret)
  .skip)))
  code_strings_IndexAny_k1)
noncomputable def code_strings_IndexAny_l0 : ACode :=
  (.seq (.seq (.region [⟨some 33, .mv (.tmp 8), none⟩,
    ⟨some 34, .mv (.tmp 0), none⟩,
    ⟨some 35, .lenS (.tmp 34), none⟩,
    ⟨some 36, .bin .prim .lss (.tmp 33) (.tmp 35), none⟩])
  (.cond (.tmp 36)
  .skip
  (.exit 0)))
  code_strings_IndexAny_k2)
noncomputable def code_strings_IndexAny_k3 : ACode :=
  (.seq (.region [⟨some 4, .mv (.const (.int .i64 (-1))), none⟩])
  .ret)
noncomputable def code_strings_IndexAny_t0 : ACode :=
  (.seq (.seq (.region [⟨some 8, .mv (.const (.int .i64 0)), none⟩])
  (.block 0 (.loop code_strings_IndexAny_l0)))
  code_strings_IndexAny_k3)
noncomputable def code_strings_IndexAny_t1 : ACode :=
  (.seq (.region [⟨some 28, .mv (.tmp 1), none⟩,
    ⟨some 29, .call Fn.strings_makeASCIISet [(.tmp 28)], none⟩,
    ⟨some 27, .mv (.tmp 29), none⟩,
    ⟨some 30, .extract 0 (.tmp 27), none⟩,
    ⟨some 31, .extract 1 (.tmp 27), none⟩,
    ⟨some 6, .alloc [.bool false, .bool false, .bool false, .bool false, .bool false, .bool false, .bool false, .bool false, .bool false, .bool false, .bool false, .bool false, .bool false, .bool false, .bool false, .bool false, .bool false, .bool false, .bool false, .bool false, .bool false, .bool false, .bool false, .bool false, .bool false, .bool false, .bool false, .bool false, .bool false, .bool false, .bool false, .bool false, .bool false, .bool false, .bool false, .bool false, .bool false, .bool false, .bool false, .bool false, .bool false, .bool false, .bool false, .bool false, .bool false, .bool false, .bool false, .bool false, .bool false, .bool false, .bool false, .bool false, .bool false, .bool false, .bool false, .bool false, .bool false, .bool false, .bool false, .bool false, .bool false, .bool false, .bool false, .bool false, .bool false, .bool false, .bool false, .bool false, .bool false, .bool false, .bool false, .bool false, .bool false, .bool false, .bool false, .bool false, .bool false, .bool false, .bool false, .bool false, .bool false, .bool false, .bool false, .bool false, .bool false, .bool false, .bool false, .bool false, .bool false, .bool false, .bool false, .bool false, .bool false, .bool false, .bool false, .bool false, .bool false, .bool false, .bool false, .bool false, .bool false, .bool false, .bool false, .bool false, .bool false, .bool false, .bool false, .bool false, .bool false, .bool false, .bool false, .bool false, .bool false, .bool false, .bool false, .bool false, .bool false, .bool false, .bool false, .bool false, .bool false, .bool false, .bool false, .bool false, .bool false, .bool false, .bool false, .bool false, .bool false, .bool false, .bool false, .bool false, .bool false, .bool false, .bool false, .bool false, .bool false, .bool false, .bool false, .bool false, .bool false, .bool false, .bool false, .bool false, .bool false, .bool false, .bool false, .bool false, .bool false, .bool false, .bool false, .bool false, .bool false, .bool false, .bool false, .bool false, .bool false, .bool false, .bool false, .bool false, .bool false, .bool false, .bool false, .bool false, .bool false, .bool false, .bool false, .bool false, .bool false, .bool false, .bool false, .bool false, .bool false, .bool false, .bool false, .bool false, .bool false, .bool false, .bool false, .bool false, .bool false, .bool false, .bool false, .bool false, .bool false, .bool false, .bool false, .bool false, .bool false, .bool false, .bool false, .bool false, .bool false, .bool false, .bool false, .bool false, .bool false, .bool false, .bool false, .bool false, .bool false, .bool false, .bool false, .bool false, .bool false, .bool false, .bool false, .bool false, .bool false, .bool false, .bool false, .bool false, .bool false, .bool false, .bool false, .bool false, .bool false, .bool false, .bool false, .bool false, .bool false, .bool false, .bool false, .bool false, .bool false, .bool false, .bool false, .bool false, .bool false, .bool false, .bool false, .bool false, .bool false, .bool false, .bool false, .bool false, .bool false, .bool false, .bool false, .bool false, .bool false, .bool false, .bool false, .bool false, .bool false, .bool false, .bool false, .bool false, .bool false, .bool false, .bool false, .bool false, .bool false, .bool false, .bool false, .bool false], none⟩,
    ⟨none, .store 256 (.tmp 6) (.tmp 30), none⟩,
    ⟨some 7, .mv (.tmp 31), none⟩])
  (.seq (.region [⟨some 32, .mv (.tmp 7), none⟩])
  (.cond (.tmp 32)
  code_strings_IndexAny_t0
  .skip)))
noncomputable def code_strings_IndexAny_k4 : ACode :=
  (.block 3 (.seq (.region [⟨some 48, .extract 1 (.tmp 46), none⟩,
    ⟨some 49, .extract 2 (.tmp 46), none⟩,
    ⟨some 9, .mv (.tmp 48), none⟩,
    ⟨some 10, .mv (.tmp 49), none⟩])
  (.seq (.region [⟨some 50, .mv (.tmp 1), none⟩,
    ⟨some 51, .mv (.tmp 10), none⟩,
    ⟨some 52, .call Fn.strings_IndexRune [(.tmp 50), (.tmp 51)], none⟩,
    ⟨some 53, .bin .prim .geq (.tmp 52) (.const (.int .i64 0)), none⟩])
  (.cond (.tmp 53)
  (.seq (.region [⟨some 54, .mv (.tmp 9), none⟩,
    ⟨some 4, .mv (.tmp 54), none⟩])
  .ret)
  .skip))))
noncomputable def code_strings_IndexAny_l1 : ACode :=
  (.seq (.region [⟨some 46, .nextS (.tmp 45), none⟩,
    ⟨some 47, .extract 0 (.tmp 46), none⟩])
  (.seq (.cond (.tmp 47)
  .skip
  (.exit 2))
  code_strings_IndexAny_k4))
noncomputable def code_strings_IndexAny_k5 : ACode :=
  (.seq (.region [⟨some 4, .mv (.const (.int .i64 (-1))), none⟩])
  .ret)
noncomputable def code_strings_IndexAny_k6 : ACode :=
  (.seq (.seq (.region [⟨some 44, .mv (.tmp 0), none⟩,
    ⟨some 45, .rangeS (.tmp 44), none⟩])
  (.block 2 (.loop code_strings_IndexAny_l1)))
  code_strings_IndexAny_k5)
noncomputable def code_strings_IndexAny_k7 : ACode :=
  (.seq (.seq (.region [⟨some 24, .mv (.tmp 0), none⟩,
    ⟨some 25, .lenS (.tmp 24), none⟩,
    ⟨some 26, .call Fn.strings_shouldUseASCIISet [(.tmp 25)], none⟩])
  (.cond (.tmp 26)
  code_strings_IndexAny_t1
  .skip))
  code_strings_IndexAny_k6)
noncomputable def code_strings_IndexAny_k8 : ACode :=
  (.seq (.seq (.region [⟨some 13, .mv (.tmp 1), none⟩,
    ⟨some 14, .lenS (.tmp 13), none⟩,
    ⟨some 15, .bin .prim .eql (.tmp 14) (.const (.int .i64 1)), none⟩])
  (.cond (.tmp 15)
  (.seq (.region [⟨some 16, .mv (.tmp 1), none⟩,
    ⟨some 17, .idx (.tmp 16) (.const (.int .i64 0)), none⟩,
    ⟨some 18, .convI .i32 (.tmp 17), none⟩,
    ⟨some 5, .mv (.tmp 18), none⟩])
  (.seq (.seq (.region [⟨some 19, .mv (.tmp 5), none⟩,
    ⟨some 20, .bin .prim .geq (.tmp 19) (.const (.int .i32 128)), none⟩])
  (.cond (.tmp 20)
  (.region [⟨some 5, .mv (.const (.int .i32 65533)), none⟩])
  .skip))
  code_strings_IndexAny_k0))
  .skip))
  code_strings_IndexAny_k7)
noncomputable def code_strings_IndexAny : ACode :=
  (.seq (.region [⟨some 4, .mv (.const (.int .i64 0)), none⟩])
  (.seq (.seq (.region [⟨some 11, .mv (.tmp 1), none⟩,
    ⟨some 12, .bin .prim .eql (.tmp 11) (.const (.string ⟨#[]⟩)), none⟩])
  (.cond (.tmp 12)
  (.seq (.region [⟨some 4, .mv (.const (.int .i64 (-1))), none⟩])
  .ret)
  .skip))
  code_strings_IndexAny_k8))
theorem in_strings_IndexAny {W0 : World} {args : List AV} {S : St} {Q : AV → St → Prop} (hle : args.length ≤ 55)
    (h : awp Pr W0 S code_strings_IndexAny (bodyQ [.tmp 4] S Q) (env0 args) S) : CallsA Pr W0 Fn.strings_IndexAny args S Q :=
  CallsA.of_body (nt := 55) (rs := #[.tmp 4]) (fn := Tryz.f63) [] rfl rfl rfl rfl rfl hle (by kernel_rfl) h

noncomputable def code_sum_Signed : ACode :=
  (.seq (.region [⟨some 2, .mv (.const (.int .i64 0)), none⟩])
  (.seq (.region [⟨some 3, .mv (.tmp 0), none⟩,
    ⟨some 4, .call Fn.sum_each [(.tmp 3), (.func Fn.sum_Signed_1)], none⟩,
    ⟨some 2, .mv (.tmp 4), none⟩])
  .ret))
theorem in_sum_Signed {W0 : World} {args : List AV} {S : St} {Q : AV → St → Prop} (hle : args.length ≤ 5)
    (h : awp Pr W0 S code_sum_Signed (bodyQ [.tmp 2] S Q) (env0 args) S) : CallsA Pr W0 Fn.sum_Signed args S Q :=
  CallsA.of_body (nt := 5) (rs := #[.tmp 2]) (fn := Tryz.f67) [] rfl rfl rfl rfl rfl hle (by kernel_rfl) h

noncomputable def code_octal_binary_k0 : ACode :=
  (.region [⟨some 34, .mv (.tmp 4), none⟩,
    ⟨some 35, .bin .prim .shl (.tmp 34) (.const (.int .u64 8)), none⟩,
    ⟨some 36, .mv (.tmp 6), none⟩,
    ⟨some 37, .convI .i64 (.tmp 36), none⟩,
    ⟨some 38, .bin .prim .or (.tmp 35) (.tmp 37), none⟩,
    ⟨some 4, .mv (.tmp 38), none⟩])
noncomputable def code_octal_binary_k1 : ACode :=
  (.region [⟨some 39, .bin .prim .add (.tmp 24) (.const (.int .i64 1)), none⟩,
    ⟨some 24, .mv (.tmp 39), none⟩])
noncomputable def code_octal_binary_k2 : ACode :=
  (.seq (.block 1 (.seq (.region [⟨some 26, .iaddr 1 (.tmp 22) (.tmp 24), none⟩,
    ⟨some 27, .load 1 false (.tmp 26), none⟩,
    ⟨some 6, .mv (.tmp 27), none⟩])
  (.seq (.seq (.region [⟨some 28, .mv (.tmp 4), none⟩,
    ⟨some 29, .bin .prim .geq (.tmp 28) (.const (.int .i64 36028797018963968)), none⟩,
    ⟨some 30, .mv (.tmp 29), none⟩,
    ⟨some 31, .mv (.tmp 4), some (30, false)⟩,
    ⟨some 32, .bin .prim .lss (.tmp 31) (.const (.int .i64 (-36028797018963968))), some (30, false)⟩,
    ⟨some 33, .pick (.tmp 30) (.const (.bool true)) (.tmp 32), none⟩])
  (.cond (.tmp 33)
  (.seq (.region [⟨some 2, .mv (.const (.int .i64 0)), none⟩,
    ⟨some 3, .mv (.const (.int .i64 20)), none⟩])
  .ret)
  .skip))
  code_octal_binary_k0)))
  code_octal_binary_k1)
noncomputable def code_octal_binary_l0 : ACode :=
  (.seq (.region [⟨some 25, .bin .prim .lss (.tmp 24) (.tmp 23), none⟩])
  (.seq (.cond (.tmp 25)
  .skip
  (.exit 0))
  code_octal_binary_k2))
noncomputable def code_octal_binary_k3 : ACode :=
  (.seq (.region [⟨some 40, .mv (.tmp 4), none⟩,
    ⟨some 2, .mv (.tmp 40), none⟩,
    ⟨some 3, .mv (.const (.int .i64 0)), none⟩])
  .ret)
noncomputable def code_octal_binary_k4 : ACode :=
  (.seq (.seq (.region [⟨some 21, .mv (.tmp 0), none⟩,
    ⟨some 22, .slice 1 (.tmp 21) (some (.const (.int .i64 1))) none, none⟩,
    ⟨some 23, .lenL (.tmp 22), none⟩,
    ⟨some 24, .mv (.const (.int .i64 0)), none⟩])
  (.block 0 (.loop code_octal_binary_l0)))
  code_octal_binary_k3)
noncomputable def code_octal_binary_k5 : ACode :=
  (.seq (.region [⟨some 4, .mv (.const (.int .i64 0)), none⟩])
  (.seq (.seq (.region [⟨some 17, .mv (.tmp 0), none⟩,
    ⟨some 18, .iaddr 1 (.tmp 17) (.const (.int .i64 0)), none⟩,
    ⟨some 19, .load 1 false (.tmp 18), none⟩,
    ⟨some 20, .bin .prim .eql (.tmp 19) (.const (.int .u8 255)), none⟩])
  (.cond (.tmp 20)
  (.region [⟨some 4, .mv (.const (.int .i64 (-1))), none⟩])
  .skip))
  code_octal_binary_k4))
noncomputable def code_octal_binary : ACode :=
  (.seq (.region [⟨some 2, .mv (.const (.int .i64 0)), none⟩,
    ⟨some 3, .mv (.const (.int .i64 0)), none⟩])
  (.seq (.seq (.region [⟨some 7, .mv (.tmp 0), none⟩,
    ⟨some 8, .iaddr 1 (.tmp 7) (.const (.int .i64 0)), none⟩,
    ⟨some 9, .load 1 false (.tmp 8), none⟩,
    ⟨some 10, .bin .prim .neq (.tmp 9) (.const (.int .u8 128)), none⟩,
    ⟨some 11, .mv (.tmp 10), none⟩,
    ⟨some 12, .mv (.tmp 0), some (11, true)⟩,
    ⟨some 13, .iaddr 1 (.tmp 12) (.const (.int .i64 0)), some (11, true)⟩,
    ⟨some 14, .load 1 false (.tmp 13), some (11, true)⟩,
    ⟨some 15, .bin .prim .neq (.tmp 14) (.const (.int .u8 255)), some (11, true)⟩,
    ⟨some 16, .pick (.tmp 11) (.tmp 15) (.const (.bool false)), none⟩])
  (.cond (.tmp 16)
  (.seq (.region [⟨some 2, .mv (.const (.int .i64 0)), none⟩,
    ⟨some 3, .mv (.const (.int .i64 20)), none⟩])
  .ret)
  .skip))
  code_octal_binary_k5))
theorem in_octal_binary {W0 : World} {args : List AV} {S : St} {Q : AV → St → Prop} (hle : args.length ≤ 41)
    (h : awp Pr W0 S code_octal_binary (bodyQ [.tmp 2, .tmp 3] S Q) (env0 args) S) : CallsA Pr W0 Fn.octal_binary args S Q :=
  CallsA.of_body (nt := 41) (rs := #[.tmp 2, .tmp 3]) (fn := Tryz.f68) [] rfl rfl rfl rfl rfl hle (by kernel_rfl) h

noncomputable def code_entry_Ahead_text_k0 : ACode :=
  (.seq (.region [⟨some 22, .mv (.tmp 3), none⟩,
    ⟨some 8, .mv (.tmp 22), none⟩])
  .ret)
noncomputable def code_entry_Ahead_text_k1 : ACode :=
  (.seq (.seq (.region [⟨some 19, .mv (.tmp 2), none⟩,
    ⟨some 20, .bin .prim .neq (.tmp 19) (.const (.string ⟨#[]⟩)), none⟩])
  (.cond (.tmp 20)
  (.seq (.region [⟨some 21, .mv (.tmp 2), none⟩,
    ⟨some 8, .mv (.tmp 21), none⟩])
  .ret)
  .skip))
  code_entry_Ahead_text_k0)
noncomputable def code_entry_Ahead_text : ACode :=
  (.seq (.region [⟨some 4, .box (.tmp 0), none⟩,
    ⟨some 8, .mv (.const (.string ⟨#[]⟩)), none⟩])
  (.seq (.seq (.region [⟨some 12, .load 4 true (.tmp 4), none⟩,
    ⟨some 13, .mv (.tmp 1), none⟩,
    ⟨some 14, .call Fn.entry_Ahead_get [(.tmp 12), (.tmp 13)], none⟩,
    ⟨some 11, .mv (.tmp 14), none⟩,
    ⟨some 15, .extract 0 (.tmp 11), none⟩,
    ⟨some 16, .extract 1 (.tmp 11), none⟩,
    ⟨some 9, .mv (.tmp 15), none⟩,
    ⟨some 10, .mv (.tmp 16), none⟩])
  (.seq (.region [⟨some 17, .mv (.tmp 10), none⟩])
  (.cond (.tmp 17)
  (.seq (.region [⟨some 18, .mv (.tmp 9), none⟩,
    ⟨some 8, .mv (.tmp 18), none⟩])
  .ret)
  .skip)))
  code_entry_Ahead_text_k1))
theorem in_entry_Ahead_text {W0 : World} {args : List AV} {S : St} {Q : AV → St → Prop} (hle : args.length ≤ 23)
    (h : awp Pr W0 S code_entry_Ahead_text (bodyQ [.tmp 8] S Q) (env0 args) S) : CallsA Pr W0 Fn.entry_Ahead_text args S Q :=
  CallsA.of_body (nt := 23) (rs := #[.tmp 8]) (fn := Tryz.f69) [] rfl rfl rfl rfl rfl hle (by kernel_rfl) h

noncomputable def code_head_Header_Full_k0 : ACode :=
  (.seq (.region [⟨some 8, .faddr 3 (.tmp 1), none⟩,
    ⟨some 9, .load 1 false (.tmp 8), none⟩,
    ⟨some 10, .bin .prim .add (.tmp 9) (.const (.string ⟨#[47]⟩)), none⟩,
    ⟨some 11, .faddr 1 (.tmp 1), none⟩,
    ⟨some 12, .load 1 false (.tmp 11), none⟩,
    ⟨some 13, .bin .prim .add (.tmp 10) (.tmp 12), none⟩,
    ⟨some 2, .mv (.tmp 13), none⟩])
  .ret)
noncomputable def code_head_Header_Full : ACode :=
  (.seq (.region [⟨some 1, .box (.tmp 0), none⟩,
    ⟨some 2, .mv (.const (.string ⟨#[]⟩)), none⟩])
  (.seq (.seq (.region [⟨some 3, .faddr 3 (.tmp 1), none⟩,
    ⟨some 4, .load 1 false (.tmp 3), none⟩,
    ⟨some 5, .bin .prim .eql (.tmp 4) (.const (.string ⟨#[]⟩)), none⟩])
  (.cond (.tmp 5)
  (.seq (.region [⟨some 6, .faddr 1 (.tmp 1), none⟩,
    ⟨some 7, .load 1 false (.tmp 6), none⟩,
    ⟨some 2, .mv (.tmp 7), none⟩])
  .ret)
  .skip))
  code_head_Header_Full_k0))
theorem in_head_Header_Full {W0 : World} {args : List AV} {S : St} {Q : AV → St → Prop} (hle : args.length ≤ 14)
    (h : awp Pr W0 S code_head_Header_Full (bodyQ [.tmp 2] S Q) (env0 args) S) : CallsA Pr W0 Fn.head_Header_Full args S Q :=
  CallsA.of_body (nt := 14) (rs := #[.tmp 2]) (fn := Tryz.f70) [] rfl rfl rfl rfl rfl hle (by kernel_rfl) h

noncomputable def code_entry_Ahead_number_k0 : ACode :=
  (.seq (.region [⟨some 21, .mv (.tmp 2), none⟩,
    ⟨some 6, .mv (.tmp 21), none⟩,
    ⟨some 7, .mv (.const (.int .i64 0)), none⟩])
  .ret)
noncomputable def code_entry_Ahead_number : ACode :=
  (.seq (.region [⟨some 3, .box (.tmp 0), none⟩,
    ⟨some 6, .mv (.const (.int .i64 0)), none⟩,
    ⟨some 7, .mv (.const (.int .i64 0)), none⟩])
  (.seq (.seq (.region [⟨some 11, .load 4 true (.tmp 3), none⟩,
    ⟨some 12, .mv (.tmp 1), none⟩,
    ⟨some 13, .call Fn.entry_Ahead_get [(.tmp 11), (.tmp 12)], none⟩,
    ⟨some 10, .mv (.tmp 13), none⟩,
    ⟨some 14, .extract 0 (.tmp 10), none⟩,
    ⟨some 15, .extract 1 (.tmp 10), none⟩,
    ⟨some 8, .mv (.tmp 14), none⟩,
    ⟨some 9, .mv (.tmp 15), none⟩])
  (.seq (.region [⟨some 16, .mv (.tmp 9), none⟩])
  (.cond (.tmp 16)
  (.seq (.region [⟨some 17, .mv (.tmp 8), none⟩,
    ⟨some 18, .call Fn.pax_Number [(.tmp 17)], none⟩,
    ⟨some 19, .extract 0 (.tmp 18), none⟩,
    ⟨some 20, .extract 1 (.tmp 18), none⟩,
    ⟨some 6, .mv (.tmp 19), none⟩,
    ⟨some 7, .mv (.tmp 20), none⟩])
  .ret)
  .skip)))
  code_entry_Ahead_number_k0))
theorem in_entry_Ahead_number {W0 : World} {args : List AV} {S : St} {Q : AV → St → Prop} (hle : args.length ≤ 22)
    (h : awp Pr W0 S code_entry_Ahead_number (bodyQ [.tmp 6, .tmp 7] S Q) (env0 args) S) : CallsA Pr W0 Fn.entry_Ahead_number args S Q :=
  CallsA.of_body (nt := 22) (rs := #[.tmp 6, .tmp 7]) (fn := Tryz.f71) [] rfl rfl rfl rfl rfl hle (by kernel_rfl) h

noncomputable def code_strings_IndexRune_k0 : ACode :=
  (.block 10 (.seq (.region [⟨some 178, .extract 1 (.tmp 176), none⟩,
    ⟨some 179, .extract 2 (.tmp 176), none⟩,
    ⟨some 5, .mv (.tmp 178), none⟩,
    ⟨some 6, .mv (.tmp 179), none⟩])
  (.seq (.region [⟨some 180, .mv (.tmp 6), none⟩,
    ⟨some 181, .bin .prim .eql (.tmp 180) (.const (.int .i32 65533)), none⟩])
  (.cond (.tmp 181)
  (.seq (.region [⟨some 182, .mv (.tmp 5), none⟩,
    ⟨some 4, .mv (.tmp 182), none⟩])
  .ret)
  .skip))))
noncomputable def code_strings_IndexRune_l0 : ACode :=
  (.seq (.region [⟨some 176, .nextS (.tmp 175), none⟩,
    ⟨some 177, .extract 0 (.tmp 176), none⟩])
  (.seq (.cond (.tmp 177)
  .skip
  (.exit 9))
  code_strings_IndexRune_k0))
noncomputable def code_strings_IndexRune_k1 : ACode :=
  (.seq (.region [⟨some 4, .mv (.const (.int .i64 (-1))), none⟩])
  .ret)
noncomputable def code_strings_IndexRune_k2 : ACode :=
  (.region [⟨some 44, .mv (.tmp 9), none⟩,
    ⟨some 45, .mv (.tmp 11), none⟩,
    ⟨some 46, .bin .prim .add (.tmp 45) (.const (.int .i64 1)), none⟩,
    ⟨some 47, .bin .prim .add (.tmp 44) (.tmp 46), none⟩,
    ⟨some 9, .mv (.tmp 47), none⟩])
noncomputable def code_strings_IndexRune_t0 : ACode :=
  (.seq (.draw [⟨some 34, .mv (.tmp 0), none⟩,
    ⟨some 35, .mv (.tmp 9), none⟩,
    ⟨some 36, .bin .prim .add (.tmp 35) (.const (.int .i64 1)), none⟩,
    ⟨some 37, .sliceStr (.tmp 34) (some (.tmp 36)) none, none⟩,
    ⟨some 38, .mv (.tmp 7), none⟩,
    ⟨some 39, .mv (.tmp 8), none⟩,
    ⟨some 40, .idx (.tmp 38) (.tmp 39), none⟩,
    ⟨some 41, .call Fn.strings_IndexByte [(.tmp 37), (.tmp 40)], none⟩,
    ⟨some 11, .mv (.tmp 41), none⟩]
    [[], [], [1], [0, 2, 1], [], [], [4, 5], [3, 6, 0, 2, 1, 4, 5], [7, 0, 1, 2, 3, 4, 5, 6]]
    (.eff [0, 1, 2, 3, 4, 5, 6] [(7, .done [8])]))
  (.seq (.seq (.region [⟨some 42, .mv (.tmp 11), none⟩,
    ⟨some 43, .bin .prim .lss (.tmp 42) (.const (.int .i64 0)), none⟩])
  (.cond (.tmp 43)
  (.seq (.region [⟨some 4, .mv (.const (.int .i64 (-1))), none⟩])
  .ret)
  .skip))
  code_strings_IndexRune_k2))
noncomputable def code_strings_IndexRune_k3 : ACode :=
  (.region [⟨some 52, .mv (.tmp 12), none⟩,
    ⟨some 53, .bin .prim .add (.tmp 52) (.const (.int .i64 1)), none⟩,
    ⟨some 12, .mv (.tmp 53), none⟩])
noncomputable def code_strings_IndexRune_k4 : ACode :=
  (.seq (.block 4 (.seq (.draw [⟨some 54, .mv (.tmp 0), none⟩,
    ⟨some 55, .mv (.tmp 9), none⟩,
    ⟨some 56, .mv (.tmp 12), none⟩,
    ⟨some 57, .bin .prim .sub (.tmp 55) (.tmp 56), none⟩,
    ⟨some 58, .idx (.tmp 54) (.tmp 57), none⟩,
    ⟨some 59, .mv (.tmp 7), none⟩,
    ⟨some 60, .mv (.tmp 8), none⟩,
    ⟨some 61, .mv (.tmp 12), none⟩,
    ⟨some 62, .bin .prim .sub (.tmp 60) (.tmp 61), none⟩,
    ⟨some 63, .idx (.tmp 59) (.tmp 62), none⟩,
    ⟨some 64, .bin .prim .neq (.tmp 58) (.tmp 63), none⟩]
    [[], [], [], [1, 2], [0, 3, 1, 2], [], [], [], [6, 7], [5, 8, 6, 7], [4, 9, 0, 3, 1, 2, 5, 8, 6, 7]]
    (.done [0, 1, 2, 3, 4, 5, 6, 7, 8, 9, 10]))
  (.cond (.tmp 64)
  .bad
  .skip)))
  code_strings_IndexRune_k3)
noncomputable def code_strings_IndexRune_l1 : ACode :=
  (.seq (.seq (.region [⟨some 48, .mv (.tmp 12), none⟩,
    ⟨some 49, .mv (.tmp 7), none⟩,
    ⟨some 50, .lenS (.tmp 49), none⟩,
    ⟨some 51, .bin .prim .lss (.tmp 48) (.tmp 50), none⟩])
  (.cond (.tmp 51)
  .skip
  (.exit 3)))
  code_strings_IndexRune_k4)
noncomputable def code_strings_IndexRune_k5 : ACode :=
  (.seq (.seq (.region [⟨some 65, .mv (.tmp 9), none⟩,
    ⟨some 66, .mv (.tmp 8), none⟩,
    ⟨some 67, .bin .prim .sub (.tmp 65) (.tmp 66), none⟩,
    ⟨some 4, .mv (.tmp 67), none⟩])
  .ret)
  (.seq .skip
  (.seq (.region [⟨some 68, .mv (.tmp 10), none⟩,
    ⟨some 69, .bin .prim .add (.tmp 68) (.const (.int .i64 1)), none⟩,
    ⟨some 10, .mv (.tmp 69), none⟩])
  (.seq (.region [⟨some 70, .mv (.tmp 9), none⟩,
    ⟨some 71, .bin .prim .add (.tmp 70) (.const (.int .i64 1)), none⟩,
    ⟨some 9, .mv (.tmp 71), none⟩])
  (.seq (.region [⟨some 72, .mv (.const (.bool true)), none⟩,
    ⟨some 73, .mv (.tmp 10), some (72, true)⟩,
    ⟨some 74, .mv (.tmp 9), some (72, true)⟩,
    ⟨some 75, .call Fn.internal_bytealg_Cutover [(.tmp 74)], some (72, true)⟩,
    ⟨some 76, .bin .prim .gtr (.tmp 73) (.tmp 75), some (72, true)⟩,
    ⟨some 77, .pick (.tmp 72) (.tmp 76) (.const (.bool false)), none⟩,
    ⟨some 78, .mv (.tmp 77), none⟩,
    ⟨some 79, .mv (.tmp 9), some (78, true)⟩,
    ⟨some 80, .mv (.tmp 0), some (78, true)⟩,
    ⟨some 81, .lenS (.tmp 80), some (78, true)⟩,
    ⟨some 82, .bin .prim .lss (.tmp 79) (.tmp 81), some (78, true)⟩,
    ⟨some 83, .pick (.tmp 78) (.tmp 82) (.const (.bool false)), none⟩,
    ⟨some 84, .mv (.tmp 83), none⟩,
    ⟨some 85, .mv (.const (.bool false)), some (84, false)⟩,
    ⟨some 86, .mv (.tmp 10), some (85, true)⟩,
    ⟨some 87, .mv (.tmp 9), some (85, true)⟩,
    ⟨some 88, .bin .prim .shr (.tmp 87) (.const (.int .u64 4)), some (85, true)⟩,
    ⟨some 89, .bin .prim .add (.const (.int .i64 4)) (.tmp 88), some (85, true)⟩,
    ⟨some 90, .bin .prim .geq (.tmp 86) (.tmp 89), some (85, true)⟩,
    ⟨some 91, .pick (.tmp 85) (.tmp 90) (.const (.bool false)), some (84, false)⟩,
    ⟨some 92, .mv (.tmp 91), some (84, false)⟩,
    ⟨some 93, .mv (.tmp 9), some (92, true)⟩,
    ⟨some 94, .mv (.tmp 0), some (92, true)⟩,
    ⟨some 95, .lenS (.tmp 94), some (92, true)⟩,
    ⟨some 96, .bin .prim .lss (.tmp 93) (.tmp 95), some (92, true)⟩,
    ⟨some 97, .pick (.tmp 92) (.tmp 96) (.const (.bool false)), some (84, false)⟩,
    ⟨some 98, .pick (.tmp 84) (.const (.bool true)) (.tmp 97), none⟩])
  (.cond (.tmp 98)
  .bad
  .skip))))))
noncomputable def code_strings_IndexRune_k6 : ACode :=
  (.seq (.seq (.region [⟨some 12, .mv (.const (.int .i64 1)), none⟩])
  (.block 3 (.loop code_strings_IndexRune_l1)))
  code_strings_IndexRune_k5)
noncomputable def code_strings_IndexRune_k7 : ACode :=
  (.block 2 (.seq (.seq (.draw [⟨some 27, .mv (.tmp 0), none⟩,
    ⟨some 28, .mv (.tmp 9), none⟩,
    ⟨some 29, .idx (.tmp 27) (.tmp 28), none⟩,
    ⟨some 30, .mv (.tmp 7), none⟩,
    ⟨some 31, .mv (.tmp 8), none⟩,
    ⟨some 32, .idx (.tmp 30) (.tmp 31), none⟩,
    ⟨some 33, .bin .prim .neq (.tmp 29) (.tmp 32), none⟩]
    [[], [], [0, 1], [], [], [3, 4], [2, 5, 0, 1, 3, 4]]
    (.done [0, 1, 2, 3, 4, 5, 6]))
  (.cond (.tmp 33)
  code_strings_IndexRune_t0
  .skip))
  code_strings_IndexRune_k6))
noncomputable def code_strings_IndexRune_l2 : ACode :=
  (.seq (.seq (.region [⟨some 23, .mv (.tmp 9), none⟩,
    ⟨some 24, .mv (.tmp 0), none⟩,
    ⟨some 25, .lenS (.tmp 24), none⟩,
    ⟨some 26, .bin .prim .lss (.tmp 23) (.tmp 25), none⟩])
  (.cond (.tmp 26)
  .skip
  (.exit 1)))
  code_strings_IndexRune_k7)
noncomputable def code_strings_IndexRune_k8 : ACode :=
  (.region [⟨some 144, .mv (.tmp 16), none⟩,
    ⟨some 145, .bin .prim .add (.tmp 144) (.const (.int .i64 1)), none⟩,
    ⟨some 16, .mv (.tmp 145), none⟩])
noncomputable def code_strings_IndexRune_k9 : ACode :=
  (.seq (.block 8 (.seq (.draw [⟨some 146, .mv (.tmp 0), none⟩,
    ⟨some 147, .mv (.tmp 9), none⟩,
    ⟨some 148, .mv (.tmp 16), none⟩,
    ⟨some 149, .bin .prim .sub (.tmp 147) (.tmp 148), none⟩,
    ⟨some 150, .idx (.tmp 146) (.tmp 149), none⟩,
    ⟨some 151, .mv (.tmp 7), none⟩,
    ⟨some 152, .mv (.tmp 8), none⟩,
    ⟨some 153, .mv (.tmp 16), none⟩,
    ⟨some 154, .bin .prim .sub (.tmp 152) (.tmp 153), none⟩,
    ⟨some 155, .idx (.tmp 151) (.tmp 154), none⟩,
    ⟨some 156, .bin .prim .neq (.tmp 150) (.tmp 155), none⟩]
    [[], [], [], [1, 2], [0, 3, 1, 2], [], [], [], [6, 7], [5, 8, 6, 7], [4, 9, 0, 3, 1, 2, 5, 8, 6, 7]]
    (.done [0, 1, 2, 3, 4, 5, 6, 7, 8, 9, 10]))
  (.cond (.tmp 156)
  (.exit 6)
  .skip)))
  code_strings_IndexRune_k8)
noncomputable def code_strings_IndexRune_l3 : ACode :=
  (.seq (.seq (.region [⟨some 140, .mv (.tmp 16), none⟩,
    ⟨some 141, .mv (.tmp 7), none⟩,
    ⟨some 142, .lenS (.tmp 141), none⟩,
    ⟨some 143, .bin .prim .lss (.tmp 140) (.tmp 142), none⟩])
  (.cond (.tmp 143)
  .skip
  (.exit 7)))
  code_strings_IndexRune_k9)
noncomputable def code_strings_IndexRune_k10 : ACode :=
  (.seq (.region [⟨some 157, .mv (.tmp 9), none⟩,
    ⟨some 158, .mv (.tmp 8), none⟩,
    ⟨some 159, .bin .prim .sub (.tmp 157) (.tmp 158), none⟩,
    ⟨some 4, .mv (.tmp 159), none⟩])
  .ret)
noncomputable def code_strings_IndexRune_t1 : ACode :=
  (.seq (.seq (.region [⟨some 16, .mv (.const (.int .i64 2)), none⟩])
  (.block 7 (.loop code_strings_IndexRune_l3)))
  code_strings_IndexRune_k10)
noncomputable def code_strings_IndexRune_k11 : ACode :=
  (.region [⟨some 125, .mv (.tmp 9), none⟩,
    ⟨some 126, .bin .prim .add (.tmp 125) (.const (.int .i64 1)), none⟩,
    ⟨some 9, .mv (.tmp 126), none⟩])
noncomputable def code_strings_IndexRune_k12 : ACode :=
  (.seq (.block 6 (.seq (.region [⟨some 127, .mv (.tmp 0), none⟩,
    ⟨some 128, .mv (.tmp 9), none⟩,
    ⟨some 129, .idx (.tmp 127) (.tmp 128), none⟩,
    ⟨some 130, .mv (.tmp 14), none⟩,
    ⟨some 131, .bin .prim .eql (.tmp 129) (.tmp 130), none⟩,
    ⟨some 132, .mv (.tmp 131), none⟩,
    ⟨some 133, .mv (.tmp 0), some (132, true)⟩,
    ⟨some 134, .mv (.tmp 9), some (132, true)⟩,
    ⟨some 135, .bin .prim .sub (.tmp 134) (.const (.int .i64 1)), some (132, true)⟩,
    ⟨some 136, .idx (.tmp 133) (.tmp 135), some (132, true)⟩,
    ⟨some 137, .mv (.tmp 15), some (132, true)⟩,
    ⟨some 138, .bin .prim .eql (.tmp 136) (.tmp 137), some (132, true)⟩,
    ⟨some 139, .pick (.tmp 132) (.tmp 138) (.const (.bool false)), none⟩])
  (.cond (.tmp 139)
  code_strings_IndexRune_t1
  .skip)))
  code_strings_IndexRune_k11)
noncomputable def code_strings_IndexRune_l4 : ACode :=
  (.seq (.seq (.region [⟨some 121, .mv (.tmp 9), none⟩,
    ⟨some 122, .mv (.tmp 0), none⟩,
    ⟨some 123, .lenS (.tmp 122), none⟩,
    ⟨some 124, .bin .prim .lss (.tmp 121) (.tmp 123), none⟩])
  (.cond (.tmp 124)
  .skip
  (.exit 5)))
  code_strings_IndexRune_k12)
noncomputable def code_strings_IndexRune_t2 : ACode :=
  (.seq (.region [⟨some 99, .mv (.tmp 0), none⟩,
    ⟨some 100, .mv (.tmp 9), none⟩,
    ⟨some 101, .mv (.tmp 8), none⟩,
    ⟨some 102, .bin .prim .sub (.tmp 100) (.tmp 101), none⟩,
    ⟨some 103, .sliceStr (.tmp 99) (some (.tmp 102)) none, none⟩,
    ⟨some 104, .mv (.tmp 1), none⟩,
    ⟨some 105, .convIS (.tmp 104), none⟩,
    ⟨some 106, .bad, none⟩,
    ⟨some 13, .mv (.tmp 106), none⟩])
  (.seq (.region [⟨some 107, .mv (.tmp 13), none⟩,
    ⟨some 108, .bin .prim .geq (.tmp 107) (.const (.int .i64 0)), none⟩])
  (.cond (.tmp 108)
  (.seq (.region [⟨some 109, .mv (.tmp 9), none⟩,
    ⟨some 110, .mv (.tmp 13), none⟩,
    ⟨some 111, .bin .prim .add (.tmp 109) (.tmp 110), none⟩,
    ⟨some 112, .mv (.tmp 8), none⟩,
    ⟨some 113, .bin .prim .sub (.tmp 111) (.tmp 112), none⟩,
    ⟨some 4, .mv (.tmp 113), none⟩])
  .ret)
  .skip)))
noncomputable def code_strings_IndexRune_t3 : ACode :=
  (.seq (.region [⟨some 114, .mv (.tmp 7), none⟩,
    ⟨some 115, .mv (.tmp 8), none⟩,
    ⟨some 116, .idx (.tmp 114) (.tmp 115), none⟩,
    ⟨some 14, .mv (.tmp 116), none⟩])
  (.seq (.region [⟨some 117, .mv (.tmp 7), none⟩,
    ⟨some 118, .mv (.tmp 8), none⟩,
    ⟨some 119, .bin .prim .sub (.tmp 118) (.const (.int .i64 1)), none⟩,
    ⟨some 120, .idx (.tmp 117) (.tmp 119), none⟩,
    ⟨some 15, .mv (.tmp 120), none⟩])
  (.seq .skip
  (.block 5 (.loop code_strings_IndexRune_l4)))))
noncomputable def code_strings_IndexRune_k13 : ACode :=
  (.seq (.region [⟨some 4, .mv (.const (.int .i64 (-1))), none⟩])
  .ret)
noncomputable def code_strings_IndexRune_k14 : ACode :=
  (.seq (.seq (.region [⟨some 4, .mv (.const (.int .i64 (-1))), none⟩])
  .ret)
  (.seq .skip
  (.seq (.cond (.const (.bool true))
  code_strings_IndexRune_t2
  code_strings_IndexRune_t3)
  code_strings_IndexRune_k13)))
noncomputable def code_strings_IndexRune_t4 : ACode :=
  (.seq (.region [⟨some 17, .mv (.tmp 1), none⟩,
    ⟨some 18, .convIS (.tmp 17), none⟩,
    ⟨some 7, .mv (.tmp 18), none⟩])
  (.seq (.region [⟨some 19, .mv (.tmp 7), none⟩,
    ⟨some 20, .lenS (.tmp 19), none⟩,
    ⟨some 21, .bin .prim .sub (.tmp 20) (.const (.int .i64 1)), none⟩,
    ⟨some 8, .mv (.tmp 21), none⟩])
  (.seq (.region [⟨some 22, .mv (.tmp 8), none⟩,
    ⟨some 9, .mv (.tmp 22), none⟩])
  (.seq (.region [⟨some 10, .mv (.const (.int .i64 0)), none⟩])
  (.seq (.block 1 (.loop code_strings_IndexRune_l2))
  code_strings_IndexRune_k14)))))
noncomputable def code_strings_IndexRune_t5 : ACode :=
  (.seq (.seq (.region [⟨some 174, .mv (.tmp 0), none⟩,
    ⟨some 175, .rangeS (.tmp 174), none⟩])
  (.block 9 (.loop code_strings_IndexRune_l0)))
  code_strings_IndexRune_k1)
noncomputable def code_strings_IndexRune_t6 : ACode :=
  (.seq (.region [⟨some 184, .mv (.tmp 1), none⟩,
    ⟨some 185, .call Fn.unicode_utf8_ValidRune [(.tmp 184)], none⟩,
    ⟨some 186, .un .not (.tmp 185), none⟩,
    ⟨some 183, .mv (.tmp 186), none⟩])
  (.cond (.tmp 183)
  (.seq (.region [⟨some 4, .mv (.const (.int .i64 (-1))), none⟩])
  .ret)
  code_strings_IndexRune_t4))
noncomputable def code_strings_IndexRune_t7 : ACode :=
  (.seq (.region [⟨some 172, .mv (.tmp 1), none⟩,
    ⟨some 173, .bin .prim .eql (.tmp 172) (.const (.int .i32 65533)), none⟩,
    ⟨some 171, .mv (.tmp 173), none⟩])
  (.cond (.tmp 171)
  code_strings_IndexRune_t5
  code_strings_IndexRune_t6))
noncomputable def code_strings_IndexRune : ACode :=
  (.seq (.region [⟨some 4, .mv (.const (.int .i64 0)), none⟩])
  (.block 0 (.seq (.region [⟨some 161, .mv (.tmp 1), none⟩,
    ⟨some 162, .bin .prim .leq (.const (.int .i32 0)) (.tmp 161), none⟩,
    ⟨some 163, .mv (.tmp 162), none⟩,
    ⟨some 164, .mv (.tmp 1), some (163, true)⟩,
    ⟨some 165, .bin .prim .lss (.tmp 164) (.const (.int .i32 128)), some (163, true)⟩,
    ⟨some 166, .pick (.tmp 163) (.tmp 165) (.const (.bool false)), none⟩,
    ⟨some 160, .mv (.tmp 166), none⟩])
  (.cond (.tmp 160)
  (.seq (.region [⟨some 167, .mv (.tmp 0), none⟩,
    ⟨some 168, .mv (.tmp 1), none⟩,
    ⟨some 169, .convI .u8 (.tmp 168), none⟩,
    ⟨some 170, .call Fn.strings_IndexByte [(.tmp 167), (.tmp 169)], none⟩,
    ⟨some 4, .mv (.tmp 170), none⟩])
  .ret)
  code_strings_IndexRune_t7))))
theorem in_strings_IndexRune {W0 : World} {args : List AV} {S : St} {Q : AV → St → Prop} (hle : args.length ≤ 187)
    (h : awp Pr W0 S code_strings_IndexRune (bodyQ [.tmp 4] S Q) (env0 args) S) : CallsA Pr W0 Fn.strings_IndexRune args S Q :=
  CallsA.of_body (nt := 187) (rs := #[.tmp 4]) (fn := Tryz.f74) [(6, .done [0, 1, 2, 3, 4, 5, 6]), (7, .eff [0, 1, 2, 3, 4, 5, 6] [(7, .done [8])]), (14, .done [0, 1, 2, 3, 4, 5, 6, 7, 8, 9, 10]), (31, .done [0, 1, 2, 3, 4, 5, 6, 7, 8, 9, 10])] rfl rfl rfl rfl rfl hle (by kernel_rfl) h

noncomputable def code_strings_shouldUseASCIISet : ACode :=
  (.seq (.region [⟨some 2, .mv (.const (.bool false)), none⟩])
  (.seq (.region [⟨some 3, .mv (.tmp 0), none⟩,
    ⟨some 4, .bin .prim .gtr (.tmp 3) (.const (.int .i64 8)), none⟩,
    ⟨some 2, .mv (.tmp 4), none⟩])
  .ret))
theorem in_strings_shouldUseASCIISet {W0 : World} {args : List AV} {S : St} {Q : AV → St → Prop} (hle : args.length ≤ 5)
    (h : awp Pr W0 S code_strings_shouldUseASCIISet (bodyQ [.tmp 2] S Q) (env0 args) S) : CallsA Pr W0 Fn.strings_shouldUseASCIISet args S Q :=
  CallsA.of_body (nt := 5) (rs := #[.tmp 2]) (fn := Tryz.f75) [] rfl rfl rfl rfl rfl hle (by kernel_rfl) h

noncomputable def code_sum_Signed_1 : ACode :=
  (.seq (.region [⟨some 2, .mv (.const (.int .i64 0)), none⟩])
  (.seq (.region [⟨some 3, .mv (.tmp 0), none⟩,
    ⟨some 4, .convI .i8 (.tmp 3), none⟩,
    ⟨some 5, .convI .i64 (.tmp 4), none⟩,
    ⟨some 2, .mv (.tmp 5), none⟩])
  .ret))
theorem in_sum_Signed_1 {W0 : World} {args : List AV} {S : St} {Q : AV → St → Prop} (hle : args.length ≤ 6)
    (h : awp Pr W0 S code_sum_Signed_1 (bodyQ [.tmp 2] S Q) (env0 args) S) : CallsA Pr W0 Fn.sum_Signed_1 args S Q :=
  CallsA.of_body (nt := 6) (rs := #[.tmp 2]) (fn := Tryz.f86) [] rfl rfl rfl rfl rfl hle (by kernel_rfl) h

noncomputable def code_entry_Ahead_get_k0 : ACode :=
  (.seq (.region [⟨some 24, .mv (.tmp 6), none⟩,
    ⟨some 25, .mv (.tmp 7), none⟩,
    ⟨some 26, .mv (.tmp 25), none⟩,
    ⟨some 27, .mv (.tmp 6), some (26, true)⟩,
    ⟨some 28, .bin .prim .neq (.tmp 27) (.const (.string ⟨#[]⟩)), some (26, true)⟩,
    ⟨some 29, .pick (.tmp 26) (.tmp 28) (.const (.bool false)), none⟩,
    ⟨some 4, .mv (.tmp 24), none⟩,
    ⟨some 5, .mv (.tmp 29), none⟩])
  .ret)
noncomputable def code_entry_Ahead_get : ACode :=
  (.seq (.region [⟨some 2, .box (.tmp 0), none⟩,
    ⟨some 4, .mv (.const (.string ⟨#[]⟩)), none⟩,
    ⟨some 5, .mv (.const (.bool false)), none⟩])
  (.seq (.region [⟨some 9, .faddr 1 (.tmp 2), none⟩,
    ⟨some 10, .load 1 false (.tmp 9), none⟩,
    ⟨some 11, .mv (.tmp 1), none⟩,
    ⟨some 12, .call Fn.pax_Get [(.tmp 10), (.tmp 11)], none⟩,
    ⟨some 8, .mv (.tmp 12), none⟩,
    ⟨some 13, .extract 0 (.tmp 8), none⟩,
    ⟨some 14, .extract 1 (.tmp 8), none⟩,
    ⟨some 6, .mv (.tmp 13), none⟩,
    ⟨some 7, .mv (.tmp 14), none⟩])
  (.seq (.seq (.region [⟨some 15, .mv (.tmp 7), none⟩,
    ⟨some 16, .un .not (.tmp 15), none⟩])
  (.cond (.tmp 16)
  (.region [⟨some 18, .faddr 0 (.tmp 2), none⟩,
    ⟨some 19, .load 1 false (.tmp 18), none⟩,
    ⟨some 20, .mv (.tmp 1), none⟩,
    ⟨some 21, .call Fn.pax_Get [(.tmp 19), (.tmp 20)], none⟩,
    ⟨some 17, .mv (.tmp 21), none⟩,
    ⟨some 22, .extract 0 (.tmp 17), none⟩,
    ⟨some 23, .extract 1 (.tmp 17), none⟩,
    ⟨some 6, .mv (.tmp 22), none⟩,
    ⟨some 7, .mv (.tmp 23), none⟩])
  .skip))
  code_entry_Ahead_get_k0)))
theorem in_entry_Ahead_get {W0 : World} {args : List AV} {S : St} {Q : AV → St → Prop} (hle : args.length ≤ 30)
    (h : awp Pr W0 S code_entry_Ahead_get (bodyQ [.tmp 4, .tmp 5] S Q) (env0 args) S) : CallsA Pr W0 Fn.entry_Ahead_get args S Q :=
  CallsA.of_body (nt := 30) (rs := #[.tmp 4, .tmp 5]) (fn := Tryz.f87) [] rfl rfl rfl rfl rfl hle (by kernel_rfl) h

noncomputable def code_pax_Number_k0 : ACode :=
  (.seq (.region [⟨some 19, .mv (.tmp 4), none⟩,
    ⟨some 2, .mv (.tmp 19), none⟩,
    ⟨some 3, .mv (.const (.int .i64 0)), none⟩])
  .ret)
noncomputable def code_pax_Number : ACode :=
  (.seq (.region [⟨some 2, .mv (.const (.int .i64 0)), none⟩,
    ⟨some 3, .mv (.const (.int .i64 0)), none⟩])
  (.seq (.region [⟨some 7, .mv (.tmp 0), none⟩,
    ⟨some 8, .call Fn.strconv_ParseInt [(.tmp 7), (.const (.int .i64 10)), (.const (.int .i64 64))], none⟩,
    ⟨some 6, .mv (.tmp 8), none⟩,
    ⟨some 9, .extract 0 (.tmp 6), none⟩,
    ⟨some 10, .extract 1 (.tmp 6), none⟩,
    ⟨some 4, .mv (.tmp 9), none⟩,
    ⟨some 5, .mv (.tmp 10), none⟩])
  (.seq (.seq (.region [⟨some 11, .mv (.tmp 5), none⟩,
    ⟨some 12, .bin .nilI .neq (.tmp 11) (.const (.nilIface)), none⟩,
    ⟨some 13, .mv (.tmp 12), none⟩,
    ⟨some 14, .mv (.tmp 4), some (13, false)⟩,
    ⟨some 15, .call Fn.strconv_FormatInt [(.tmp 14), (.const (.int .i64 10))], some (13, false)⟩,
    ⟨some 16, .mv (.tmp 0), some (13, false)⟩,
    ⟨some 17, .bin .prim .neq (.tmp 15) (.tmp 16), some (13, false)⟩,
    ⟨some 18, .pick (.tmp 13) (.const (.bool true)) (.tmp 17), none⟩])
  (.cond (.tmp 18)
  (.seq (.region [⟨some 2, .mv (.const (.int .i64 0)), none⟩,
    ⟨some 3, .mv (.const (.int .i64 70)), none⟩])
  .ret)
  .skip))
  code_pax_Number_k0)))
theorem in_pax_Number {W0 : World} {args : List AV} {S : St} {Q : AV → St → Prop} (hle : args.length ≤ 20)
    (h : awp Pr W0 S code_pax_Number (bodyQ [.tmp 2, .tmp 3] S Q) (env0 args) S) : CallsA Pr W0 Fn.pax_Number args S Q :=
  CallsA.of_body (nt := 20) (rs := #[.tmp 2, .tmp 3]) (fn := Tryz.f88) [] rfl rfl rfl rfl rfl hle (by kernel_rfl) h

noncomputable def code_pax_Get_k0 : ACode :=
  (.region [⟨some 12, .mv (.tmp 6), none⟩,
    ⟨some 13, .bin .prim .sub (.tmp 12) (.const (.int .i64 1)), none⟩,
    ⟨some 6, .mv (.tmp 13), none⟩])
noncomputable def code_pax_Get_k1 : ACode :=
  (.seq (.block 1 (.seq (.region [⟨some 14, .mv (.tmp 0), none⟩,
    ⟨some 15, .mv (.tmp 6), none⟩,
    ⟨some 16, .iaddr 2 (.tmp 14) (.tmp 15), none⟩,
    ⟨some 17, .faddr 0 (.tmp 16), none⟩,
    ⟨some 18, .load 1 false (.tmp 17), none⟩,
    ⟨some 19, .mv (.tmp 1), none⟩,
    ⟨some 20, .bin .prim .eql (.tmp 18) (.tmp 19), none⟩])
  (.cond (.tmp 20)
  (.seq (.region [⟨some 21, .mv (.tmp 0), none⟩,
    ⟨some 22, .mv (.tmp 6), none⟩,
    ⟨some 23, .iaddr 2 (.tmp 21) (.tmp 22), none⟩,
    ⟨some 24, .faddr 1 (.tmp 23), none⟩,
    ⟨some 25, .load 1 false (.tmp 24), none⟩,
    ⟨some 4, .mv (.tmp 25), none⟩,
    ⟨some 5, .mv (.const (.bool true)), none⟩])
  .ret)
  .skip)))
  code_pax_Get_k0)
noncomputable def code_pax_Get_l0 : ACode :=
  (.seq (.seq (.region [⟨some 10, .mv (.tmp 6), none⟩,
    ⟨some 11, .bin .prim .geq (.tmp 10) (.const (.int .i64 0)), none⟩])
  (.cond (.tmp 11)
  .skip
  (.exit 0)))
  code_pax_Get_k1)
noncomputable def code_pax_Get_k2 : ACode :=
  (.seq (.region [⟨some 4, .mv (.const (.string ⟨#[]⟩)), none⟩,
    ⟨some 5, .mv (.const (.bool false)), none⟩])
  .ret)
noncomputable def code_pax_Get : ACode :=
  (.seq (.region [⟨some 4, .mv (.const (.string ⟨#[]⟩)), none⟩,
    ⟨some 5, .mv (.const (.bool false)), none⟩])
  (.seq (.seq (.region [⟨some 7, .mv (.tmp 0), none⟩,
    ⟨some 8, .lenL (.tmp 7), none⟩,
    ⟨some 9, .bin .prim .sub (.tmp 8) (.const (.int .i64 1)), none⟩,
    ⟨some 6, .mv (.tmp 9), none⟩])
  (.block 0 (.loop code_pax_Get_l0)))
  code_pax_Get_k2))
theorem in_pax_Get {W0 : World} {args : List AV} {S : St} {Q : AV → St → Prop} (hle : args.length ≤ 26)
    (h : awp Pr W0 S code_pax_Get (bodyQ [.tmp 4, .tmp 5] S Q) (env0 args) S) : CallsA Pr W0 Fn.pax_Get args S Q :=
  CallsA.of_body (nt := 26) (rs := #[.tmp 4, .tmp 5]) (fn := Tryz.f101) [] rfl rfl rfl rfl rfl hle (by kernel_rfl) h

end Go.Proofs.YtnfiihdebonadaaGreatDoor.Abs
