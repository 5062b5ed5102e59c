/- Names for the functions and types of this seat. Printed by a program. -/
import Derived.Test.YtafglmjadbplcaaGreatDoorTy
import Derived.Test.YtafglmjadbplcaaGreatDoorRows
namespace Go.Proofs.YtafglmjadbplcaaGreatDoor
abbrev F.main_main : Nat := 0
theorem G.main_main : Tryz.prog.funcs[0]? = some Tryz.f0 := Tryz.func0
abbrev F.gosem_cut : Nat := 1
theorem G.gosem_cut : Tryz.prog.funcs[1]? = some Tryz.f1 := Tryz.func1
abbrev F.gosem_cut_init : Nat := 2
theorem G.gosem_cut_init : Tryz.prog.funcs[2]? = some Tryz.f2 := Tryz.func2
abbrev F.law9_SceneRoundTrip : Nat := 3
theorem G.law9_SceneRoundTrip : Tryz.prog.funcs[3]? = some Tryz.f3 := Tryz.func3
abbrev F.mk_Scene : Nat := 4
theorem G.mk_Scene : Tryz.prog.funcs[4]? = some Tryz.f4 := Tryz.func4
abbrev F.law9_changed : Nat := 5
theorem G.law9_changed : Tryz.prog.funcs[5]? = some Tryz.f5 := Tryz.func5
abbrev F.ref6_CheckScene : Nat := 6
theorem G.ref6_CheckScene : Tryz.prog.funcs[6]? = some Tryz.f6 := Tryz.func6
abbrev F.ref6_Parse : Nat := 7
theorem G.ref6_Parse : Tryz.prog.funcs[7]? = some Tryz.f7 := Tryz.func7
abbrev F.ref6_FormatStatements : Nat := 8
theorem G.ref6_FormatStatements : Tryz.prog.funcs[8]? = some Tryz.f8 := Tryz.func8
abbrev F.scene_Write : Nat := 9
theorem G.scene_Write : Tryz.prog.funcs[9]? = some Tryz.f9 := Tryz.func9
abbrev F.scene_Read : Nat := 10
theorem G.scene_Read : Tryz.prog.funcs[10]? = some Tryz.f10 := Tryz.func10
abbrev F.law9_awake : Nat := 11
theorem G.law9_awake : Tryz.prog.funcs[11]? = some Tryz.f11 := Tryz.func11
abbrev F.mk_SameScene : Nat := 12
theorem G.mk_SameScene : Tryz.prog.funcs[12]? = some Tryz.f12 := Tryz.func12
abbrev F.mk_From : Nat := 13
theorem G.mk_From : Tryz.prog.funcs[13]? = some Tryz.f13 := Tryz.func13
abbrev F.mk_robot : Nat := 14
theorem G.mk_robot : Tryz.prog.funcs[14]? = some Tryz.f14 := Tryz.func14
abbrev F.mk_Source_Next : Nat := 15
theorem G.mk_Source_Next : Tryz.prog.funcs[15]? = some Tryz.f15 := Tryz.func15
abbrev F.mk_points : Nat := 16
theorem G.mk_points : Tryz.prog.funcs[16]? = some Tryz.f16 := Tryz.func16
abbrev F.mk_Source_Signed : Nat := 17
theorem G.mk_Source_Signed : Tryz.prog.funcs[17]? = some Tryz.f17 := Tryz.func17
abbrev F.mk_Round : Nat := 18
theorem G.mk_Round : Tryz.prog.funcs[18]? = some Tryz.f18 := Tryz.func18
abbrev F.ref6_CheckRobot : Nat := 19
theorem G.ref6_CheckRobot : Tryz.prog.funcs[19]? = some Tryz.f19 := Tryz.func19
abbrev F.ref6_isLink : Nat := 20
theorem G.ref6_isLink : Tryz.prog.funcs[20]? = some Tryz.f20 := Tryz.func20
abbrev F.ref6_between : Nat := 21
theorem G.ref6_between : Tryz.prog.funcs[21]? = some Tryz.f21 := Tryz.func21
abbrev F.ref6_Near : Nat := 22
theorem G.ref6_Near : Tryz.prog.funcs[22]? = some Tryz.f22 := Tryz.func22
abbrev F.ref6_Split : Nat := 23
theorem G.ref6_Split : Tryz.prog.funcs[23]? = some Tryz.f23 := Tryz.func23
abbrev F.ref6_Known : Nat := 24
theorem G.ref6_Known : Tryz.prog.funcs[24]? = some Tryz.f24 := Tryz.func24
abbrev F.ref6_Arguments : Nat := 25
theorem G.ref6_Arguments : Tryz.prog.funcs[25]? = some Tryz.f25 := Tryz.func25
abbrev F.scene_Check : Nat := 26
theorem G.scene_Check : Tryz.prog.funcs[26]? = some Tryz.f26 := Tryz.func26
abbrev F.robot_Write : Nat := 27
theorem G.robot_Write : Tryz.prog.funcs[27]? = some Tryz.f27 := Tryz.func27
abbrev F.scene_linkName : Nat := 28
theorem G.scene_linkName : Tryz.prog.funcs[28]? = some Tryz.f28 := Tryz.func28
abbrev F.token_Format : Nat := 29
theorem G.token_Format : Tryz.prog.funcs[29]? = some Tryz.f29 := Tryz.func29
abbrev F.robot_Read : Nat := 30
theorem G.robot_Read : Tryz.prog.funcs[30]? = some Tryz.f30 := Tryz.func30
abbrev F.scene_add : Nat := 31
theorem G.scene_add : Tryz.prog.funcs[31]? = some Tryz.f31 := Tryz.func31
abbrev F.law9_one : Nat := 32
theorem G.law9_one : Tryz.prog.funcs[32]? = some Tryz.f32 := Tryz.func32
abbrev F.mk_Same_api_Pair : Nat := 33
theorem G.mk_Same_api_Pair : Tryz.prog.funcs[33]? = some Tryz.f33 := Tryz.func33
abbrev F.scene_Pairs : Nat := 34
theorem G.scene_Pairs : Tryz.prog.funcs[34]? = some Tryz.f34 := Tryz.func34
abbrev F.scene_Skipped : Nat := 35
theorem G.scene_Skipped : Tryz.prog.funcs[35]? = some Tryz.f35 := Tryz.func35
abbrev F.mk_SameRobot : Nat := 36
theorem G.mk_SameRobot : Tryz.prog.funcs[36]? = some Tryz.f36 := Tryz.func36
abbrev F.mk_Same_api_Skip : Nat := 37
theorem G.mk_Same_api_Skip : Tryz.prog.funcs[37]? = some Tryz.f37 := Tryz.func37
abbrev F.mk_Same_api_Vec : Nat := 38
theorem G.mk_Same_api_Vec : Tryz.prog.funcs[38]? = some Tryz.f38 := Tryz.func38
abbrev F.mk_joint : Nat := 39
theorem G.mk_joint : Tryz.prog.funcs[39]? = some Tryz.f39 := Tryz.func39
abbrev F.ref6_checkJoint : Nat := 40
theorem G.ref6_checkJoint : Tryz.prog.funcs[40]? = some Tryz.f40 := Tryz.func40
abbrev F.ref6_permitted : Nat := 41
theorem G.ref6_permitted : Tryz.prog.funcs[41]? = some Tryz.f41 := Tryz.func41
abbrev F.ref6_inWord : Nat := 42
theorem G.ref6_inWord : Tryz.prog.funcs[42]? = some Tryz.f42 := Tryz.func42
abbrev F.robot_Check : Nat := 43
theorem G.robot_Check : Tryz.prog.funcs[43]? = some Tryz.f43 := Tryz.func43
abbrev F.scene_checkShape : Nat := 44
theorem G.scene_checkShape : Tryz.prog.funcs[44]? = some Tryz.f44 := Tryz.func44
abbrev F.scene_isLink : Nat := 45
theorem G.scene_isLink : Tryz.prog.funcs[45]? = some Tryz.f45 := Tryz.func45
abbrev F.robot_Write_1 : Nat := 46
theorem G.robot_Write_1 : Tryz.prog.funcs[46]? = some Tryz.f46 := Tryz.func46
abbrev F.robot_linkName : Nat := 47
theorem G.robot_linkName : Tryz.prog.funcs[47]? = some Tryz.f47 := Tryz.func47
abbrev F.robot_texts : Nat := 48
theorem G.robot_texts : Tryz.prog.funcs[48]? = some Tryz.f48 := Tryz.func48
abbrev F.robot_decimal : Nat := 49
theorem G.robot_decimal : Tryz.prog.funcs[49]? = some Tryz.f49 := Tryz.func49
abbrev F.strconv_FormatInt : Nat := 50
theorem G.strconv_FormatInt : Tryz.prog.funcs[50]? = some Tryz.f50 := Tryz.func50
abbrev F.strings_TrimRight : Nat := 51
theorem G.strings_TrimRight : Tryz.prog.funcs[51]? = some Tryz.f51 := Tryz.func51
abbrev F.robot_reader_statement : Nat := 52
theorem G.robot_reader_statement : Tryz.prog.funcs[52]? = some Tryz.f52 := Tryz.func52
abbrev F.syntax_Arguments : Nat := 53
theorem G.syntax_Arguments : Tryz.prog.funcs[53]? = some Tryz.f53 := Tryz.func53
abbrev F.scene_addShape : Nat := 54
theorem G.scene_addShape : Tryz.prog.funcs[54]? = some Tryz.f54 := Tryz.func54
abbrev F.scene_addSkip : Nat := 55
theorem G.scene_addSkip : Tryz.prog.funcs[55]? = some Tryz.f55 := Tryz.func55
abbrev F.scene_carriers : Nat := 56
theorem G.scene_carriers : Tryz.prog.funcs[56]? = some Tryz.f56 := Tryz.func56
abbrev F.mk_Same_api_Joint : Nat := 57
theorem G.mk_Same_api_Joint : Tryz.prog.funcs[57]? = some Tryz.f57 := Tryz.func57
abbrev F.mk_Same_api_Mass : Nat := 58
theorem G.mk_Same_api_Mass : Tryz.prog.funcs[58]? = some Tryz.f58 := Tryz.func58
abbrev F.mk_letter : Nat := 59
theorem G.mk_letter : Tryz.prog.funcs[59]? = some Tryz.f59 := Tryz.func59
abbrev F.ref6_Name : Nat := 60
theorem G.ref6_Name : Tryz.prog.funcs[60]? = some Tryz.f60 := Tryz.func60
abbrev F.ref6_reach : Nat := 61
theorem G.ref6_reach : Tryz.prog.funcs[61]? = some Tryz.f61 := Tryz.func61
abbrev F.robot_checkJoint : Nat := 62
theorem G.robot_checkJoint : Tryz.prog.funcs[62]? = some Tryz.f62 := Tryz.func62
abbrev F.slices_ContainsFunc_sapi_Mass_api_Mass : Nat := 63
theorem G.slices_ContainsFunc_sapi_Mass_api_Mass : Tryz.prog.funcs[63]? = some Tryz.f63 := Tryz.func63
abbrev F.robot_Check_1 : Nat := 64
theorem G.robot_Check_1 : Tryz.prog.funcs[64]? = some Tryz.f64 := Tryz.func64
abbrev F.robot_validMass : Nat := 65
theorem G.robot_validMass : Tryz.prog.funcs[65]? = some Tryz.f65 := Tryz.func65
abbrev F.internal_strconv_FormatInt : Nat := 66
theorem G.internal_strconv_FormatInt : Tryz.prog.funcs[66]? = some Tryz.f66 := Tryz.func66
abbrev F.strings_trimRightByte : Nat := 67
theorem G.strings_trimRightByte : Tryz.prog.funcs[67]? = some Tryz.f67 := Tryz.func67
abbrev F.strings_makeASCIISet : Nat := 68
theorem G.strings_makeASCIISet : Tryz.prog.funcs[68]? = some Tryz.f68 := Tryz.func68
abbrev F.strings_trimRightASCII : Nat := 69
theorem G.strings_trimRightASCII : Tryz.prog.funcs[69]? = some Tryz.f69 := Tryz.func69
abbrev F.strings_trimRightUnicode : Nat := 70
theorem G.strings_trimRightUnicode : Tryz.prog.funcs[70]? = some Tryz.f70 := Tryz.func70
abbrev F.robot_reader_joint : Nat := 71
theorem G.robot_reader_joint : Tryz.prog.funcs[71]? = some Tryz.f71 := Tryz.func71
abbrev F.robot_reader_limit : Nat := 72
theorem G.robot_reader_limit : Tryz.prog.funcs[72]? = some Tryz.f72 := Tryz.func72
abbrev F.robot_reader_mass : Nat := 73
theorem G.robot_reader_mass : Tryz.prog.funcs[73]? = some Tryz.f73 := Tryz.func73
abbrev F.syntax_table : Nat := 74
theorem G.syntax_table : Tryz.prog.funcs[74]? = some Tryz.f74 := Tryz.func74
abbrev F.syntax_counts_allow : Nat := 75
theorem G.syntax_counts_allow : Tryz.prog.funcs[75]? = some Tryz.f75 := Tryz.func75
abbrev F.scene_findLink : Nat := 76
theorem G.scene_findLink : Tryz.prog.funcs[76]? = some Tryz.f76 := Tryz.func76
abbrev F.token_Number : Nat := 77
theorem G.token_Number : Tryz.prog.funcs[77]? = some Tryz.f77 := Tryz.func77
abbrev F.token_Name : Nat := 78
theorem G.token_Name : Tryz.prog.funcs[78]? = some Tryz.f78 := Tryz.func78
abbrev F.robot_Find : Nat := 79
theorem G.robot_Find : Tryz.prog.funcs[79]? = some Tryz.f79 := Tryz.func79
abbrev F.robot_beyond : Nat := 80
theorem G.robot_beyond : Tryz.prog.funcs[80]? = some Tryz.f80 := Tryz.func80
abbrev F.robot_limit : Nat := 81
theorem G.robot_limit : Tryz.prog.funcs[81]? = some Tryz.f81 := Tryz.func81
abbrev F.robot_from1 : Nat := 82
theorem G.robot_from1 : Tryz.prog.funcs[82]? = some Tryz.f82 := Tryz.func82
abbrev F.slices_IndexFunc_sapi_Mass_api_Mass : Nat := 83
theorem G.slices_IndexFunc_sapi_Mass_api_Mass : Tryz.prog.funcs[83]? = some Tryz.f83 := Tryz.func83
abbrev F.internal_strconv_small : Nat := 84
theorem G.internal_strconv_small : Tryz.prog.funcs[84]? = some Tryz.f84 := Tryz.func84
abbrev F.internal_strconv_numDigits : Nat := 85
theorem G.internal_strconv_numDigits : Tryz.prog.funcs[85]? = some Tryz.f85 := Tryz.func85
abbrev F.internal_strconv_formatBase10 : Nat := 86
theorem G.internal_strconv_formatBase10 : Tryz.prog.funcs[86]? = some Tryz.f86 := Tryz.func86
abbrev F.internal_strconv_formatBits : Nat := 87
theorem G.internal_strconv_formatBits : Tryz.prog.funcs[87]? = some Tryz.f87 := Tryz.func87
abbrev F.strings_asciiSet_contains : Nat := 88
theorem G.strings_asciiSet_contains : Tryz.prog.funcs[88]? = some Tryz.f88 := Tryz.func88
abbrev F.unicode_utf8_DecodeLastRuneInString : Nat := 89
theorem G.unicode_utf8_DecodeLastRuneInString : Tryz.prog.funcs[89]? = some Tryz.f89 := Tryz.func89
abbrev F.strings_ContainsRune : Nat := 90
theorem G.strings_ContainsRune : Tryz.prog.funcs[90]? = some Tryz.f90 := Tryz.func90
abbrev F.robot_kindOf : Nat := 91
theorem G.robot_kindOf : Tryz.prog.funcs[91]? = some Tryz.f91 := Tryz.func91
abbrev F.robot_numbers : Nat := 92
theorem G.robot_numbers : Tryz.prog.funcs[92]? = some Tryz.f92 := Tryz.func92
abbrev F.token_Integer : Nat := 93
theorem G.token_Integer : Tryz.prog.funcs[93]? = some Tryz.f93 := Tryz.func93
abbrev F.strings_CutPrefix : Nat := 94
theorem G.strings_CutPrefix : Tryz.prog.funcs[94]? = some Tryz.f94 := Tryz.func94
abbrev F.strings_Cut : Nat := 95
theorem G.strings_Cut : Tryz.prog.funcs[95]? = some Tryz.f95 := Tryz.func95
abbrev F.token_digits : Nat := 96
theorem G.token_digits : Tryz.prog.funcs[96]? = some Tryz.f96 := Tryz.func96
abbrev F.token_signed : Nat := 97
theorem G.token_signed : Tryz.prog.funcs[97]? = some Tryz.f97 := Tryz.func97
abbrev F.token_isLetter : Nat := 98
theorem G.token_isLetter : Tryz.prog.funcs[98]? = some Tryz.f98 := Tryz.func98
abbrev F.token_isDigit : Nat := 99
theorem G.token_isDigit : Tryz.prog.funcs[99]? = some Tryz.f99 := Tryz.func99
abbrev F.internal_strconv_log10Pow2 : Nat := 100
theorem G.internal_strconv_log10Pow2 : Tryz.prog.funcs[100]? = some Tryz.f100 := Tryz.func100
abbrev F.math_bits_Len64 : Nat := 101
theorem G.math_bits_Len64 : Tryz.prog.funcs[101]? = some Tryz.f101 := Tryz.func101
abbrev F.internal_strconv_bool2_int : Nat := 102
theorem G.internal_strconv_bool2_int : Tryz.prog.funcs[102]? = some Tryz.f102 := Tryz.func102
abbrev F.internal_strconv_isPowerOfTwo : Nat := 103
theorem G.internal_strconv_isPowerOfTwo : Tryz.prog.funcs[103]? = some Tryz.f103 := Tryz.func103
abbrev F.math_bits_TrailingZeros : Nat := 104
theorem G.math_bits_TrailingZeros : Tryz.prog.funcs[104]? = some Tryz.f104 := Tryz.func104
abbrev F.unicode_utf8_RuneStart : Nat := 105
theorem G.unicode_utf8_RuneStart : Tryz.prog.funcs[105]? = some Tryz.f105 := Tryz.func105
abbrev F.unicode_utf8_DecodeRuneInString : Nat := 106
theorem G.unicode_utf8_DecodeRuneInString : Tryz.prog.funcs[106]? = some Tryz.f106 := Tryz.func106
abbrev F.strings_IndexRune : Nat := 107
theorem G.strings_IndexRune : Tryz.prog.funcs[107]? = some Tryz.f107 := Tryz.func107
abbrev F.internal_stringslite_CutPrefix : Nat := 108
theorem G.internal_stringslite_CutPrefix : Tryz.prog.funcs[108]? = some Tryz.f108 := Tryz.func108
abbrev F.internal_stringslite_Cut : Nat := 109
theorem G.internal_stringslite_Cut : Tryz.prog.funcs[109]? = some Tryz.f109 := Tryz.func109
abbrev F.math_bits_TrailingZeros32 : Nat := 110
theorem G.math_bits_TrailingZeros32 : Tryz.prog.funcs[110]? = some Tryz.f110 := Tryz.func110
abbrev F.math_bits_TrailingZeros64 : Nat := 111
theorem G.math_bits_TrailingZeros64 : Tryz.prog.funcs[111]? = some Tryz.f111 := Tryz.func111
abbrev F.unicode_utf8_decodeRuneInStringSlow : Nat := 112
theorem G.unicode_utf8_decodeRuneInStringSlow : Tryz.prog.funcs[112]? = some Tryz.f112 := Tryz.func112
abbrev F.strings_IndexByte : Nat := 113
theorem G.strings_IndexByte : Tryz.prog.funcs[113]? = some Tryz.f113 := Tryz.func113
abbrev F.unicode_utf8_ValidRune : Nat := 114
theorem G.unicode_utf8_ValidRune : Tryz.prog.funcs[114]? = some Tryz.f114 := Tryz.func114
abbrev F.internal_bytealg_Cutover : Nat := 115
theorem G.internal_bytealg_Cutover : Tryz.prog.funcs[115]? = some Tryz.f115 := Tryz.func115
abbrev F.internal_bytealg_IndexString : Nat := 116
theorem G.internal_bytealg_IndexString : Tryz.prog.funcs[116]? = some Tryz.f116 := Tryz.func116
abbrev F.internal_stringslite_HasPrefix : Nat := 117
theorem G.internal_stringslite_HasPrefix : Tryz.prog.funcs[117]? = some Tryz.f117 := Tryz.func117
abbrev F.internal_stringslite_Index : Nat := 118
theorem G.internal_stringslite_Index : Tryz.prog.funcs[118]? = some Tryz.f118 := Tryz.func118
abbrev F.internal_stringslite_IndexByte : Nat := 119
theorem G.internal_stringslite_IndexByte : Tryz.prog.funcs[119]? = some Tryz.f119 := Tryz.func119
abbrev F.internal_bytealg_IndexRabinKarp_string : Nat := 120
theorem G.internal_bytealg_IndexRabinKarp_string : Tryz.prog.funcs[120]? = some Tryz.f120 := Tryz.func120
abbrev F.internal_bytealg_IndexByteString : Nat := 121
theorem G.internal_bytealg_IndexByteString : Tryz.prog.funcs[121]? = some Tryz.f121 := Tryz.func121
abbrev F.internal_bytealg_hashStr_string : Nat := 122
theorem G.internal_bytealg_hashStr_string : Tryz.prog.funcs[122]? = some Tryz.f122 := Tryz.func122
abbrev F.runtime_boundsError_Error : Nat := 123
theorem G.runtime_boundsError_Error : Tryz.prog.funcs[123]? = some Tryz.f123 := Tryz.func123
abbrev F.runtime_boundsError_RuntimeError : Nat := 124
theorem G.runtime_boundsError_RuntimeError : Tryz.prog.funcs[124]? = some Tryz.f124 := Tryz.func124
abbrev F.runtime_errorString_Error : Nat := 125
theorem G.runtime_errorString_Error : Tryz.prog.funcs[125]? = some Tryz.f125 := Tryz.func125
abbrev F.runtime_errorString_RuntimeError : Nat := 126
theorem G.runtime_errorString_RuntimeError : Tryz.prog.funcs[126]? = some Tryz.f126 := Tryz.func126
abbrev F.runtime_plainError_Error : Nat := 127
theorem G.runtime_plainError_Error : Tryz.prog.funcs[127]? = some Tryz.f127 := Tryz.func127
abbrev F.runtime_plainError_RuntimeError : Nat := 128
theorem G.runtime_plainError_RuntimeError : Tryz.prog.funcs[128]? = some Tryz.f128 := Tryz.func128
abbrev F.runtime_errorAddressString_Error : Nat := 129
theorem G.runtime_errorAddressString_Error : Tryz.prog.funcs[129]? = some Tryz.f129 := Tryz.func129
abbrev F.runtime_errorAddressString_RuntimeError : Nat := 130
theorem G.runtime_errorAddressString_RuntimeError : Tryz.prog.funcs[130]? = some Tryz.f130 := Tryz.func130
abbrev F.runtime_TypeAssertionError_Error : Nat := 131
theorem G.runtime_TypeAssertionError_Error : Tryz.prog.funcs[131]? = some Tryz.f131 := Tryz.func131
abbrev F.runtime_TypeAssertionError_RuntimeError : Nat := 132
theorem G.runtime_TypeAssertionError_RuntimeError : Tryz.prog.funcs[132]? = some Tryz.f132 := Tryz.func132
abbrev F.runtime_PanicNilError_Error : Nat := 133
theorem G.runtime_PanicNilError_Error : Tryz.prog.funcs[133]? = some Tryz.f133 := Tryz.func133
abbrev F.runtime_PanicNilError_RuntimeError : Nat := 134
theorem G.runtime_PanicNilError_RuntimeError : Tryz.prog.funcs[134]? = some Tryz.f134 := Tryz.func134
abbrev F.internal_abi_Type_Align : Nat := 135
theorem G.internal_abi_Type_Align : Tryz.prog.funcs[135]? = some Tryz.f135 := Tryz.func135
abbrev F.internal_runtime_maps_unhashableTypeError_Error : Nat := 136
theorem G.internal_runtime_maps_unhashableTypeError_Error : Tryz.prog.funcs[136]? = some Tryz.f136 := Tryz.func136
abbrev F.internal_runtime_maps_unhashableTypeError_RuntimeError : Nat := 137
theorem G.internal_runtime_maps_unhashableTypeError_RuntimeError : Tryz.prog.funcs[137]? = some Tryz.f137 := Tryz.func137
abbrev F.internal_abi_Kind_String : Nat := 138
theorem G.internal_abi_Kind_String : Tryz.prog.funcs[138]? = some Tryz.f138 := Tryz.func138
abbrev F.var_s_door_robot_kindNames_is_laid_by_its_own_initialiser_plain_data_look_11 : Nat := 139
theorem G.var_s_door_robot_kindNames_is_laid_by_its_own_initialiser_plain_data_look_11 : Tryz.prog.funcs[139]? = some Tryz.f139 := Tryz.func139
abbrev F.var_s_door_gosem_cut_vars_holds_initialisers_alone_see_the_manifest_s_row_cutvarsword_look_11_test_files_too : Nat := 140
theorem G.var_s_door_gosem_cut_vars_holds_initialisers_alone_see_the_manifest_s_row_cutvarsword_look_11_test_files_too : Tryz.prog.funcs[140]? = some Tryz.f140 := Tryz.func140
abbrev F.var_s_door_internal_strconv_uint64pow10_is_laid_by_its_own_initialiser_plain_data_look_11 : Nat := 141
theorem G.var_s_door_internal_strconv_uint64pow10_is_laid_by_its_own_initialiser_plain_data_look_11 : Tryz.prog.funcs[141]? = some Tryz.f141 := Tryz.func141
abbrev F.var_s_door_math_bits_deBruijn32tab_is_laid_by_its_own_initialiser_plain_data_look_11 : Nat := 142
theorem G.var_s_door_math_bits_deBruijn32tab_is_laid_by_its_own_initialiser_plain_data_look_11 : Tryz.prog.funcs[142]? = some Tryz.f142 := Tryz.func142
abbrev F.var_s_door_math_bits_deBruijn64tab_is_laid_by_its_own_initialiser_plain_data_look_11 : Nat := 143
theorem G.var_s_door_math_bits_deBruijn64tab_is_laid_by_its_own_initialiser_plain_data_look_11 : Tryz.prog.funcs[143]? = some Tryz.f143 := Tryz.func143
abbrev F.var_s_door_the_look_of_gosem_cut_vars_went_over_the_folder_that_the_caller_named_as_the_repository_s_root_look_11 : Nat := 144
theorem G.var_s_door_the_look_of_gosem_cut_vars_went_over_the_folder_that_the_caller_named_as_the_repository_s_root_look_11 : Tryz.prog.funcs[144]? = some Tryz.f144 := Tryz.func144
abbrev F.var_s_door_unicode_utf8_acceptRanges_is_laid_by_its_own_initialiser_plain_data_look_11 : Nat := 145
theorem G.var_s_door_unicode_utf8_acceptRanges_is_laid_by_its_own_initialiser_plain_data_look_11 : Tryz.prog.funcs[145]? = some Tryz.f145 := Tryz.func145
abbrev F.var_s_door_unicode_utf8_first_is_laid_by_its_text_alone_pinned_1 : Nat := 146
theorem G.var_s_door_unicode_utf8_first_is_laid_by_its_text_alone_pinned_1 : Tryz.prog.funcs[146]? = some Tryz.f146 := Tryz.func146
abbrev F.gosem_cut_vars : Nat := 147
theorem G.gosem_cut_vars : Tryz.prog.funcs[147]? = some Tryz.f147 := Tryz.func147
abbrev Y.Errno : Nat := 33
abbrev Y.Joint : Nat := 96
abbrev Y.Mass : Nat := 99
abbrev Y.Pair : Nat := 86
abbrev Y.Robot : Nat := 26
abbrev Y.Scene : Nat := 30
abbrev Y.Shape : Nat := 56
abbrev Y.Skip : Nat := 59
abbrev Y.SourceError : Nat := 37
abbrev Y.Statement : Nat := 74
abbrev Y.Vec : Nat := 54
abbrev Y.Word : Nat := 71
abbrev Y.a0_ptr_runtime_PanicNilError : Nat := 191
abbrev Y.a16_utf8_acceptRange : Nat := 185
abbrev Y.a20_uint64 : Nat := 170
abbrev Y.a24_uint8 : Nat := 148
abbrev Y.a256_bool : Nat := 126
abbrev Y.a256_uint8 : Nat := 182
abbrev Y.a32_uint8 : Nat := 180
abbrev Y.a3_int64 : Nat := 53
abbrev Y.a4_int64 : Nat := 62
abbrev Y.a5_int64 : Nat := 61
abbrev Y.a64_uint8 : Nat := 181
abbrev Y.a65_uint8 : Nat := 172
abbrev Y.a7_string : Nat := 105
abbrev Y.a8_int : Nat := 119
abbrev Y.abi_BoundsErrorCode : Nat := 6
abbrev Y.abi_Kind : Nat := 196
abbrev Y.abi_NameOff : Nat := 199
abbrev Y.abi_TFlag : Nat := 195
abbrev Y.abi_Type : Nat := 202
abbrev Y.abi_TypeOff : Nat := 200
abbrev Y.bool : Nat := 4
abbrev Y.int : Nat := 3
abbrev Y.int32 : Nat := 21
abbrev Y.int64 : Nat := 2
abbrev Y.interface : Nat := 20
abbrev Y.map_string_int : Nat := 110
abbrev Y.map_string_syntax_counts : Nat := 137
abbrev Y.maps_unhashableTypeError : Nat := 19
abbrev Y.mk_Source : Nat := 94
abbrev Y.ptr_Joint : Nat := 161
abbrev Y.ptr_Scene : Nat := 83
abbrev Y.ptr_abi_Type : Nat := 17
abbrev Y.ptr_mk_Source : Nat := 47
abbrev Y.ptr_robot_reader : Nat := 132
abbrev Y.ptr_runtime_PanicNilError : Nat := 16
abbrev Y.ptr_runtime_TypeAssertionError : Nat := 15
abbrev Y.ptr_strings_asciiSet : Nat := 131
abbrev Y.ptr_uint8 : Nat := 198
abbrev Y.robot_reader : Nat := 112
abbrev Y.runtime_PanicNilError : Nat := 193
abbrev Y.runtime_TypeAssertionError : Nat := 190
abbrev Y.runtime_boundsError : Nat := 8
abbrev Y.runtime_errorAddressString : Nat := 14
abbrev Y.runtime_errorString : Nat := 10
abbrev Y.runtime_plainError : Nat := 11
abbrev Y.s_Joint : Nat := 23
abbrev Y.s_Mass : Nat := 24
abbrev Y.s_Pair : Nat := 87
abbrev Y.s_Shape : Nat := 27
abbrev Y.s_Skip : Nat := 28
abbrev Y.s_Statement : Nat := 35
abbrev Y.s_Vec : Nat := 51
abbrev Y.s_Word : Nat := 67
abbrev Y.s_int : Nat := 22
abbrev Y.s_int64 : Nat := 124
abbrev Y.s_string : Nat := 72
abbrev Y.s_uint8 : Nat := 152
abbrev Y.string : Nat := 9
abbrev Y.strings_asciiSet : Nat := 127
abbrev Y.syntax_counts : Nat := 135
abbrev Y.uint : Nat := 173
abbrev Y.uint32 : Nat := 171
abbrev Y.uint64 : Nat := 149
abbrev Y.uint8 : Nat := 5
abbrev Y.uintptr : Nat := 12
abbrev Y.unsafe_Pointer : Nat := 203
abbrev Y.utf8_acceptRange : Nat := 184
end Go.Proofs.YtafglmjadbplcaaGreatDoor
