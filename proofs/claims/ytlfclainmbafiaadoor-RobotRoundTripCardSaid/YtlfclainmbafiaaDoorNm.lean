/- Names for the functions and types of this seat. Printed by a program. -/
import Derived.Test.YtlfclainmbafiaaDoorTy
import Derived.Test.YtlfclainmbafiaaDoorRows
namespace Go.Proofs.YtlfclainmbafiaaDoor
abbrev F.main_main : Nat := 0
theorem G.main_main : Tryd.prog.funcs[0]? = some Tryd.f0 := Tryd.func0
abbrev F.gosem_cut : Nat := 1
theorem G.gosem_cut : Tryd.prog.funcs[1]? = some Tryd.f1 := Tryd.func1
abbrev F.gosem_cut_init : Nat := 2
theorem G.gosem_cut_init : Tryd.prog.funcs[2]? = some Tryd.f2 := Tryd.func2
abbrev F.law8_RobotChecks : Nat := 3
theorem G.law8_RobotChecks : Tryd.prog.funcs[3]? = some Tryd.f3 := Tryd.func3
abbrev F.law8_RobotReads : Nat := 4
theorem G.law8_RobotReads : Tryd.prog.funcs[4]? = some Tryd.f4 := Tryd.func4
abbrev F.law8_RobotChainSteps : Nat := 5
theorem G.law8_RobotChainSteps : Tryd.prog.funcs[5]? = some Tryd.f5 := Tryd.func5
abbrev F.law8_RobotBetween : Nat := 6
theorem G.law8_RobotBetween : Tryd.prog.funcs[6]? = some Tryd.f6 := Tryd.func6
abbrev F.law8_RobotChains : Nat := 7
theorem G.law8_RobotChains : Tryd.prog.funcs[7]? = some Tryd.f7 := Tryd.func7
abbrev F.law8_RobotRoundTrip : Nat := 8
theorem G.law8_RobotRoundTrip : Tryd.prog.funcs[8]? = some Tryd.f8 := Tryd.func8
abbrev F.mk_Robot : Nat := 9
theorem G.mk_Robot : Tryd.prog.funcs[9]? = some Tryd.f9 := Tryd.func9
abbrev F.law8_changed : Nat := 10
theorem G.law8_changed : Tryd.prog.funcs[10]? = some Tryd.f10 := Tryd.func10
abbrev F.law8_awake : Nat := 11
theorem G.law8_awake : Tryd.prog.funcs[11]? = some Tryd.f11 := Tryd.func11
abbrev F.robot_Check : Nat := 12
theorem G.robot_Check : Tryd.prog.funcs[12]? = some Tryd.f12 := Tryd.func12
abbrev F.ref6_CheckRobot : Nat := 13
theorem G.ref6_CheckRobot : Tryd.prog.funcs[13]? = some Tryd.f13 := Tryd.func13
abbrev F.ref6_WriteScene : Nat := 14
theorem G.ref6_WriteScene : Tryd.prog.funcs[14]? = some Tryd.f14 := Tryd.func14
abbrev F.mk_Scene : Nat := 15
theorem G.mk_Scene : Tryd.prog.funcs[15]? = some Tryd.f15 := Tryd.func15
abbrev F.mk_Round : Nat := 16
theorem G.mk_Round : Tryd.prog.funcs[16]? = some Tryd.f16 := Tryd.func16
abbrev F.law8_reads : Nat := 17
theorem G.law8_reads : Tryd.prog.funcs[17]? = some Tryd.f17 := Tryd.func17
abbrev F.robot_Chain : Nat := 18
theorem G.robot_Chain : Tryd.prog.funcs[18]? = some Tryd.f18 := Tryd.func18
abbrev F.robot_Between : Nat := 19
theorem G.robot_Between : Tryd.prog.funcs[19]? = some Tryd.f19 := Tryd.func19
abbrev F.mk_Same_int : Nat := 20
theorem G.mk_Same_int : Tryd.prog.funcs[20]? = some Tryd.f20 := Tryd.func20
abbrev F.law8_member : Nat := 21
theorem G.law8_member : Tryd.prog.funcs[21]? = some Tryd.f21 := Tryd.func21
abbrev F.robot_Rigid : Nat := 22
theorem G.robot_Rigid : Tryd.prog.funcs[22]? = some Tryd.f22 := Tryd.func22
abbrev F.law8_chains : Nat := 23
theorem G.law8_chains : Tryd.prog.funcs[23]? = some Tryd.f23 := Tryd.func23
abbrev F.robot_Read : Nat := 24
theorem G.robot_Read : Tryd.prog.funcs[24]? = some Tryd.f24 := Tryd.func24
abbrev F.robot_Write : Nat := 25
theorem G.robot_Write : Tryd.prog.funcs[25]? = some Tryd.f25 := Tryd.func25
abbrev F.mk_SameRobot : Nat := 26
theorem G.mk_SameRobot : Tryd.prog.funcs[26]? = some Tryd.f26 := Tryd.func26
abbrev F.mk_robot : Nat := 27
theorem G.mk_robot : Tryd.prog.funcs[27]? = some Tryd.f27 := Tryd.func27
abbrev F.mk_From : Nat := 28
theorem G.mk_From : Tryd.prog.funcs[28]? = some Tryd.f28 := Tryd.func28
abbrev F.ref6_Decimal : Nat := 29
theorem G.ref6_Decimal : Tryd.prog.funcs[29]? = some Tryd.f29 := Tryd.func29
abbrev F.law8_one : Nat := 30
theorem G.law8_one : Tryd.prog.funcs[30]? = some Tryd.f30 := Tryd.func30
abbrev F.robot_Find : Nat := 31
theorem G.robot_Find : Tryd.prog.funcs[31]? = some Tryd.f31 := Tryd.func31
abbrev F.robot_checkJoint : Nat := 32
theorem G.robot_checkJoint : Tryd.prog.funcs[32]? = some Tryd.f32 := Tryd.func32
abbrev F.slices_ContainsFunc_sapi_Mass_api_Mass : Nat := 33
theorem G.slices_ContainsFunc_sapi_Mass_api_Mass : Tryd.prog.funcs[33]? = some Tryd.f33 := Tryd.func33
abbrev F.robot_Check_1 : Nat := 34
theorem G.robot_Check_1 : Tryd.prog.funcs[34]? = some Tryd.f34 := Tryd.func34
abbrev F.robot_validMass : Nat := 35
theorem G.robot_validMass : Tryd.prog.funcs[35]? = some Tryd.f35 := Tryd.func35
abbrev F.ref6_checkJoint : Nat := 36
theorem G.ref6_checkJoint : Tryd.prog.funcs[36]? = some Tryd.f36 := Tryd.func36
abbrev F.ref6_between : Nat := 37
theorem G.ref6_between : Tryd.prog.funcs[37]? = some Tryd.f37 := Tryd.func37
abbrev F.ref6_Near : Nat := 38
theorem G.ref6_Near : Tryd.prog.funcs[38]? = some Tryd.f38 := Tryd.func38
abbrev F.ref6_CheckScene : Nat := 39
theorem G.ref6_CheckScene : Tryd.prog.funcs[39]? = some Tryd.f39 := Tryd.func39
abbrev F.ref6_WriteRobot : Nat := 40
theorem G.ref6_WriteRobot : Tryd.prog.funcs[40]? = some Tryd.f40 := Tryd.func40
abbrev F.ref6_linkName : Nat := 41
theorem G.ref6_linkName : Tryd.prog.funcs[41]? = some Tryd.f41 := Tryd.func41
abbrev F.ref6_written : Nat := 42
theorem G.ref6_written : Tryd.prog.funcs[42]? = some Tryd.f42 := Tryd.func42
abbrev F.mk_Source_Next : Nat := 43
theorem G.mk_Source_Next : Tryd.prog.funcs[43]? = some Tryd.f43 := Tryd.func43
abbrev F.mk_points : Nat := 44
theorem G.mk_points : Tryd.prog.funcs[44]? = some Tryd.f44 := Tryd.func44
abbrev F.mk_Source_Signed : Nat := 45
theorem G.mk_Source_Signed : Tryd.prog.funcs[45]? = some Tryd.f45 := Tryd.func45
abbrev F.ref6_ReadRobot : Nat := 46
theorem G.ref6_ReadRobot : Tryd.prog.funcs[46]? = some Tryd.f46 := Tryd.func46
abbrev F.robot_has : Nat := 47
theorem G.robot_has : Tryd.prog.funcs[47]? = some Tryd.f47 := Tryd.func47
abbrev F.robot_chain : Nat := 48
theorem G.robot_chain : Tryd.prog.funcs[48]? = some Tryd.f48 := Tryd.func48
abbrev F.robot_between : Nat := 49
theorem G.robot_between : Tryd.prog.funcs[49]? = some Tryd.f49 := Tryd.func49
abbrev F.slices_ContainsFunc_sint_int : Nat := 50
theorem G.slices_ContainsFunc_sint_int : Tryd.prog.funcs[50]? = some Tryd.f50 := Tryd.func50
abbrev F.robot_Rigid_1 : Nat := 51
theorem G.robot_Rigid_1 : Tryd.prog.funcs[51]? = some Tryd.f51 := Tryd.func51
abbrev F.ref6_Find : Nat := 52
theorem G.ref6_Find : Tryd.prog.funcs[52]? = some Tryd.f52 := Tryd.func52
abbrev F.ref6_Chain : Nat := 53
theorem G.ref6_Chain : Tryd.prog.funcs[53]? = some Tryd.f53 := Tryd.func53
abbrev F.ref6_Between : Nat := 54
theorem G.ref6_Between : Tryd.prog.funcs[54]? = some Tryd.f54 := Tryd.func54
abbrev F.ref6_Rigid : Nat := 55
theorem G.ref6_Rigid : Tryd.prog.funcs[55]? = some Tryd.f55 := Tryd.func55
abbrev F.robot_reader_statement : Nat := 56
theorem G.robot_reader_statement : Tryd.prog.funcs[56]? = some Tryd.f56 := Tryd.func56
abbrev F.robot_Write_1 : Nat := 57
theorem G.robot_Write_1 : Tryd.prog.funcs[57]? = some Tryd.f57 := Tryd.func57
abbrev F.robot_linkName : Nat := 58
theorem G.robot_linkName : Tryd.prog.funcs[58]? = some Tryd.f58 := Tryd.func58
abbrev F.robot_texts : Nat := 59
theorem G.robot_texts : Tryd.prog.funcs[59]? = some Tryd.f59 := Tryd.func59
abbrev F.robot_decimal : Nat := 60
theorem G.robot_decimal : Tryd.prog.funcs[60]? = some Tryd.f60 := Tryd.func60
abbrev F.mk_Same_api_Joint : Nat := 61
theorem G.mk_Same_api_Joint : Tryd.prog.funcs[61]? = some Tryd.f61 := Tryd.func61
abbrev F.mk_Same_api_Mass : Nat := 62
theorem G.mk_Same_api_Mass : Tryd.prog.funcs[62]? = some Tryd.f62 := Tryd.func62
abbrev F.mk_joint : Nat := 63
theorem G.mk_joint : Tryd.prog.funcs[63]? = some Tryd.f63 := Tryd.func63
abbrev F.token_Name : Nat := 64
theorem G.token_Name : Tryd.prog.funcs[64]? = some Tryd.f64 := Tryd.func64
abbrev F.robot_beyond : Nat := 65
theorem G.robot_beyond : Tryd.prog.funcs[65]? = some Tryd.f65 := Tryd.func65
abbrev F.robot_limit : Nat := 66
theorem G.robot_limit : Tryd.prog.funcs[66]? = some Tryd.f66 := Tryd.func66
abbrev F.robot_from1 : Nat := 67
theorem G.robot_from1 : Tryd.prog.funcs[67]? = some Tryd.f67 := Tryd.func67
abbrev F.slices_IndexFunc_sapi_Mass_api_Mass : Nat := 68
theorem G.slices_IndexFunc_sapi_Mass_api_Mass : Tryd.prog.funcs[68]? = some Tryd.f68 := Tryd.func68
abbrev F.ref6_Name : Nat := 69
theorem G.ref6_Name : Tryd.prog.funcs[69]? = some Tryd.f69 := Tryd.func69
abbrev F.ref6_reach : Nat := 70
theorem G.ref6_reach : Tryd.prog.funcs[70]? = some Tryd.f70 := Tryd.func70
abbrev F.ref6_isLink : Nat := 71
theorem G.ref6_isLink : Tryd.prog.funcs[71]? = some Tryd.f71 := Tryd.func71
abbrev F.ref6_kindName : Nat := 72
theorem G.ref6_kindName : Tryd.prog.funcs[72]? = some Tryd.f72 := Tryd.func72
abbrev F.ref6_Format : Nat := 73
theorem G.ref6_Format : Tryd.prog.funcs[73]? = some Tryd.f73 := Tryd.func73
abbrev F.ref6_Arguments : Nat := 74
theorem G.ref6_Arguments : Tryd.prog.funcs[74]? = some Tryd.f74 := Tryd.func74
abbrev F.ref6_readJoint : Nat := 75
theorem G.ref6_readJoint : Tryd.prog.funcs[75]? = some Tryd.f75 := Tryd.func75
abbrev F.ref6_Integer : Nat := 76
theorem G.ref6_Integer : Tryd.prog.funcs[76]? = some Tryd.f76 := Tryd.func76
abbrev F.ref6_numbers : Nat := 77
theorem G.ref6_numbers : Tryd.prog.funcs[77]? = some Tryd.f77 := Tryd.func77
abbrev F.slices_IndexFunc_sint_int : Nat := 78
theorem G.slices_IndexFunc_sint_int : Tryd.prog.funcs[78]? = some Tryd.f78 := Tryd.func78
abbrev F.ref6_member : Nat := 79
theorem G.ref6_member : Tryd.prog.funcs[79]? = some Tryd.f79 := Tryd.func79
abbrev F.robot_reader_joint : Nat := 80
theorem G.robot_reader_joint : Tryd.prog.funcs[80]? = some Tryd.f80 := Tryd.func80
abbrev F.robot_reader_limit : Nat := 81
theorem G.robot_reader_limit : Tryd.prog.funcs[81]? = some Tryd.f81 := Tryd.func81
abbrev F.robot_reader_mass : Nat := 82
theorem G.robot_reader_mass : Tryd.prog.funcs[82]? = some Tryd.f82 := Tryd.func82
abbrev F.syntax_Arguments : Nat := 83
theorem G.syntax_Arguments : Tryd.prog.funcs[83]? = some Tryd.f83 := Tryd.func83
abbrev F.token_Format : Nat := 84
theorem G.token_Format : Tryd.prog.funcs[84]? = some Tryd.f84 := Tryd.func84
abbrev F.strconv_FormatInt : Nat := 85
theorem G.strconv_FormatInt : Tryd.prog.funcs[85]? = some Tryd.f85 := Tryd.func85
abbrev F.mk_letter : Nat := 86
theorem G.mk_letter : Tryd.prog.funcs[86]? = some Tryd.f86 := Tryd.func86
abbrev F.token_isLetter : Nat := 87
theorem G.token_isLetter : Tryd.prog.funcs[87]? = some Tryd.f87 := Tryd.func87
abbrev F.token_isDigit : Nat := 88
theorem G.token_isDigit : Tryd.prog.funcs[88]? = some Tryd.f88 := Tryd.func88
abbrev F.ref6_kindOf : Nat := 89
theorem G.ref6_kindOf : Tryd.prog.funcs[89]? = some Tryd.f89 := Tryd.func89
abbrev F.ref6_sign : Nat := 90
theorem G.ref6_sign : Tryd.prog.funcs[90]? = some Tryd.f90 := Tryd.func90
abbrev F.ref6_digits : Nat := 91
theorem G.ref6_digits : Tryd.prog.funcs[91]? = some Tryd.f91 := Tryd.func91
abbrev F.ref6_Number : Nat := 92
theorem G.ref6_Number : Tryd.prog.funcs[92]? = some Tryd.f92 := Tryd.func92
abbrev F.robot_kindOf : Nat := 93
theorem G.robot_kindOf : Tryd.prog.funcs[93]? = some Tryd.f93 := Tryd.func93
abbrev F.robot_numbers : Nat := 94
theorem G.robot_numbers : Tryd.prog.funcs[94]? = some Tryd.f94 := Tryd.func94
abbrev F.token_Number : Nat := 95
theorem G.token_Number : Tryd.prog.funcs[95]? = some Tryd.f95 := Tryd.func95
abbrev F.token_Integer : Nat := 96
theorem G.token_Integer : Tryd.prog.funcs[96]? = some Tryd.f96 := Tryd.func96
abbrev F.syntax_table : Nat := 97
theorem G.syntax_table : Tryd.prog.funcs[97]? = some Tryd.f97 := Tryd.func97
abbrev F.syntax_counts_allow : Nat := 98
theorem G.syntax_counts_allow : Tryd.prog.funcs[98]? = some Tryd.f98 := Tryd.func98
abbrev F.strings_TrimRight : Nat := 99
theorem G.strings_TrimRight : Tryd.prog.funcs[99]? = some Tryd.f99 := Tryd.func99
abbrev F.internal_strconv_FormatInt : Nat := 100
theorem G.internal_strconv_FormatInt : Tryd.prog.funcs[100]? = some Tryd.f100 := Tryd.func100
abbrev F.strings_CutPrefix : Nat := 101
theorem G.strings_CutPrefix : Tryd.prog.funcs[101]? = some Tryd.f101 := Tryd.func101
abbrev F.strings_Cut : Nat := 102
theorem G.strings_Cut : Tryd.prog.funcs[102]? = some Tryd.f102 := Tryd.func102
abbrev F.token_digits : Nat := 103
theorem G.token_digits : Tryd.prog.funcs[103]? = some Tryd.f103 := Tryd.func103
abbrev F.token_signed : Nat := 104
theorem G.token_signed : Tryd.prog.funcs[104]? = some Tryd.f104 := Tryd.func104
abbrev F.strings_trimRightByte : Nat := 105
theorem G.strings_trimRightByte : Tryd.prog.funcs[105]? = some Tryd.f105 := Tryd.func105
abbrev F.strings_makeASCIISet : Nat := 106
theorem G.strings_makeASCIISet : Tryd.prog.funcs[106]? = some Tryd.f106 := Tryd.func106
abbrev F.strings_trimRightASCII : Nat := 107
theorem G.strings_trimRightASCII : Tryd.prog.funcs[107]? = some Tryd.f107 := Tryd.func107
abbrev F.strings_trimRightUnicode : Nat := 108
theorem G.strings_trimRightUnicode : Tryd.prog.funcs[108]? = some Tryd.f108 := Tryd.func108
abbrev F.internal_strconv_small : Nat := 109
theorem G.internal_strconv_small : Tryd.prog.funcs[109]? = some Tryd.f109 := Tryd.func109
abbrev F.internal_strconv_numDigits : Nat := 110
theorem G.internal_strconv_numDigits : Tryd.prog.funcs[110]? = some Tryd.f110 := Tryd.func110
abbrev F.internal_strconv_formatBase10 : Nat := 111
theorem G.internal_strconv_formatBase10 : Tryd.prog.funcs[111]? = some Tryd.f111 := Tryd.func111
abbrev F.internal_strconv_formatBits : Nat := 112
theorem G.internal_strconv_formatBits : Tryd.prog.funcs[112]? = some Tryd.f112 := Tryd.func112
abbrev F.internal_stringslite_CutPrefix : Nat := 113
theorem G.internal_stringslite_CutPrefix : Tryd.prog.funcs[113]? = some Tryd.f113 := Tryd.func113
abbrev F.internal_stringslite_Cut : Nat := 114
theorem G.internal_stringslite_Cut : Tryd.prog.funcs[114]? = some Tryd.f114 := Tryd.func114
abbrev F.strings_asciiSet_contains : Nat := 115
theorem G.strings_asciiSet_contains : Tryd.prog.funcs[115]? = some Tryd.f115 := Tryd.func115
abbrev F.unicode_utf8_DecodeLastRuneInString : Nat := 116
theorem G.unicode_utf8_DecodeLastRuneInString : Tryd.prog.funcs[116]? = some Tryd.f116 := Tryd.func116
abbrev F.strings_ContainsRune : Nat := 117
theorem G.strings_ContainsRune : Tryd.prog.funcs[117]? = some Tryd.f117 := Tryd.func117
abbrev F.internal_strconv_log10Pow2 : Nat := 118
theorem G.internal_strconv_log10Pow2 : Tryd.prog.funcs[118]? = some Tryd.f118 := Tryd.func118
abbrev F.math_bits_Len64 : Nat := 119
theorem G.math_bits_Len64 : Tryd.prog.funcs[119]? = some Tryd.f119 := Tryd.func119
abbrev F.internal_strconv_bool2_int : Nat := 120
theorem G.internal_strconv_bool2_int : Tryd.prog.funcs[120]? = some Tryd.f120 := Tryd.func120
abbrev F.internal_strconv_isPowerOfTwo : Nat := 121
theorem G.internal_strconv_isPowerOfTwo : Tryd.prog.funcs[121]? = some Tryd.f121 := Tryd.func121
abbrev F.math_bits_TrailingZeros : Nat := 122
theorem G.math_bits_TrailingZeros : Tryd.prog.funcs[122]? = some Tryd.f122 := Tryd.func122
abbrev F.internal_stringslite_HasPrefix : Nat := 123
theorem G.internal_stringslite_HasPrefix : Tryd.prog.funcs[123]? = some Tryd.f123 := Tryd.func123
abbrev F.internal_stringslite_Index : Nat := 124
theorem G.internal_stringslite_Index : Tryd.prog.funcs[124]? = some Tryd.f124 := Tryd.func124
abbrev F.unicode_utf8_RuneStart : Nat := 125
theorem G.unicode_utf8_RuneStart : Tryd.prog.funcs[125]? = some Tryd.f125 := Tryd.func125
abbrev F.unicode_utf8_DecodeRuneInString : Nat := 126
theorem G.unicode_utf8_DecodeRuneInString : Tryd.prog.funcs[126]? = some Tryd.f126 := Tryd.func126
abbrev F.strings_IndexRune : Nat := 127
theorem G.strings_IndexRune : Tryd.prog.funcs[127]? = some Tryd.f127 := Tryd.func127
abbrev F.math_bits_TrailingZeros32 : Nat := 128
theorem G.math_bits_TrailingZeros32 : Tryd.prog.funcs[128]? = some Tryd.f128 := Tryd.func128
abbrev F.math_bits_TrailingZeros64 : Nat := 129
theorem G.math_bits_TrailingZeros64 : Tryd.prog.funcs[129]? = some Tryd.f129 := Tryd.func129
abbrev F.internal_stringslite_IndexByte : Nat := 130
theorem G.internal_stringslite_IndexByte : Tryd.prog.funcs[130]? = some Tryd.f130 := Tryd.func130
abbrev F.internal_bytealg_IndexString : Nat := 131
theorem G.internal_bytealg_IndexString : Tryd.prog.funcs[131]? = some Tryd.f131 := Tryd.func131
abbrev F.internal_bytealg_Cutover : Nat := 132
theorem G.internal_bytealg_Cutover : Tryd.prog.funcs[132]? = some Tryd.f132 := Tryd.func132
abbrev F.internal_bytealg_IndexRabinKarp_string : Nat := 133
theorem G.internal_bytealg_IndexRabinKarp_string : Tryd.prog.funcs[133]? = some Tryd.f133 := Tryd.func133
abbrev F.unicode_utf8_decodeRuneInStringSlow : Nat := 134
theorem G.unicode_utf8_decodeRuneInStringSlow : Tryd.prog.funcs[134]? = some Tryd.f134 := Tryd.func134
abbrev F.strings_IndexByte : Nat := 135
theorem G.strings_IndexByte : Tryd.prog.funcs[135]? = some Tryd.f135 := Tryd.func135
abbrev F.unicode_utf8_ValidRune : Nat := 136
theorem G.unicode_utf8_ValidRune : Tryd.prog.funcs[136]? = some Tryd.f136 := Tryd.func136
abbrev F.internal_bytealg_IndexByteString : Nat := 137
theorem G.internal_bytealg_IndexByteString : Tryd.prog.funcs[137]? = some Tryd.f137 := Tryd.func137
abbrev F.internal_bytealg_hashStr_string : Nat := 138
theorem G.internal_bytealg_hashStr_string : Tryd.prog.funcs[138]? = some Tryd.f138 := Tryd.func138
abbrev F.runtime_boundsError_Error : Nat := 139
theorem G.runtime_boundsError_Error : Tryd.prog.funcs[139]? = some Tryd.f139 := Tryd.func139
abbrev F.runtime_boundsError_RuntimeError : Nat := 140
theorem G.runtime_boundsError_RuntimeError : Tryd.prog.funcs[140]? = some Tryd.f140 := Tryd.func140
abbrev F.runtime_errorString_Error : Nat := 141
theorem G.runtime_errorString_Error : Tryd.prog.funcs[141]? = some Tryd.f141 := Tryd.func141
abbrev F.runtime_errorString_RuntimeError : Nat := 142
theorem G.runtime_errorString_RuntimeError : Tryd.prog.funcs[142]? = some Tryd.f142 := Tryd.func142
abbrev F.runtime_plainError_Error : Nat := 143
theorem G.runtime_plainError_Error : Tryd.prog.funcs[143]? = some Tryd.f143 := Tryd.func143
abbrev F.runtime_plainError_RuntimeError : Nat := 144
theorem G.runtime_plainError_RuntimeError : Tryd.prog.funcs[144]? = some Tryd.f144 := Tryd.func144
abbrev F.runtime_errorAddressString_Error : Nat := 145
theorem G.runtime_errorAddressString_Error : Tryd.prog.funcs[145]? = some Tryd.f145 := Tryd.func145
abbrev F.runtime_errorAddressString_RuntimeError : Nat := 146
theorem G.runtime_errorAddressString_RuntimeError : Tryd.prog.funcs[146]? = some Tryd.f146 := Tryd.func146
abbrev F.runtime_TypeAssertionError_Error : Nat := 147
theorem G.runtime_TypeAssertionError_Error : Tryd.prog.funcs[147]? = some Tryd.f147 := Tryd.func147
abbrev F.runtime_TypeAssertionError_RuntimeError : Nat := 148
theorem G.runtime_TypeAssertionError_RuntimeError : Tryd.prog.funcs[148]? = some Tryd.f148 := Tryd.func148
abbrev F.runtime_PanicNilError_Error : Nat := 149
theorem G.runtime_PanicNilError_Error : Tryd.prog.funcs[149]? = some Tryd.f149 := Tryd.func149
abbrev F.runtime_PanicNilError_RuntimeError : Nat := 150
theorem G.runtime_PanicNilError_RuntimeError : Tryd.prog.funcs[150]? = some Tryd.f150 := Tryd.func150
abbrev F.internal_abi_Type_Align : Nat := 151
theorem G.internal_abi_Type_Align : Tryd.prog.funcs[151]? = some Tryd.f151 := Tryd.func151
abbrev F.internal_runtime_maps_unhashableTypeError_Error : Nat := 152
theorem G.internal_runtime_maps_unhashableTypeError_Error : Tryd.prog.funcs[152]? = some Tryd.f152 := Tryd.func152
abbrev F.internal_runtime_maps_unhashableTypeError_RuntimeError : Nat := 153
theorem G.internal_runtime_maps_unhashableTypeError_RuntimeError : Tryd.prog.funcs[153]? = some Tryd.f153 := Tryd.func153
abbrev F.internal_abi_Kind_String : Nat := 154
theorem G.internal_abi_Kind_String : Tryd.prog.funcs[154]? = some Tryd.f154 := Tryd.func154
abbrev F.var_s_door_robot_kindNames_is_laid_by_its_own_initialiser_plain_data_look_11 : Nat := 155
theorem G.var_s_door_robot_kindNames_is_laid_by_its_own_initialiser_plain_data_look_11 : Tryd.prog.funcs[155]? = some Tryd.f155 := Tryd.func155
abbrev F.var_s_door_gosem_cut_vars_holds_initialisers_alone_see_the_manifest_s_row_cutvarsword_look_11_test_files_too : Nat := 156
theorem G.var_s_door_gosem_cut_vars_holds_initialisers_alone_see_the_manifest_s_row_cutvarsword_look_11_test_files_too : Tryd.prog.funcs[156]? = some Tryd.f156 := Tryd.func156
abbrev F.var_s_door_internal_strconv_uint64pow10_is_laid_by_its_own_initialiser_plain_data_look_11 : Nat := 157
theorem G.var_s_door_internal_strconv_uint64pow10_is_laid_by_its_own_initialiser_plain_data_look_11 : Tryd.prog.funcs[157]? = some Tryd.f157 := Tryd.func157
abbrev F.var_s_door_math_bits_deBruijn32tab_is_laid_by_its_own_initialiser_plain_data_look_11 : Nat := 158
theorem G.var_s_door_math_bits_deBruijn32tab_is_laid_by_its_own_initialiser_plain_data_look_11 : Tryd.prog.funcs[158]? = some Tryd.f158 := Tryd.func158
abbrev F.var_s_door_math_bits_deBruijn64tab_is_laid_by_its_own_initialiser_plain_data_look_11 : Nat := 159
theorem G.var_s_door_math_bits_deBruijn64tab_is_laid_by_its_own_initialiser_plain_data_look_11 : Tryd.prog.funcs[159]? = some Tryd.f159 := Tryd.func159
abbrev F.var_s_door_the_look_of_gosem_cut_vars_went_over_the_folder_that_the_caller_named_as_the_repository_s_root_look_11 : Nat := 160
theorem G.var_s_door_the_look_of_gosem_cut_vars_went_over_the_folder_that_the_caller_named_as_the_repository_s_root_look_11 : Tryd.prog.funcs[160]? = some Tryd.f160 := Tryd.func160
abbrev F.var_s_door_unicode_utf8_acceptRanges_is_laid_by_its_own_initialiser_plain_data_look_11 : Nat := 161
theorem G.var_s_door_unicode_utf8_acceptRanges_is_laid_by_its_own_initialiser_plain_data_look_11 : Tryd.prog.funcs[161]? = some Tryd.f161 := Tryd.func161
abbrev F.var_s_door_unicode_utf8_first_is_laid_by_its_text_alone_pinned_1 : Nat := 162
theorem G.var_s_door_unicode_utf8_first_is_laid_by_its_text_alone_pinned_1 : Tryd.prog.funcs[162]? = some Tryd.f162 := Tryd.func162
abbrev F.gosem_cut_vars : Nat := 163
theorem G.gosem_cut_vars : Tryd.prog.funcs[163]? = some Tryd.f163 := Tryd.func163
abbrev Y.Errno : Nat := 30
abbrev Y.Joint : Nat := 51
abbrev Y.Mass : Nat := 74
abbrev Y.Robot : Nat := 25
abbrev Y.Scene : Nat := 38
abbrev Y.Shape : Nat := 88
abbrev Y.Skip : Nat := 92
abbrev Y.SourceError : Nat := 60
abbrev Y.Statement : Nat := 43
abbrev Y.Vec : Nat := 49
abbrev Y.a0_ptr_runtime_PanicNilError : Nat := 190
abbrev Y.a10_int : Nat := 125
abbrev Y.a12_string : Nat := 44
abbrev Y.a16_utf8_acceptRange : Nat := 186
abbrev Y.a20_uint64 : Nat := 169
abbrev Y.a24_uint8 : Nat := 157
abbrev Y.a256_bool : Nat := 151
abbrev Y.a256_uint8 : Nat := 183
abbrev Y.a32_uint8 : Nat := 179
abbrev Y.a3_int64 : Nat := 48
abbrev Y.a4_int64 : Nat := 72
abbrev Y.a5_int64 : Nat := 71
abbrev Y.a64_uint8 : Nat := 180
abbrev Y.a65_uint8 : Nat := 171
abbrev Y.a6_string : Nat := 70
abbrev Y.a7_string : Nat := 104
abbrev Y.a8_int : Nat := 129
abbrev Y.a9_int64 : Nat := 69
abbrev Y.abi_BoundsErrorCode : Nat := 6
abbrev Y.abi_Kind : Nat := 195
abbrev Y.abi_NameOff : Nat := 198
abbrev Y.abi_TFlag : Nat := 194
abbrev Y.abi_Type : Nat := 201
abbrev Y.abi_TypeOff : Nat := 199
abbrev Y.bool : Nat := 4
abbrev Y.int : Nat := 3
abbrev Y.int32 : Nat := 21
abbrev Y.int64 : Nat := 2
abbrev Y.interface : Nat := 20
abbrev Y.map_string_int : Nat := 99
abbrev Y.map_string_syntax_counts : Nat := 142
abbrev Y.maps_unhashableTypeError : Nat := 19
abbrev Y.mk_Source : Nat := 110
abbrev Y.ptr_Joint : Nat := 68
abbrev Y.ptr_abi_Type : Nat := 17
abbrev Y.ptr_mk_Source : Nat := 66
abbrev Y.ptr_robot_reader : Nat := 127
abbrev Y.ptr_runtime_PanicNilError : Nat := 16
abbrev Y.ptr_runtime_TypeAssertionError : Nat := 15
abbrev Y.ptr_strings_asciiSet : Nat := 156
abbrev Y.ptr_uint8 : Nat := 197
abbrev Y.robot_reader : Nat := 101
abbrev Y.runtime_PanicNilError : Nat := 192
abbrev Y.runtime_TypeAssertionError : Nat := 189
abbrev Y.runtime_boundsError : Nat := 8
abbrev Y.runtime_errorAddressString : Nat := 14
abbrev Y.runtime_errorString : Nat := 10
abbrev Y.runtime_plainError : Nat := 11
abbrev Y.s_Joint : Nat := 22
abbrev Y.s_Mass : Nat := 23
abbrev Y.s_Shape : Nat := 35
abbrev Y.s_Skip : Nat := 36
abbrev Y.s_Statement : Nat := 33
abbrev Y.s_Vec : Nat := 86
abbrev Y.s_int : Nat := 26
abbrev Y.s_int64 : Nat := 117
abbrev Y.s_string : Nat := 41
abbrev Y.s_uint8 : Nat := 161
abbrev Y.string : Nat := 9
abbrev Y.strings_asciiSet : Nat := 152
abbrev Y.syntax_counts : Nat := 140
abbrev Y.uint : Nat := 172
abbrev Y.uint32 : Nat := 170
abbrev Y.uint64 : Nat := 158
abbrev Y.uint8 : Nat := 5
abbrev Y.uintptr : Nat := 12
abbrev Y.unsafe_Pointer : Nat := 202
abbrev Y.utf8_acceptRange : Nat := 185
end Go.Proofs.YtlfclainmbafiaaDoor
