/- Names for the functions and types of this seat. Printed by a program. -/
import Derived.Test.YtafglmjadbplcaaDoorTy
import Derived.Test.YtafglmjadbplcaaDoorRows
namespace Go.Proofs.YtafglmjadbplcaaDoor
abbrev F.main_main : Nat := 0
theorem G.main_main : Tryd.prog.funcs[0]? = some Tryd.f0 := Tryd.func0
abbrev F.gosem_cut : Nat := 1
theorem G.gosem_cut : Tryd.prog.funcs[1]? = some Tryd.f1 := Tryd.func1
abbrev F.gosem_cut_init : Nat := 2
theorem G.gosem_cut_init : Tryd.prog.funcs[2]? = some Tryd.f2 := Tryd.func2
abbrev F.law9_SceneReads : Nat := 3
theorem G.law9_SceneReads : Tryd.prog.funcs[3]? = some Tryd.f3 := Tryd.func3
abbrev F.ref6_WriteScene : Nat := 4
theorem G.ref6_WriteScene : Tryd.prog.funcs[4]? = some Tryd.f4 := Tryd.func4
abbrev F.mk_Scene : Nat := 5
theorem G.mk_Scene : Tryd.prog.funcs[5]? = some Tryd.f5 := Tryd.func5
abbrev F.mk_Round : Nat := 6
theorem G.mk_Round : Tryd.prog.funcs[6]? = some Tryd.f6 := Tryd.func6
abbrev F.law9_awake : Nat := 7
theorem G.law9_awake : Tryd.prog.funcs[7]? = some Tryd.f7 := Tryd.func7
abbrev F.law9_reads : Nat := 8
theorem G.law9_reads : Tryd.prog.funcs[8]? = some Tryd.f8 := Tryd.func8
abbrev F.ref6_CheckScene : Nat := 9
theorem G.ref6_CheckScene : Tryd.prog.funcs[9]? = some Tryd.f9 := Tryd.func9
abbrev F.ref6_WriteRobot : Nat := 10
theorem G.ref6_WriteRobot : Tryd.prog.funcs[10]? = some Tryd.f10 := Tryd.func10
abbrev F.ref6_linkName : Nat := 11
theorem G.ref6_linkName : Tryd.prog.funcs[11]? = some Tryd.f11 := Tryd.func11
abbrev F.ref6_written : Nat := 12
theorem G.ref6_written : Tryd.prog.funcs[12]? = some Tryd.f12 := Tryd.func12
abbrev F.mk_From : Nat := 13
theorem G.mk_From : Tryd.prog.funcs[13]? = some Tryd.f13 := Tryd.func13
abbrev F.mk_robot : Nat := 14
theorem G.mk_robot : Tryd.prog.funcs[14]? = some Tryd.f14 := Tryd.func14
abbrev F.mk_Source_Next : Nat := 15
theorem G.mk_Source_Next : Tryd.prog.funcs[15]? = some Tryd.f15 := Tryd.func15
abbrev F.mk_points : Nat := 16
theorem G.mk_points : Tryd.prog.funcs[16]? = some Tryd.f16 := Tryd.func16
abbrev F.mk_Source_Signed : Nat := 17
theorem G.mk_Source_Signed : Tryd.prog.funcs[17]? = some Tryd.f17 := Tryd.func17
abbrev F.scene_Check : Nat := 18
theorem G.scene_Check : Tryd.prog.funcs[18]? = some Tryd.f18 := Tryd.func18
abbrev F.law9_one : Nat := 19
theorem G.law9_one : Tryd.prog.funcs[19]? = some Tryd.f19 := Tryd.func19
abbrev F.mk_Same_api_Pair : Nat := 20
theorem G.mk_Same_api_Pair : Tryd.prog.funcs[20]? = some Tryd.f20 := Tryd.func20
abbrev F.scene_Pairs : Nat := 21
theorem G.scene_Pairs : Tryd.prog.funcs[21]? = some Tryd.f21 := Tryd.func21
abbrev F.scene_Skipped : Nat := 22
theorem G.scene_Skipped : Tryd.prog.funcs[22]? = some Tryd.f22 := Tryd.func22
abbrev F.scene_Read : Nat := 23
theorem G.scene_Read : Tryd.prog.funcs[23]? = some Tryd.f23 := Tryd.func23
abbrev F.ref6_ReadScene : Nat := 24
theorem G.ref6_ReadScene : Tryd.prog.funcs[24]? = some Tryd.f24 := Tryd.func24
abbrev F.mk_SameScene : Nat := 25
theorem G.mk_SameScene : Tryd.prog.funcs[25]? = some Tryd.f25 := Tryd.func25
abbrev F.ref6_CheckRobot : Nat := 26
theorem G.ref6_CheckRobot : Tryd.prog.funcs[26]? = some Tryd.f26 := Tryd.func26
abbrev F.ref6_isLink : Nat := 27
theorem G.ref6_isLink : Tryd.prog.funcs[27]? = some Tryd.f27 := Tryd.func27
abbrev F.ref6_between : Nat := 28
theorem G.ref6_between : Tryd.prog.funcs[28]? = some Tryd.f28 := Tryd.func28
abbrev F.ref6_Near : Nat := 29
theorem G.ref6_Near : Tryd.prog.funcs[29]? = some Tryd.f29 := Tryd.func29
abbrev F.ref6_kindName : Nat := 30
theorem G.ref6_kindName : Tryd.prog.funcs[30]? = some Tryd.f30 := Tryd.func30
abbrev F.ref6_Decimal : Nat := 31
theorem G.ref6_Decimal : Tryd.prog.funcs[31]? = some Tryd.f31 := Tryd.func31
abbrev F.ref6_Format : Nat := 32
theorem G.ref6_Format : Tryd.prog.funcs[32]? = some Tryd.f32 := Tryd.func32
abbrev F.mk_joint : Nat := 33
theorem G.mk_joint : Tryd.prog.funcs[33]? = some Tryd.f33 := Tryd.func33
abbrev F.robot_Check : Nat := 34
theorem G.robot_Check : Tryd.prog.funcs[34]? = some Tryd.f34 := Tryd.func34
abbrev F.scene_checkShape : Nat := 35
theorem G.scene_checkShape : Tryd.prog.funcs[35]? = some Tryd.f35 := Tryd.func35
abbrev F.scene_isLink : Nat := 36
theorem G.scene_isLink : Tryd.prog.funcs[36]? = some Tryd.f36 := Tryd.func36
abbrev F.scene_carriers : Nat := 37
theorem G.scene_carriers : Tryd.prog.funcs[37]? = some Tryd.f37 := Tryd.func37
abbrev F.robot_Read : Nat := 38
theorem G.robot_Read : Tryd.prog.funcs[38]? = some Tryd.f38 := Tryd.func38
abbrev F.scene_add : Nat := 39
theorem G.scene_add : Tryd.prog.funcs[39]? = some Tryd.f39 := Tryd.func39
abbrev F.ref6_ReadRobot : Nat := 40
theorem G.ref6_ReadRobot : Tryd.prog.funcs[40]? = some Tryd.f40 := Tryd.func40
abbrev F.ref6_Arguments : Nat := 41
theorem G.ref6_Arguments : Tryd.prog.funcs[41]? = some Tryd.f41 := Tryd.func41
abbrev F.ref6_readLink : Nat := 42
theorem G.ref6_readLink : Tryd.prog.funcs[42]? = some Tryd.f42 := Tryd.func42
abbrev F.ref6_numbers : Nat := 43
theorem G.ref6_numbers : Tryd.prog.funcs[43]? = some Tryd.f43 := Tryd.func43
abbrev F.mk_SameRobot : Nat := 44
theorem G.mk_SameRobot : Tryd.prog.funcs[44]? = some Tryd.f44 := Tryd.func44
abbrev F.mk_Same_api_Skip : Nat := 45
theorem G.mk_Same_api_Skip : Tryd.prog.funcs[45]? = some Tryd.f45 := Tryd.func45
abbrev F.mk_Same_api_Vec : Nat := 46
theorem G.mk_Same_api_Vec : Tryd.prog.funcs[46]? = some Tryd.f46 := Tryd.func46
abbrev F.ref6_checkJoint : Nat := 47
theorem G.ref6_checkJoint : Tryd.prog.funcs[47]? = some Tryd.f47 := Tryd.func47
abbrev F.mk_letter : Nat := 48
theorem G.mk_letter : Tryd.prog.funcs[48]? = some Tryd.f48 := Tryd.func48
abbrev F.robot_checkJoint : Nat := 49
theorem G.robot_checkJoint : Tryd.prog.funcs[49]? = some Tryd.f49 := Tryd.func49
abbrev F.slices_ContainsFunc_sapi_Mass_api_Mass : Nat := 50
theorem G.slices_ContainsFunc_sapi_Mass_api_Mass : Tryd.prog.funcs[50]? = some Tryd.f50 := Tryd.func50
abbrev F.robot_Check_1 : Nat := 51
theorem G.robot_Check_1 : Tryd.prog.funcs[51]? = some Tryd.f51 := Tryd.func51
abbrev F.robot_validMass : Nat := 52
theorem G.robot_validMass : Tryd.prog.funcs[52]? = some Tryd.f52 := Tryd.func52
abbrev F.robot_reader_statement : Nat := 53
theorem G.robot_reader_statement : Tryd.prog.funcs[53]? = some Tryd.f53 := Tryd.func53
abbrev F.syntax_Arguments : Nat := 54
theorem G.syntax_Arguments : Tryd.prog.funcs[54]? = some Tryd.f54 := Tryd.func54
abbrev F.scene_addShape : Nat := 55
theorem G.scene_addShape : Tryd.prog.funcs[55]? = some Tryd.f55 := Tryd.func55
abbrev F.scene_addSkip : Nat := 56
theorem G.scene_addSkip : Tryd.prog.funcs[56]? = some Tryd.f56 := Tryd.func56
abbrev F.ref6_readJoint : Nat := 57
theorem G.ref6_readJoint : Tryd.prog.funcs[57]? = some Tryd.f57 := Tryd.func57
abbrev F.ref6_Find : Nat := 58
theorem G.ref6_Find : Tryd.prog.funcs[58]? = some Tryd.f58 := Tryd.func58
abbrev F.ref6_Integer : Nat := 59
theorem G.ref6_Integer : Tryd.prog.funcs[59]? = some Tryd.f59 := Tryd.func59
abbrev F.ref6_Number : Nat := 60
theorem G.ref6_Number : Tryd.prog.funcs[60]? = some Tryd.f60 := Tryd.func60
abbrev F.mk_Same_api_Joint : Nat := 61
theorem G.mk_Same_api_Joint : Tryd.prog.funcs[61]? = some Tryd.f61 := Tryd.func61
abbrev F.mk_Same_api_Mass : Nat := 62
theorem G.mk_Same_api_Mass : Tryd.prog.funcs[62]? = some Tryd.f62 := Tryd.func62
abbrev F.ref6_Name : Nat := 63
theorem G.ref6_Name : Tryd.prog.funcs[63]? = some Tryd.f63 := Tryd.func63
abbrev F.ref6_reach : Nat := 64
theorem G.ref6_reach : Tryd.prog.funcs[64]? = some Tryd.f64 := Tryd.func64
abbrev F.token_Name : Nat := 65
theorem G.token_Name : Tryd.prog.funcs[65]? = some Tryd.f65 := Tryd.func65
abbrev F.robot_Find : Nat := 66
theorem G.robot_Find : Tryd.prog.funcs[66]? = some Tryd.f66 := Tryd.func66
abbrev F.robot_beyond : Nat := 67
theorem G.robot_beyond : Tryd.prog.funcs[67]? = some Tryd.f67 := Tryd.func67
abbrev F.robot_limit : Nat := 68
theorem G.robot_limit : Tryd.prog.funcs[68]? = some Tryd.f68 := Tryd.func68
abbrev F.robot_from1 : Nat := 69
theorem G.robot_from1 : Tryd.prog.funcs[69]? = some Tryd.f69 := Tryd.func69
abbrev F.slices_IndexFunc_sapi_Mass_api_Mass : Nat := 70
theorem G.slices_IndexFunc_sapi_Mass_api_Mass : Tryd.prog.funcs[70]? = some Tryd.f70 := Tryd.func70
abbrev F.robot_reader_joint : Nat := 71
theorem G.robot_reader_joint : Tryd.prog.funcs[71]? = some Tryd.f71 := Tryd.func71
abbrev F.robot_reader_limit : Nat := 72
theorem G.robot_reader_limit : Tryd.prog.funcs[72]? = some Tryd.f72 := Tryd.func72
abbrev F.robot_reader_mass : Nat := 73
theorem G.robot_reader_mass : Tryd.prog.funcs[73]? = some Tryd.f73 := Tryd.func73
abbrev F.syntax_table : Nat := 74
theorem G.syntax_table : Tryd.prog.funcs[74]? = some Tryd.f74 := Tryd.func74
abbrev F.syntax_counts_allow : Nat := 75
theorem G.syntax_counts_allow : Tryd.prog.funcs[75]? = some Tryd.f75 := Tryd.func75
abbrev F.scene_findLink : Nat := 76
theorem G.scene_findLink : Tryd.prog.funcs[76]? = some Tryd.f76 := Tryd.func76
abbrev F.token_Number : Nat := 77
theorem G.token_Number : Tryd.prog.funcs[77]? = some Tryd.f77 := Tryd.func77
abbrev F.ref6_kindOf : Nat := 78
theorem G.ref6_kindOf : Tryd.prog.funcs[78]? = some Tryd.f78 := Tryd.func78
abbrev F.ref6_sign : Nat := 79
theorem G.ref6_sign : Tryd.prog.funcs[79]? = some Tryd.f79 := Tryd.func79
abbrev F.ref6_digits : Nat := 80
theorem G.ref6_digits : Tryd.prog.funcs[80]? = some Tryd.f80 := Tryd.func80
abbrev F.token_isLetter : Nat := 81
theorem G.token_isLetter : Tryd.prog.funcs[81]? = some Tryd.f81 := Tryd.func81
abbrev F.token_isDigit : Nat := 82
theorem G.token_isDigit : Tryd.prog.funcs[82]? = some Tryd.f82 := Tryd.func82
abbrev F.robot_kindOf : Nat := 83
theorem G.robot_kindOf : Tryd.prog.funcs[83]? = some Tryd.f83 := Tryd.func83
abbrev F.robot_numbers : Nat := 84
theorem G.robot_numbers : Tryd.prog.funcs[84]? = some Tryd.f84 := Tryd.func84
abbrev F.token_Integer : Nat := 85
theorem G.token_Integer : Tryd.prog.funcs[85]? = some Tryd.f85 := Tryd.func85
abbrev F.strings_CutPrefix : Nat := 86
theorem G.strings_CutPrefix : Tryd.prog.funcs[86]? = some Tryd.f86 := Tryd.func86
abbrev F.strings_Cut : Nat := 87
theorem G.strings_Cut : Tryd.prog.funcs[87]? = some Tryd.f87 := Tryd.func87
abbrev F.token_digits : Nat := 88
theorem G.token_digits : Tryd.prog.funcs[88]? = some Tryd.f88 := Tryd.func88
abbrev F.token_signed : Nat := 89
theorem G.token_signed : Tryd.prog.funcs[89]? = some Tryd.f89 := Tryd.func89
abbrev F.internal_stringslite_CutPrefix : Nat := 90
theorem G.internal_stringslite_CutPrefix : Tryd.prog.funcs[90]? = some Tryd.f90 := Tryd.func90
abbrev F.internal_stringslite_Cut : Nat := 91
theorem G.internal_stringslite_Cut : Tryd.prog.funcs[91]? = some Tryd.f91 := Tryd.func91
abbrev F.internal_stringslite_HasPrefix : Nat := 92
theorem G.internal_stringslite_HasPrefix : Tryd.prog.funcs[92]? = some Tryd.f92 := Tryd.func92
abbrev F.internal_stringslite_Index : Nat := 93
theorem G.internal_stringslite_Index : Tryd.prog.funcs[93]? = some Tryd.f93 := Tryd.func93
abbrev F.internal_stringslite_IndexByte : Nat := 94
theorem G.internal_stringslite_IndexByte : Tryd.prog.funcs[94]? = some Tryd.f94 := Tryd.func94
abbrev F.internal_bytealg_IndexString : Nat := 95
theorem G.internal_bytealg_IndexString : Tryd.prog.funcs[95]? = some Tryd.f95 := Tryd.func95
abbrev F.internal_bytealg_Cutover : Nat := 96
theorem G.internal_bytealg_Cutover : Tryd.prog.funcs[96]? = some Tryd.f96 := Tryd.func96
abbrev F.internal_bytealg_IndexRabinKarp_string : Nat := 97
theorem G.internal_bytealg_IndexRabinKarp_string : Tryd.prog.funcs[97]? = some Tryd.f97 := Tryd.func97
abbrev F.internal_bytealg_IndexByteString : Nat := 98
theorem G.internal_bytealg_IndexByteString : Tryd.prog.funcs[98]? = some Tryd.f98 := Tryd.func98
abbrev F.internal_bytealg_hashStr_string : Nat := 99
theorem G.internal_bytealg_hashStr_string : Tryd.prog.funcs[99]? = some Tryd.f99 := Tryd.func99
abbrev F.runtime_boundsError_Error : Nat := 100
theorem G.runtime_boundsError_Error : Tryd.prog.funcs[100]? = some Tryd.f100 := Tryd.func100
abbrev F.runtime_boundsError_RuntimeError : Nat := 101
theorem G.runtime_boundsError_RuntimeError : Tryd.prog.funcs[101]? = some Tryd.f101 := Tryd.func101
abbrev F.runtime_errorString_Error : Nat := 102
theorem G.runtime_errorString_Error : Tryd.prog.funcs[102]? = some Tryd.f102 := Tryd.func102
abbrev F.runtime_errorString_RuntimeError : Nat := 103
theorem G.runtime_errorString_RuntimeError : Tryd.prog.funcs[103]? = some Tryd.f103 := Tryd.func103
abbrev F.runtime_plainError_Error : Nat := 104
theorem G.runtime_plainError_Error : Tryd.prog.funcs[104]? = some Tryd.f104 := Tryd.func104
abbrev F.runtime_plainError_RuntimeError : Nat := 105
theorem G.runtime_plainError_RuntimeError : Tryd.prog.funcs[105]? = some Tryd.f105 := Tryd.func105
abbrev F.runtime_errorAddressString_Error : Nat := 106
theorem G.runtime_errorAddressString_Error : Tryd.prog.funcs[106]? = some Tryd.f106 := Tryd.func106
abbrev F.runtime_errorAddressString_RuntimeError : Nat := 107
theorem G.runtime_errorAddressString_RuntimeError : Tryd.prog.funcs[107]? = some Tryd.f107 := Tryd.func107
abbrev F.runtime_TypeAssertionError_Error : Nat := 108
theorem G.runtime_TypeAssertionError_Error : Tryd.prog.funcs[108]? = some Tryd.f108 := Tryd.func108
abbrev F.runtime_TypeAssertionError_RuntimeError : Nat := 109
theorem G.runtime_TypeAssertionError_RuntimeError : Tryd.prog.funcs[109]? = some Tryd.f109 := Tryd.func109
abbrev F.runtime_PanicNilError_Error : Nat := 110
theorem G.runtime_PanicNilError_Error : Tryd.prog.funcs[110]? = some Tryd.f110 := Tryd.func110
abbrev F.runtime_PanicNilError_RuntimeError : Nat := 111
theorem G.runtime_PanicNilError_RuntimeError : Tryd.prog.funcs[111]? = some Tryd.f111 := Tryd.func111
abbrev F.internal_abi_Type_Align : Nat := 112
theorem G.internal_abi_Type_Align : Tryd.prog.funcs[112]? = some Tryd.f112 := Tryd.func112
abbrev F.internal_runtime_maps_unhashableTypeError_Error : Nat := 113
theorem G.internal_runtime_maps_unhashableTypeError_Error : Tryd.prog.funcs[113]? = some Tryd.f113 := Tryd.func113
abbrev F.internal_runtime_maps_unhashableTypeError_RuntimeError : Nat := 114
theorem G.internal_runtime_maps_unhashableTypeError_RuntimeError : Tryd.prog.funcs[114]? = some Tryd.f114 := Tryd.func114
abbrev F.internal_abi_Kind_String : Nat := 115
theorem G.internal_abi_Kind_String : Tryd.prog.funcs[115]? = some Tryd.f115 := Tryd.func115
abbrev F.var_s_door_robot_kindNames_is_laid_by_its_own_initialiser_plain_data_look_11 : Nat := 116
theorem G.var_s_door_robot_kindNames_is_laid_by_its_own_initialiser_plain_data_look_11 : Tryd.prog.funcs[116]? = some Tryd.f116 := Tryd.func116
abbrev F.var_s_door_gosem_cut_vars_holds_initialisers_alone_see_the_manifest_s_row_cutvarsword_look_11_test_files_too : Nat := 117
theorem G.var_s_door_gosem_cut_vars_holds_initialisers_alone_see_the_manifest_s_row_cutvarsword_look_11_test_files_too : Tryd.prog.funcs[117]? = some Tryd.f117 := Tryd.func117
abbrev F.var_s_door_the_look_of_gosem_cut_vars_went_over_the_folder_that_the_caller_named_as_the_repository_s_root_look_11 : Nat := 118
theorem G.var_s_door_the_look_of_gosem_cut_vars_went_over_the_folder_that_the_caller_named_as_the_repository_s_root_look_11 : Tryd.prog.funcs[118]? = some Tryd.f118 := Tryd.func118
abbrev F.gosem_cut_vars : Nat := 119
theorem G.gosem_cut_vars : Tryd.prog.funcs[119]? = some Tryd.f119 := Tryd.func119
abbrev Y.Errno : Nat := 42
abbrev Y.Joint : Nat := 76
abbrev Y.Mass : Nat := 80
abbrev Y.Pair : Nat := 62
abbrev Y.Robot : Nat := 28
abbrev Y.Scene : Nat := 32
abbrev Y.Shape : Nat := 47
abbrev Y.Skip : Nat := 53
abbrev Y.SourceError : Nat := 67
abbrev Y.Statement : Nat := 37
abbrev Y.Vec : Nat := 51
abbrev Y.a0_ptr_runtime_PanicNilError : Nat := 156
abbrev Y.a10_string : Nat := 38
abbrev Y.a3_int64 : Nat := 50
abbrev Y.a7_string : Nat := 102
abbrev Y.a8_int : Nat := 103
abbrev Y.abi_BoundsErrorCode : Nat := 6
abbrev Y.abi_Kind : Nat := 161
abbrev Y.abi_NameOff : Nat := 164
abbrev Y.abi_TFlag : Nat := 160
abbrev Y.abi_Type : Nat := 167
abbrev Y.abi_TypeOff : Nat := 165
abbrev Y.bool : Nat := 4
abbrev Y.int : Nat := 3
abbrev Y.int32 : Nat := 21
abbrev Y.int64 : Nat := 2
abbrev Y.interface : Nat := 20
abbrev Y.map_string_int : Nat := 108
abbrev Y.map_string_syntax_counts : Nat := 130
abbrev Y.maps_unhashableTypeError : Nat := 19
abbrev Y.mk_Source : Nat := 84
abbrev Y.ptr_Joint : Nat := 116
abbrev Y.ptr_Scene : Nat := 92
abbrev Y.ptr_abi_Type : Nat := 17
abbrev Y.ptr_mk_Source : Nat := 54
abbrev Y.ptr_robot_reader : Nat := 125
abbrev Y.ptr_runtime_PanicNilError : Nat := 16
abbrev Y.ptr_runtime_TypeAssertionError : Nat := 15
abbrev Y.ptr_uint8 : Nat := 163
abbrev Y.robot_reader : Nat := 110
abbrev Y.runtime_PanicNilError : Nat := 158
abbrev Y.runtime_TypeAssertionError : Nat := 155
abbrev Y.runtime_boundsError : Nat := 8
abbrev Y.runtime_errorAddressString : Nat := 14
abbrev Y.runtime_errorString : Nat := 10
abbrev Y.runtime_plainError : Nat := 11
abbrev Y.s_Joint : Nat := 25
abbrev Y.s_Mass : Nat := 26
abbrev Y.s_Pair : Nat := 63
abbrev Y.s_Shape : Nat := 29
abbrev Y.s_Skip : Nat := 30
abbrev Y.s_Statement : Nat := 22
abbrev Y.s_Vec : Nat := 45
abbrev Y.s_int : Nat := 23
abbrev Y.s_int64 : Nat := 81
abbrev Y.s_string : Nat := 35
abbrev Y.string : Nat := 9
abbrev Y.syntax_counts : Nat := 128
abbrev Y.uint : Nat := 149
abbrev Y.uint32 : Nat := 150
abbrev Y.uint8 : Nat := 5
abbrev Y.uintptr : Nat := 12
abbrev Y.unsafe_Pointer : Nat := 168
end Go.Proofs.YtafglmjadbplcaaDoor
