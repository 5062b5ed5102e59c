/- Names for the functions and types of this seat. Printed by a program. -/
import Derived.Test.YthdbdokhncaijaaTy
import Derived.Test.YthdbdokhncaijaaRows
namespace Go.Proofs.Ythdbdokhncaijaa
abbrev F.main_main : Nat := 0
theorem G.main_main : Try.prog.funcs[0]? = some Try.f0 := Try.func0
abbrev F.gosem_cut : Nat := 1
theorem G.gosem_cut : Try.prog.funcs[1]? = some Try.f1 := Try.func1
abbrev F.gosem_cut_init : Nat := 2
theorem G.gosem_cut_init : Try.prog.funcs[2]? = some Try.f2 := Try.func2
abbrev F.law35_TeamJoins : Nat := 3
theorem G.law35_TeamJoins : Try.prog.funcs[3]? = some Try.f3 := Try.func3
abbrev F.law35_TeamMoves : Nat := 4
theorem G.law35_TeamMoves : Try.prog.funcs[4]? = some Try.f4 := Try.func4
abbrev F.law35_TeamApart : Nat := 5
theorem G.law35_TeamApart : Try.prog.funcs[5]? = some Try.f5 := Try.func5
abbrev F.law35_TeamParts : Nat := 6
theorem G.law35_TeamParts : Try.prog.funcs[6]? = some Try.f6 := Try.func6
abbrev F.law35_TeamMapped : Nat := 7
theorem G.law35_TeamMapped : Try.prog.funcs[7]? = some Try.f7 := Try.func7
abbrev F.law35_TeamInner : Nat := 8
theorem G.law35_TeamInner : Try.prog.funcs[8]? = some Try.f8 := Try.func8
abbrev F.law35_few : Nat := 9
theorem G.law35_few : Try.prog.funcs[9]? = some Try.f9 := Try.func9
abbrev F.law35_awake : Nat := 10
theorem G.law35_awake : Try.prog.funcs[10]? = some Try.f10 := Try.func10
abbrev F.law35_scenes : Nat := 11
theorem G.law35_scenes : Try.prog.funcs[11]? = some Try.f11 := Try.func11
abbrev F.mk_Round : Nat := 12
theorem G.mk_Round : Try.prog.funcs[12]? = some Try.f12 := Try.func12
abbrev F.law35_joins : Nat := 13
theorem G.law35_joins : Try.prog.funcs[13]? = some Try.f13 := Try.func13
abbrev F.team_Join : Nat := 14
theorem G.team_Join : Try.prog.funcs[14]? = some Try.f14 := Try.func14
abbrev F.mk_Box : Nat := 15
theorem G.mk_Box : Try.prog.funcs[15]? = some Try.f15 := Try.func15
abbrev F.team_PartBox : Nat := 16
theorem G.team_PartBox : Try.prog.funcs[16]? = some Try.f16 := Try.func16
abbrev F.ref10_Points : Nat := 17
theorem G.ref10_Points : Try.prog.funcs[17]? = some Try.f17 := Try.func17
abbrev F.mk_Config : Nat := 18
theorem G.mk_Config : Try.prog.funcs[18]? = some Try.f18 := Try.func18
abbrev F.team_Part : Nat := 19
theorem G.team_Part : Try.prog.funcs[19]? = some Try.f19 := Try.func19
abbrev F.team_Concat : Nat := 20
theorem G.team_Concat : Try.prog.funcs[20]? = some Try.f20 := Try.func20
abbrev F.mk_Same_int64 : Nat := 21
theorem G.mk_Same_int64 : Try.prog.funcs[21]? = some Try.f21 := Try.func21
abbrev F.ref32_Concat : Nat := 22
theorem G.ref32_Concat : Try.prog.funcs[22]? = some Try.f22 := Try.func22
abbrev F.law35_parts : Nat := 23
theorem G.law35_parts : Try.prog.funcs[23]? = some Try.f23 := Try.func23
abbrev F.ref10_Box : Nat := 24
theorem G.ref10_Box : Try.prog.funcs[24]? = some Try.f24 := Try.func24
abbrev F.team_Inner : Nat := 25
theorem G.team_Inner : Try.prog.funcs[25]? = some Try.f25 := Try.func25
abbrev F.ref6_Pairs : Nat := 26
theorem G.ref6_Pairs : Try.prog.funcs[26]? = some Try.f26 := Try.func26
abbrev F.ref32_JoinScenes : Nat := 27
theorem G.ref32_JoinScenes : Try.prog.funcs[27]? = some Try.f27 := Try.func27
abbrev F.law35_inner : Nat := 28
theorem G.law35_inner : Try.prog.funcs[28]? = some Try.f28 := Try.func28
abbrev F.mk_SmallScene : Nat := 29
theorem G.mk_SmallScene : Try.prog.funcs[29]? = some Try.f29 := Try.func29
abbrev F.mk_Slider : Nat := 30
theorem G.mk_Slider : Try.prog.funcs[30]? = some Try.f30 := Try.func30
abbrev F.mk_From : Nat := 31
theorem G.mk_From : Try.prog.funcs[31]? = some Try.f31 := Try.func31
abbrev F.mk_Source_Next : Nat := 32
theorem G.mk_Source_Next : Try.prog.funcs[32]? = some Try.f32 := Try.func32
abbrev F.mk_Scene : Nat := 33
theorem G.mk_Scene : Try.prog.funcs[33]? = some Try.f33 := Try.func33
abbrev F.mk_Track : Nat := 34
theorem G.mk_Track : Try.prog.funcs[34]? = some Try.f34 := Try.func34
abbrev F.mk_Source_Signed : Nat := 35
theorem G.mk_Source_Signed : Try.prog.funcs[35]? = some Try.f35 := Try.func35
abbrev F.mk_SameScene : Nat := 36
theorem G.mk_SameScene : Try.prog.funcs[36]? = some Try.f36 := Try.func36
abbrev F.scene_Check : Nat := 37
theorem G.scene_Check : Try.prog.funcs[37]? = some Try.f37 := Try.func37
abbrev F.team_arm_addRobot : Nat := 38
theorem G.team_arm_addRobot : Try.prog.funcs[38]? = some Try.f38 := Try.func38
abbrev F.team_arm_addShapes : Nat := 39
theorem G.team_arm_addShapes : Try.prog.funcs[39]? = some Try.f39 := Try.func39
abbrev F.team_part_api_Interval : Nat := 40
theorem G.team_part_api_Interval : Try.prog.funcs[40]? = some Try.f40 := Try.func40
abbrev F.ref6_CheckScene : Nat := 41
theorem G.ref6_CheckScene : Try.prog.funcs[41]? = some Try.f41 := Try.func41
abbrev F.ref10_IsBox : Nat := 42
theorem G.ref10_IsBox : Try.prog.funcs[42]? = some Try.f42 := Try.func42
abbrev F.ref10_Links : Nat := 43
theorem G.ref10_Links : Try.prog.funcs[43]? = some Try.f43 := Try.func43
abbrev F.ref1_Rest : Nat := 44
theorem G.ref1_Rest : Try.prog.funcs[44]? = some Try.f44 := Try.func44
abbrev F.ref10_Place : Nat := 45
theorem G.ref10_Place : Try.prog.funcs[45]? = some Try.f45 := Try.func45
abbrev F.team_part_int64 : Nat := 46
theorem G.team_part_int64 : Try.prog.funcs[46]? = some Try.f46 := Try.func46
abbrev F.team_concat_int64 : Nat := 47
theorem G.team_concat_int64 : Try.prog.funcs[47]? = some Try.f47 := Try.func47
abbrev F.ref32_Part : Nat := 48
theorem G.ref32_Part : Try.prog.funcs[48]? = some Try.f48 := Try.func48
abbrev F.ref32_PartBox : Nat := 49
theorem G.ref32_PartBox : Try.prog.funcs[49]? = some Try.f49 := Try.func49
abbrev F.mk_Same_api_Interval : Nat := 50
theorem G.mk_Same_api_Interval : Try.prog.funcs[50]? = some Try.f50 := Try.func50
abbrev F.ref10_small : Nat := 51
theorem G.ref10_small : Try.prog.funcs[51]? = some Try.f51 := Try.func51
abbrev F.team_inner : Nat := 52
theorem G.team_inner : Try.prog.funcs[52]? = some Try.f52 := Try.func52
abbrev F.scene_Pairs : Nat := 53
theorem G.scene_Pairs : Try.prog.funcs[53]? = some Try.f53 := Try.func53
abbrev F.ref6_Rigid : Nat := 54
theorem G.ref6_Rigid : Try.prog.funcs[54]? = some Try.f54 := Try.func54
abbrev F.ref6_Skipped : Nat := 55
theorem G.ref6_Skipped : Try.prog.funcs[55]? = some Try.f55 := Try.func55
abbrev F.ref32_raised : Nat := 56
theorem G.ref32_raised : Try.prog.funcs[56]? = some Try.f56 := Try.func56
abbrev F.ref32_shifted : Nat := 57
theorem G.ref32_shifted : Try.prog.funcs[57]? = some Try.f57 := Try.func57
abbrev F.ref32_Inner : Nat := 58
theorem G.ref32_Inner : Try.prog.funcs[58]? = some Try.f58 := Try.func58
abbrev F.team_Restrict : Nat := 59
theorem G.team_Restrict : Try.prog.funcs[59]? = some Try.f59 := Try.func59
abbrev F.ref32_Restrict : Nat := 60
theorem G.ref32_Restrict : Try.prog.funcs[60]? = some Try.f60 := Try.func60
abbrev F.mk_Same_int : Nat := 61
theorem G.mk_Same_int : Try.prog.funcs[61]? = some Try.f61 := Try.func61
abbrev F.mk_SameVerdict : Nat := 62
theorem G.mk_SameVerdict : Try.prog.funcs[62]? = some Try.f62 := Try.func62
abbrev F.mk_letter : Nat := 63
theorem G.mk_letter : Try.prog.funcs[63]? = some Try.f63 := Try.func63
abbrev F.mk_robot : Nat := 64
theorem G.mk_robot : Try.prog.funcs[64]? = some Try.f64 := Try.func64
abbrev F.mk_points : Nat := 65
theorem G.mk_points : Try.prog.funcs[65]? = some Try.f65 := Try.func65
abbrev F.mk_SameRobot : Nat := 66
theorem G.mk_SameRobot : Try.prog.funcs[66]? = some Try.f66 := Try.func66
abbrev F.mk_Same_api_Skip : Nat := 67
theorem G.mk_Same_api_Skip : Try.prog.funcs[67]? = some Try.f67 := Try.func67
abbrev F.mk_Same_api_Vec : Nat := 68
theorem G.mk_Same_api_Vec : Try.prog.funcs[68]? = some Try.f68 := Try.func68
abbrev F.robot_Check : Nat := 69
theorem G.robot_Check : Try.prog.funcs[69]? = some Try.f69 := Try.func69
abbrev F.scene_checkShape : Nat := 70
theorem G.scene_checkShape : Try.prog.funcs[70]? = some Try.f70 := Try.func70
abbrev F.scene_isLink : Nat := 71
theorem G.scene_isLink : Try.prog.funcs[71]? = some Try.f71 := Try.func71
abbrev F.team_arm_place : Nat := 72
theorem G.team_arm_place : Try.prog.funcs[72]? = some Try.f72 := Try.func72
abbrev F.team_arm_link : Nat := 73
theorem G.team_arm_link : Try.prog.funcs[73]? = some Try.f73 := Try.func73
abbrev F.slices_Clone_sapi_Vec_api_Vec : Nat := 74
theorem G.slices_Clone_sapi_Vec_api_Vec : Try.prog.funcs[74]? = some Try.f74 := Try.func74
abbrev F.slices_Clone_sapi_Interval_api_Interval : Nat := 75
theorem G.slices_Clone_sapi_Interval_api_Interval : Try.prog.funcs[75]? = some Try.f75 := Try.func75
abbrev F.ref6_CheckRobot : Nat := 76
theorem G.ref6_CheckRobot : Try.prog.funcs[76]? = some Try.f76 := Try.func76
abbrev F.ref6_isLink : Nat := 77
theorem G.ref6_isLink : Try.prog.funcs[77]? = some Try.f77 := Try.func77
abbrev F.ref6_between : Nat := 78
theorem G.ref6_between : Try.prog.funcs[78]? = some Try.f78 := Try.func78
abbrev F.ref6_Near : Nat := 79
theorem G.ref6_Near : Try.prog.funcs[79]? = some Try.f79 := Try.func79
abbrev F.ref10_allValid : Nat := 80
theorem G.ref10_allValid : Try.prog.funcs[80]? = some Try.f80 := Try.func80
abbrev F.ref10_Joint : Nat := 81
theorem G.ref10_Joint : Try.prog.funcs[81]? = some Try.f81 := Try.func81
abbrev F.ref1_Compose : Nat := 82
theorem G.ref1_Compose : Try.prog.funcs[82]? = some Try.f82 := Try.func82
abbrev F.ref1_Unit : Nat := 83
theorem G.ref1_Unit : Try.prog.funcs[83]? = some Try.f83 := Try.func83
abbrev F.ref10_CheckShape : Nat := 84
theorem G.ref10_CheckShape : Try.prog.funcs[84]? = some Try.f84 := Try.func84
abbrev F.ref1_Apply : Nat := 85
theorem G.ref1_Apply : Try.prog.funcs[85]? = some Try.f85 := Try.func85
abbrev F.ref1_Point : Nat := 86
theorem G.ref1_Point : Try.prog.funcs[86]? = some Try.f86 := Try.func86
abbrev F.slices_Clone_sint64_int64 : Nat := 87
theorem G.slices_Clone_sint64_int64 : Try.prog.funcs[87]? = some Try.f87 := Try.func87
abbrev F.ref32_span : Nat := 88
theorem G.ref32_span : Try.prog.funcs[88]? = some Try.f88 := Try.func88
abbrev F.slices_Index_sapi_Pair_api_Pair : Nat := 89
theorem G.slices_Index_sapi_Pair_api_Pair : Try.prog.funcs[89]? = some Try.f89 := Try.func89
abbrev F.scene_carriers : Nat := 90
theorem G.scene_carriers : Try.prog.funcs[90]? = some Try.f90 := Try.func90
abbrev F.scene_Skipped : Nat := 91
theorem G.scene_Skipped : Try.prog.funcs[91]? = some Try.f91 := Try.func91
abbrev F.ref6_Between : Nat := 92
theorem G.ref6_Between : Try.prog.funcs[92]? = some Try.f92 := Try.func92
abbrev F.mk_SameWitness : Nat := 93
theorem G.mk_SameWitness : Try.prog.funcs[93]? = some Try.f93 := Try.func93
abbrev F.mk_joint : Nat := 94
theorem G.mk_joint : Try.prog.funcs[94]? = some Try.f94 := Try.func94
abbrev F.mk_Same_api_Joint : Nat := 95
theorem G.mk_Same_api_Joint : Try.prog.funcs[95]? = some Try.f95 := Try.func95
abbrev F.mk_Same_api_Mass : Nat := 96
theorem G.mk_Same_api_Mass : Try.prog.funcs[96]? = some Try.f96 := Try.func96
abbrev F.robot_checkJoint : Nat := 97
theorem G.robot_checkJoint : Try.prog.funcs[97]? = some Try.f97 := Try.func97
abbrev F.slices_ContainsFunc_sapi_Mass_api_Mass : Nat := 98
theorem G.slices_ContainsFunc_sapi_Mass_api_Mass : Try.prog.funcs[98]? = some Try.f98 := Try.func98
abbrev F.robot_Check_1 : Nat := 99
theorem G.robot_Check_1 : Try.prog.funcs[99]? = some Try.f99 := Try.func99
abbrev F.robot_validMass : Nat := 100
theorem G.robot_validMass : Try.prog.funcs[100]? = some Try.f100 := Try.func100
abbrev F.ref6_checkJoint : Nat := 101
theorem G.ref6_checkJoint : Try.prog.funcs[101]? = some Try.f101 := Try.func101
abbrev F.ref1_Valid : Nat := 102
theorem G.ref1_Valid : Try.prog.funcs[102]? = some Try.f102 := Try.func102
abbrev F.ref1_TurnPose : Nat := 103
theorem G.ref1_TurnPose : Try.prog.funcs[103]? = some Try.f103 := Try.func103
abbrev F.ref1_Shift : Nat := 104
theorem G.ref1_Shift : Try.prog.funcs[104]? = some Try.f104 := Try.func104
abbrev F.ref1_ComposeMat : Nat := 105
theorem G.ref1_ComposeMat : Try.prog.funcs[105]? = some Try.f105 := Try.func105
abbrev F.ref1_AddVec : Nat := 106
theorem G.ref1_AddVec : Try.prog.funcs[106]? = some Try.f106 := Try.func106
abbrev F.ref1_ApplyMat : Nat := 107
theorem G.ref1_ApplyMat : Try.prog.funcs[107]? = some Try.f107 := Try.func107
abbrev F.ref1_Of : Nat := 108
theorem G.ref1_Of : Try.prog.funcs[108]? = some Try.f108 := Try.func108
abbrev F.ref6_Chain : Nat := 109
theorem G.ref6_Chain : Try.prog.funcs[109]? = some Try.f109 := Try.func109
abbrev F.ref6_member : Nat := 110
theorem G.ref6_member : Try.prog.funcs[110]? = some Try.f110 := Try.func110
abbrev F.token_Name : Nat := 111
theorem G.token_Name : Try.prog.funcs[111]? = some Try.f111 := Try.func111
abbrev F.robot_Find : Nat := 112
theorem G.robot_Find : Try.prog.funcs[112]? = some Try.f112 := Try.func112
abbrev F.robot_beyond : Nat := 113
theorem G.robot_beyond : Try.prog.funcs[113]? = some Try.f113 := Try.func113
abbrev F.robot_limit : Nat := 114
theorem G.robot_limit : Try.prog.funcs[114]? = some Try.f114 := Try.func114
abbrev F.robot_from1 : Nat := 115
theorem G.robot_from1 : Try.prog.funcs[115]? = some Try.f115 := Try.func115
abbrev F.slices_IndexFunc_sapi_Mass_api_Mass : Nat := 116
theorem G.slices_IndexFunc_sapi_Mass_api_Mass : Try.prog.funcs[116]? = some Try.f116 := Try.func116
abbrev F.ref6_Name : Nat := 117
theorem G.ref6_Name : Try.prog.funcs[117]? = some Try.f117 := Try.func117
abbrev F.ref6_reach : Nat := 118
theorem G.ref6_reach : Try.prog.funcs[118]? = some Try.f118 := Try.func118
abbrev F.ref1_Turn : Nat := 119
theorem G.ref1_Turn : Try.prog.funcs[119]? = some Try.f119 := Try.func119
abbrev F.ref1_Add : Nat := 120
theorem G.ref1_Add : Try.prog.funcs[120]? = some Try.f120 := Try.func120
abbrev F.ref1_Mul : Nat := 121
theorem G.ref1_Mul : Try.prog.funcs[121]? = some Try.f121 := Try.func121
abbrev F.ref1_Clamp : Nat := 122
theorem G.ref1_Clamp : Try.prog.funcs[122]? = some Try.f122 := Try.func122
abbrev F.token_isLetter : Nat := 123
theorem G.token_isLetter : Try.prog.funcs[123]? = some Try.f123 := Try.func123
abbrev F.token_isDigit : Nat := 124
theorem G.token_isDigit : Try.prog.funcs[124]? = some Try.f124 := Try.func124
abbrev F.ref1_CosOver : Nat := 125
theorem G.ref1_CosOver : Try.prog.funcs[125]? = some Try.f125 := Try.func125
abbrev F.ref1_SinOver : Nat := 126
theorem G.ref1_SinOver : Try.prog.funcs[126]? = some Try.f126 := Try.func126
abbrev F.ref1_Neg : Nat := 127
theorem G.ref1_Neg : Try.prog.funcs[127]? = some Try.f127 := Try.func127
abbrev F.ref1_limited : Nat := 128
theorem G.ref1_limited : Try.prog.funcs[128]? = some Try.f128 := Try.func128
abbrev F.ref1_Floor : Nat := 129
theorem G.ref1_Floor : Try.prog.funcs[129]? = some Try.f129 := Try.func129
abbrev F.ref1_Ceil : Nat := 130
theorem G.ref1_Ceil : Try.prog.funcs[130]? = some Try.f130 := Try.func130
abbrev F.ref1_over : Nat := 131
theorem G.ref1_over : Try.prog.funcs[131]? = some Try.f131 := Try.func131
abbrev F.ref1_Cos : Nat := 132
theorem G.ref1_Cos : Try.prog.funcs[132]? = some Try.f132 := Try.func132
abbrev F.ref1_Sin : Nat := 133
theorem G.ref1_Sin : Try.prog.funcs[133]? = some Try.f133 := Try.func133
abbrev F.ref1_Hull : Nat := 134
theorem G.ref1_Hull : Try.prog.funcs[134]? = some Try.f134 := Try.func134
abbrev F.ref1_meets : Nat := 135
theorem G.ref1_meets : Try.prog.funcs[135]? = some Try.f135 := Try.func135
abbrev F.ref1_Mod : Nat := 136
theorem G.ref1_Mod : Try.prog.funcs[136]? = some Try.f136 := Try.func136
abbrev F.ref1_Quarter : Nat := 137
theorem G.ref1_Quarter : Try.prog.funcs[137]? = some Try.f137 := Try.func137
abbrev F.ref1_sine : Nat := 138
theorem G.ref1_sine : Try.prog.funcs[138]? = some Try.f138 := Try.func138
abbrev F.ref1_cosine : Nat := 139
theorem G.ref1_cosine : Try.prog.funcs[139]? = some Try.f139 := Try.func139
abbrev F.ref1_powers : Nat := 140
theorem G.ref1_powers : Try.prog.funcs[140]? = some Try.f140 := Try.func140
abbrev F.ref1_enclosure : Nat := 141
theorem G.ref1_enclosure : Try.prog.funcs[141]? = some Try.f141 := Try.func141
abbrev F.runtime_boundsError_Error : Nat := 142
theorem G.runtime_boundsError_Error : Try.prog.funcs[142]? = some Try.f142 := Try.func142
abbrev F.runtime_boundsError_RuntimeError : Nat := 143
theorem G.runtime_boundsError_RuntimeError : Try.prog.funcs[143]? = some Try.f143 := Try.func143
abbrev F.runtime_errorString_Error : Nat := 144
theorem G.runtime_errorString_Error : Try.prog.funcs[144]? = some Try.f144 := Try.func144
abbrev F.runtime_errorString_RuntimeError : Nat := 145
theorem G.runtime_errorString_RuntimeError : Try.prog.funcs[145]? = some Try.f145 := Try.func145
abbrev Y.Errno : Nat := 41
abbrev Y.IMat : Nat := 102
abbrev Y.IVec : Nat := 54
abbrev Y.Interval : Nat := 52
abbrev Y.Joint : Nat := 84
abbrev Y.Mass : Nat := 114
abbrev Y.Pair : Nat := 71
abbrev Y.Pose : Nat := 104
abbrev Y.Robot : Nat := 36
abbrev Y.Scene : Nat := 40
abbrev Y.Shape : Nat := 82
abbrev Y.Skip : Nat := 116
abbrev Y.Vec : Nat := 31
abbrev Y.Verdict : Nat := 76
abbrev Y.Witness : Nat := 74
abbrev Y.a0_ptr_runtime_PanicNilError : Nat := 190
abbrev Y.a11_int64 : Nat := 184
abbrev Y.a3_Interval : Nat := 53
abbrev Y.a3_a3_Interval : Nat := 101
abbrev Y.a3_int64 : Nat := 30
abbrev Y.a8_int : Nat := 169
abbrev Y.abi_BoundsErrorCode : Nat := 6
abbrev Y.abi_Kind : Nat := 196
abbrev Y.abi_NameOff : Nat := 199
abbrev Y.abi_TFlag : Nat := 195
abbrev Y.abi_Type : Nat := 202
abbrev Y.abi_TypeOff : Nat := 200
abbrev Y.bool : Nat := 4
abbrev Y.int : Nat := 3
abbrev Y.int32 : Nat := 21
abbrev Y.int64 : Nat := 2
abbrev Y.interface : Nat := 20
abbrev Y.maps_unhashableTypeError : Nat := 19
abbrev Y.mk_Source : Nat := 123
abbrev Y.ptr_Robot : Nat := 95
abbrev Y.ptr_Scene : Nat := 97
abbrev Y.ptr_abi_Type : Nat := 17
abbrev Y.ptr_mk_Source : Nat := 85
abbrev Y.ptr_runtime_PanicNilError : Nat := 16
abbrev Y.ptr_runtime_TypeAssertionError : Nat := 15
abbrev Y.ptr_uint8 : Nat := 198
abbrev Y.runtime_PanicNilError : Nat := 192
abbrev Y.runtime_TypeAssertionError : Nat := 189
abbrev Y.runtime_boundsError : Nat := 8
abbrev Y.runtime_errorAddressString : Nat := 14
abbrev Y.runtime_errorString : Nat := 10
abbrev Y.runtime_plainError : Nat := 11
abbrev Y.s_IVec : Nat := 50
abbrev Y.s_Interval : Nat := 44
abbrev Y.s_Joint : Nat := 33
abbrev Y.s_Mass : Nat := 34
abbrev Y.s_Pair : Nat := 68
abbrev Y.s_Pose : Nat := 99
abbrev Y.s_Scene : Nat := 22
abbrev Y.s_Shape : Nat := 37
abbrev Y.s_Skip : Nat := 38
abbrev Y.s_Vec : Nat := 23
abbrev Y.s_int : Nat := 24
abbrev Y.s_int64 : Nat := 57
abbrev Y.s_s_IVec : Nat := 48
abbrev Y.s_s_int64 : Nat := 56
abbrev Y.string : Nat := 9
abbrev Y.team_arm : Nat := 93
abbrev Y.uint32 : Nat := 194
abbrev Y.uint8 : Nat := 5
abbrev Y.uintptr : Nat := 12
abbrev Y.unsafe_Pointer : Nat := 203
end Go.Proofs.Ythdbdokhncaijaa
