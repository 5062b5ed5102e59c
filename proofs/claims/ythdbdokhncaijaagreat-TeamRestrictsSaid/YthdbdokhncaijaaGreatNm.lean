/- Names for the functions and types of this seat. Printed by a program. -/
import Derived.Test.YthdbdokhncaijaaGreatTy
import Derived.Test.YthdbdokhncaijaaGreatRows
namespace Go.Proofs.YthdbdokhncaijaaGreat
abbrev F.main_main : Nat := 0
theorem G.main_main : Tryz.prog.funcs[0]? = some Tryz.f0 := Tryz.func0
abbrev F.gosem_cut : Nat := 1
theorem G.gosem_cut : Tryz.prog.funcs[1]? = some Tryz.f1 := Tryz.func1
abbrev F.gosem_cut_init : Nat := 2
theorem G.gosem_cut_init : Tryz.prog.funcs[2]? = some Tryz.f2 := Tryz.func2
abbrev F.law35_TeamRestricts : Nat := 3
theorem G.law35_TeamRestricts : Tryz.prog.funcs[3]? = some Tryz.f3 := Tryz.func3
abbrev F.law35_scenes : Nat := 4
theorem G.law35_scenes : Tryz.prog.funcs[4]? = some Tryz.f4 := Tryz.func4
abbrev F.team_Join : Nat := 5
theorem G.team_Join : Tryz.prog.funcs[5]? = some Tryz.f5 := Tryz.func5
abbrev F.law35_awake : Nat := 6
theorem G.law35_awake : Tryz.prog.funcs[6]? = some Tryz.f6 := Tryz.func6
abbrev F.mk_Box : Nat := 7
theorem G.mk_Box : Tryz.prog.funcs[7]? = some Tryz.f7 := Tryz.func7
abbrev F.ref14_Classify : Nat := 8
theorem G.ref14_Classify : Tryz.prog.funcs[8]? = some Tryz.f8 := Tryz.func8
abbrev F.mk_Round : Nat := 9
theorem G.mk_Round : Tryz.prog.funcs[9]? = some Tryz.f9 := Tryz.func9
abbrev F.team_Restrict : Nat := 10
theorem G.team_Restrict : Tryz.prog.funcs[10]? = some Tryz.f10 := Tryz.func10
abbrev F.team_PartBox : Nat := 11
theorem G.team_PartBox : Tryz.prog.funcs[11]? = some Tryz.f11 := Tryz.func11
abbrev F.ref14_Check : Nat := 12
theorem G.ref14_Check : Tryz.prog.funcs[12]? = some Tryz.f12 := Tryz.func12
abbrev F.mk_From : Nat := 13
theorem G.mk_From : Tryz.prog.funcs[13]? = some Tryz.f13 := Tryz.func13
abbrev F.mk_Source_Next : Nat := 14
theorem G.mk_Source_Next : Tryz.prog.funcs[14]? = some Tryz.f14 := Tryz.func14
abbrev F.mk_Scene : Nat := 15
theorem G.mk_Scene : Tryz.prog.funcs[15]? = some Tryz.f15 := Tryz.func15
abbrev F.mk_Track : Nat := 16
theorem G.mk_Track : Tryz.prog.funcs[16]? = some Tryz.f16 := Tryz.func16
abbrev F.mk_Source_Signed : Nat := 17
theorem G.mk_Source_Signed : Tryz.prog.funcs[17]? = some Tryz.f17 := Tryz.func17
abbrev F.scene_Check : Nat := 18
theorem G.scene_Check : Tryz.prog.funcs[18]? = some Tryz.f18 := Tryz.func18
abbrev F.team_arm_addRobot : Nat := 19
theorem G.team_arm_addRobot : Tryz.prog.funcs[19]? = some Tryz.f19 := Tryz.func19
abbrev F.team_arm_addShapes : Nat := 20
theorem G.team_arm_addShapes : Tryz.prog.funcs[20]? = some Tryz.f20 := Tryz.func20
abbrev F.mk_Slider : Nat := 21
theorem G.mk_Slider : Tryz.prog.funcs[21]? = some Tryz.f21 := Tryz.func21
abbrev F.team_Part : Nat := 22
theorem G.team_Part : Tryz.prog.funcs[22]? = some Tryz.f22 := Tryz.func22
abbrev F.mk_Same_int64 : Nat := 23
theorem G.mk_Same_int64 : Tryz.prog.funcs[23]? = some Tryz.f23 := Tryz.func23
abbrev F.ref14_sides : Nat := 24
theorem G.ref14_sides : Tryz.prog.funcs[24]? = some Tryz.f24 := Tryz.func24
abbrev F.ref14_FindNormal : Nat := 25
theorem G.ref14_FindNormal : Tryz.prog.funcs[25]? = some Tryz.f25 := Tryz.func25
abbrev F.ref14_Search : Nat := 26
theorem G.ref14_Search : Tryz.prog.funcs[26]? = some Tryz.f26 := Tryz.func26
abbrev F.ref10_Centers : Nat := 27
theorem G.ref10_Centers : Tryz.prog.funcs[27]? = some Tryz.f27 := Tryz.func27
abbrev F.ref14_Overlaps : Nat := 28
theorem G.ref14_Overlaps : Tryz.prog.funcs[28]? = some Tryz.f28 := Tryz.func28
abbrev F.scene_Pairs : Nat := 29
theorem G.scene_Pairs : Tryz.prog.funcs[29]? = some Tryz.f29 := Tryz.func29
abbrev F.team_inner : Nat := 30
theorem G.team_inner : Tryz.prog.funcs[30]? = some Tryz.f30 := Tryz.func30
abbrev F.team_part_api_Interval : Nat := 31
theorem G.team_part_api_Interval : Tryz.prog.funcs[31]? = some Tryz.f31 := Tryz.func31
abbrev F.ref14_Empty : Nat := 32
theorem G.ref14_Empty : Tryz.prog.funcs[32]? = some Tryz.f32 := Tryz.func32
abbrev F.ref14_CheckFree : Nat := 33
theorem G.ref14_CheckFree : Tryz.prog.funcs[33]? = some Tryz.f33 := Tryz.func33
abbrev F.ref14_CheckColliding : Nat := 34
theorem G.ref14_CheckColliding : Tryz.prog.funcs[34]? = some Tryz.f34 := Tryz.func34
abbrev F.mk_robot : Nat := 35
theorem G.mk_robot : Tryz.prog.funcs[35]? = some Tryz.f35 := Tryz.func35
abbrev F.mk_points : Nat := 36
theorem G.mk_points : Tryz.prog.funcs[36]? = some Tryz.f36 := Tryz.func36
abbrev F.robot_Check : Nat := 37
theorem G.robot_Check : Tryz.prog.funcs[37]? = some Tryz.f37 := Tryz.func37
abbrev F.scene_checkShape : Nat := 38
theorem G.scene_checkShape : Tryz.prog.funcs[38]? = some Tryz.f38 := Tryz.func38
abbrev F.scene_isLink : Nat := 39
theorem G.scene_isLink : Tryz.prog.funcs[39]? = some Tryz.f39 := Tryz.func39
abbrev F.team_arm_place : Nat := 40
theorem G.team_arm_place : Tryz.prog.funcs[40]? = some Tryz.f40 := Tryz.func40
abbrev F.team_arm_link : Nat := 41
theorem G.team_arm_link : Tryz.prog.funcs[41]? = some Tryz.f41 := Tryz.func41
abbrev F.slices_Clone_sapi_Vec_api_Vec : Nat := 42
theorem G.slices_Clone_sapi_Vec_api_Vec : Tryz.prog.funcs[42]? = some Tryz.f42 := Tryz.func42
abbrev F.mk_letter : Nat := 43
theorem G.mk_letter : Tryz.prog.funcs[43]? = some Tryz.f43 := Tryz.func43
abbrev F.team_part_int64 : Nat := 44
theorem G.team_part_int64 : Tryz.prog.funcs[44]? = some Tryz.f44 := Tryz.func44
abbrev F.ref6_CheckScene : Nat := 45
theorem G.ref6_CheckScene : Tryz.prog.funcs[45]? = some Tryz.f45 := Tryz.func45
abbrev F.ref10_IsBox : Nat := 46
theorem G.ref10_IsBox : Tryz.prog.funcs[46]? = some Tryz.f46 := Tryz.func46
abbrev F.ref10_Points : Nat := 47
theorem G.ref10_Points : Tryz.prog.funcs[47]? = some Tryz.f47 := Tryz.func47
abbrev F.ref6_Pairs : Nat := 48
theorem G.ref6_Pairs : Tryz.prog.funcs[48]? = some Tryz.f48 := Tryz.func48
abbrev F.ref14_Candidates : Nat := 49
theorem G.ref14_Candidates : Tryz.prog.funcs[49]? = some Tryz.f49 := Tryz.func49
abbrev F.ref14_First : Nat := 50
theorem G.ref14_First : Tryz.prog.funcs[50]? = some Tryz.f50 := Tryz.func50
abbrev F.ref14_few : Nat := 51
theorem G.ref14_few : Tryz.prog.funcs[51]? = some Tryz.f51 := Tryz.func51
abbrev F.ref14_minus : Nat := 52
theorem G.ref14_minus : Tryz.prog.funcs[52]? = some Tryz.f52 := Tryz.func52
abbrev F.ref14_Sum : Nat := 53
theorem G.ref14_Sum : Tryz.prog.funcs[53]? = some Tryz.f53 := Tryz.func53
abbrev F.ref14_near : Nat := 54
theorem G.ref14_near : Tryz.prog.funcs[54]? = some Tryz.f54 := Tryz.func54
abbrev F.ref10_Normal : Nat := 55
theorem G.ref10_Normal : Tryz.prog.funcs[55]? = some Tryz.f55 := Tryz.func55
abbrev F.ref14_Extreme : Nat := 56
theorem G.ref14_Extreme : Tryz.prog.funcs[56]? = some Tryz.f56 := Tryz.func56
abbrev F.ref14_dot : Nat := 57
theorem G.ref14_dot : Tryz.prog.funcs[57]? = some Tryz.f57 := Tryz.func57
abbrev F.ref10_Norm : Nat := 58
theorem G.ref10_Norm : Tryz.prog.funcs[58]? = some Tryz.f58 := Tryz.func58
abbrev F.ref14_Moved : Nat := 59
theorem G.ref14_Moved : Tryz.prog.funcs[59]? = some Tryz.f59 := Tryz.func59
abbrev F.ref10_Placed : Nat := 60
theorem G.ref10_Placed : Tryz.prog.funcs[60]? = some Tryz.f60 := Tryz.func60
abbrev F.ref1_Mid : Nat := 61
theorem G.ref1_Mid : Tryz.prog.funcs[61]? = some Tryz.f61 := Tryz.func61
abbrev F.ref14_Excess : Nat := 62
theorem G.ref14_Excess : Tryz.prog.funcs[62]? = some Tryz.f62 := Tryz.func62
abbrev F.scene_carriers : Nat := 63
theorem G.scene_carriers : Tryz.prog.funcs[63]? = some Tryz.f63 := Tryz.func63
abbrev F.scene_Skipped : Nat := 64
theorem G.scene_Skipped : Tryz.prog.funcs[64]? = some Tryz.f64 := Tryz.func64
abbrev F.slices_Index_sapi_Pair_api_Pair : Nat := 65
theorem G.slices_Index_sapi_Pair_api_Pair : Tryz.prog.funcs[65]? = some Tryz.f65 := Tryz.func65
abbrev F.slices_Clone_sapi_Interval_api_Interval : Nat := 66
theorem G.slices_Clone_sapi_Interval_api_Interval : Tryz.prog.funcs[66]? = some Tryz.f66 := Tryz.func66
abbrev F.ref14_Separates : Nat := 67
theorem G.ref14_Separates : Tryz.prog.funcs[67]? = some Tryz.f67 := Tryz.func67
abbrev F.mk_joint : Nat := 68
theorem G.mk_joint : Tryz.prog.funcs[68]? = some Tryz.f68 := Tryz.func68
abbrev F.robot_checkJoint : Nat := 69
theorem G.robot_checkJoint : Tryz.prog.funcs[69]? = some Tryz.f69 := Tryz.func69
abbrev F.slices_ContainsFunc_sapi_Mass_api_Mass : Nat := 70
theorem G.slices_ContainsFunc_sapi_Mass_api_Mass : Tryz.prog.funcs[70]? = some Tryz.f70 := Tryz.func70
abbrev F.robot_Check_1 : Nat := 71
theorem G.robot_Check_1 : Tryz.prog.funcs[71]? = some Tryz.f71 := Tryz.func71
abbrev F.robot_validMass : Nat := 72
theorem G.robot_validMass : Tryz.prog.funcs[72]? = some Tryz.f72 := Tryz.func72
abbrev F.slices_Clone_sint64_int64 : Nat := 73
theorem G.slices_Clone_sint64_int64 : Tryz.prog.funcs[73]? = some Tryz.f73 := Tryz.func73
abbrev F.ref6_CheckRobot : Nat := 74
theorem G.ref6_CheckRobot : Tryz.prog.funcs[74]? = some Tryz.f74 := Tryz.func74
abbrev F.ref6_isLink : Nat := 75
theorem G.ref6_isLink : Tryz.prog.funcs[75]? = some Tryz.f75 := Tryz.func75
abbrev F.ref6_between : Nat := 76
theorem G.ref6_between : Tryz.prog.funcs[76]? = some Tryz.f76 := Tryz.func76
abbrev F.ref6_Near : Nat := 77
theorem G.ref6_Near : Tryz.prog.funcs[77]? = some Tryz.f77 := Tryz.func77
abbrev F.ref10_allValid : Nat := 78
theorem G.ref10_allValid : Tryz.prog.funcs[78]? = some Tryz.f78 := Tryz.func78
abbrev F.ref10_Links : Nat := 79
theorem G.ref10_Links : Tryz.prog.funcs[79]? = some Tryz.f79 := Tryz.func79
abbrev F.ref1_Rest : Nat := 80
theorem G.ref1_Rest : Tryz.prog.funcs[80]? = some Tryz.f80 := Tryz.func80
abbrev F.ref10_Place : Nat := 81
theorem G.ref10_Place : Tryz.prog.funcs[81]? = some Tryz.f81 := Tryz.func81
abbrev F.ref6_Rigid : Nat := 82
theorem G.ref6_Rigid : Tryz.prog.funcs[82]? = some Tryz.f82 := Tryz.func82
abbrev F.ref6_Skipped : Nat := 83
theorem G.ref6_Skipped : Tryz.prog.funcs[83]? = some Tryz.f83 := Tryz.func83
abbrev F.ref14_radius : Nat := 84
theorem G.ref14_radius : Tryz.prog.funcs[84]? = some Tryz.f84 := Tryz.func84
abbrev F.ref10_Usable : Nat := 85
theorem G.ref10_Usable : Tryz.prog.funcs[85]? = some Tryz.f85 := Tryz.func85
abbrev F.ref14_Mean : Nat := 86
theorem G.ref14_Mean : Tryz.prog.funcs[86]? = some Tryz.f86 := Tryz.func86
abbrev F.ref14_Axes : Nat := 87
theorem G.ref14_Axes : Tryz.prog.funcs[87]? = some Tryz.f87 := Tryz.func87
abbrev F.ref1_Ceil : Nat := 88
theorem G.ref1_Ceil : Tryz.prog.funcs[88]? = some Tryz.f88 := Tryz.func88
abbrev F.ref1_RootUp : Nat := 89
theorem G.ref1_RootUp : Tryz.prog.funcs[89]? = some Tryz.f89 := Tryz.func89
abbrev F.ref10_reached : Nat := 90
theorem G.ref10_reached : Tryz.prog.funcs[90]? = some Tryz.f90 := Tryz.func90
abbrev F.ref1_Valid : Nat := 91
theorem G.ref1_Valid : Tryz.prog.funcs[91]? = some Tryz.f91 := Tryz.func91
abbrev F.ref1_Floor : Nat := 92
theorem G.ref1_Floor : Tryz.prog.funcs[92]? = some Tryz.f92 := Tryz.func92
abbrev F.ref10_Combine : Nat := 93
theorem G.ref10_Combine : Tryz.prog.funcs[93]? = some Tryz.f93 := Tryz.func93
abbrev F.ref14_size : Nat := 94
theorem G.ref14_size : Tryz.prog.funcs[94]? = some Tryz.f94 := Tryz.func94
abbrev F.ref14_Margin : Nat := 95
theorem G.ref14_Margin : Tryz.prog.funcs[95]? = some Tryz.f95 := Tryz.func95
abbrev F.token_Name : Nat := 96
theorem G.token_Name : Tryz.prog.funcs[96]? = some Tryz.f96 := Tryz.func96
abbrev F.robot_Find : Nat := 97
theorem G.robot_Find : Tryz.prog.funcs[97]? = some Tryz.f97 := Tryz.func97
abbrev F.robot_beyond : Nat := 98
theorem G.robot_beyond : Tryz.prog.funcs[98]? = some Tryz.f98 := Tryz.func98
abbrev F.robot_limit : Nat := 99
theorem G.robot_limit : Tryz.prog.funcs[99]? = some Tryz.f99 := Tryz.func99
abbrev F.robot_from1 : Nat := 100
theorem G.robot_from1 : Tryz.prog.funcs[100]? = some Tryz.f100 := Tryz.func100
abbrev F.slices_IndexFunc_sapi_Mass_api_Mass : Nat := 101
theorem G.slices_IndexFunc_sapi_Mass_api_Mass : Tryz.prog.funcs[101]? = some Tryz.f101 := Tryz.func101
abbrev F.ref6_checkJoint : Nat := 102
theorem G.ref6_checkJoint : Tryz.prog.funcs[102]? = some Tryz.f102 := Tryz.func102
abbrev F.ref10_Joint : Nat := 103
theorem G.ref10_Joint : Tryz.prog.funcs[103]? = some Tryz.f103 := Tryz.func103
abbrev F.ref1_Compose : Nat := 104
theorem G.ref1_Compose : Tryz.prog.funcs[104]? = some Tryz.f104 := Tryz.func104
abbrev F.ref1_Unit : Nat := 105
theorem G.ref1_Unit : Tryz.prog.funcs[105]? = some Tryz.f105 := Tryz.func105
abbrev F.ref10_CheckShape : Nat := 106
theorem G.ref10_CheckShape : Tryz.prog.funcs[106]? = some Tryz.f106 := Tryz.func106
abbrev F.ref1_Apply : Nat := 107
theorem G.ref1_Apply : Tryz.prog.funcs[107]? = some Tryz.f107 := Tryz.func107
abbrev F.ref1_Point : Nat := 108
theorem G.ref1_Point : Tryz.prog.funcs[108]? = some Tryz.f108 := Tryz.func108
abbrev F.ref6_Between : Nat := 109
theorem G.ref6_Between : Tryz.prog.funcs[109]? = some Tryz.f109 := Tryz.func109
abbrev F.ref1_Root : Nat := 110
theorem G.ref1_Root : Tryz.prog.funcs[110]? = some Tryz.f110 := Tryz.func110
abbrev F.ref10_Least : Nat := 111
theorem G.ref10_Least : Tryz.prog.funcs[111]? = some Tryz.f111 := Tryz.func111
abbrev F.ref10_Greatest : Nat := 112
theorem G.ref10_Greatest : Tryz.prog.funcs[112]? = some Tryz.f112 := Tryz.func112
abbrev F.token_isLetter : Nat := 113
theorem G.token_isLetter : Tryz.prog.funcs[113]? = some Tryz.f113 := Tryz.func113
abbrev F.token_isDigit : Nat := 114
theorem G.token_isDigit : Tryz.prog.funcs[114]? = some Tryz.f114 := Tryz.func114
abbrev F.ref6_Name : Nat := 115
theorem G.ref6_Name : Tryz.prog.funcs[115]? = some Tryz.f115 := Tryz.func115
abbrev F.ref6_reach : Nat := 116
theorem G.ref6_reach : Tryz.prog.funcs[116]? = some Tryz.f116 := Tryz.func116
abbrev F.ref1_TurnPose : Nat := 117
theorem G.ref1_TurnPose : Tryz.prog.funcs[117]? = some Tryz.f117 := Tryz.func117
abbrev F.ref1_Shift : Nat := 118
theorem G.ref1_Shift : Tryz.prog.funcs[118]? = some Tryz.f118 := Tryz.func118
abbrev F.ref1_ComposeMat : Nat := 119
theorem G.ref1_ComposeMat : Tryz.prog.funcs[119]? = some Tryz.f119 := Tryz.func119
abbrev F.ref1_AddVec : Nat := 120
theorem G.ref1_AddVec : Tryz.prog.funcs[120]? = some Tryz.f120 := Tryz.func120
abbrev F.ref1_ApplyMat : Nat := 121
theorem G.ref1_ApplyMat : Tryz.prog.funcs[121]? = some Tryz.f121 := Tryz.func121
abbrev F.ref1_Of : Nat := 122
theorem G.ref1_Of : Tryz.prog.funcs[122]? = some Tryz.f122 := Tryz.func122
abbrev F.ref6_Chain : Nat := 123
theorem G.ref6_Chain : Tryz.prog.funcs[123]? = some Tryz.f123 := Tryz.func123
abbrev F.ref6_member : Nat := 124
theorem G.ref6_member : Tryz.prog.funcs[124]? = some Tryz.f124 := Tryz.func124
abbrev F.ref10_Dot : Nat := 125
theorem G.ref10_Dot : Tryz.prog.funcs[125]? = some Tryz.f125 := Tryz.func125
abbrev F.ref1_Turn : Nat := 126
theorem G.ref1_Turn : Tryz.prog.funcs[126]? = some Tryz.f126 := Tryz.func126
abbrev F.ref1_Add : Nat := 127
theorem G.ref1_Add : Tryz.prog.funcs[127]? = some Tryz.f127 := Tryz.func127
abbrev F.ref1_Mul : Nat := 128
theorem G.ref1_Mul : Tryz.prog.funcs[128]? = some Tryz.f128 := Tryz.func128
abbrev F.ref1_Clamp : Nat := 129
theorem G.ref1_Clamp : Tryz.prog.funcs[129]? = some Tryz.f129 := Tryz.func129
abbrev F.ref1_CosOver : Nat := 130
theorem G.ref1_CosOver : Tryz.prog.funcs[130]? = some Tryz.f130 := Tryz.func130
abbrev F.ref1_SinOver : Nat := 131
theorem G.ref1_SinOver : Tryz.prog.funcs[131]? = some Tryz.f131 := Tryz.func131
abbrev F.ref1_Neg : Nat := 132
theorem G.ref1_Neg : Tryz.prog.funcs[132]? = some Tryz.f132 := Tryz.func132
abbrev F.ref1_limited : Nat := 133
theorem G.ref1_limited : Tryz.prog.funcs[133]? = some Tryz.f133 := Tryz.func133
abbrev F.ref1_over : Nat := 134
theorem G.ref1_over : Tryz.prog.funcs[134]? = some Tryz.f134 := Tryz.func134
abbrev F.ref1_Cos : Nat := 135
theorem G.ref1_Cos : Tryz.prog.funcs[135]? = some Tryz.f135 := Tryz.func135
abbrev F.ref1_Sin : Nat := 136
theorem G.ref1_Sin : Tryz.prog.funcs[136]? = some Tryz.f136 := Tryz.func136
abbrev F.ref1_Hull : Nat := 137
theorem G.ref1_Hull : Tryz.prog.funcs[137]? = some Tryz.f137 := Tryz.func137
abbrev F.ref1_meets : Nat := 138
theorem G.ref1_meets : Tryz.prog.funcs[138]? = some Tryz.f138 := Tryz.func138
abbrev F.ref1_Mod : Nat := 139
theorem G.ref1_Mod : Tryz.prog.funcs[139]? = some Tryz.f139 := Tryz.func139
abbrev F.ref1_Quarter : Nat := 140
theorem G.ref1_Quarter : Tryz.prog.funcs[140]? = some Tryz.f140 := Tryz.func140
abbrev F.ref1_sine : Nat := 141
theorem G.ref1_sine : Tryz.prog.funcs[141]? = some Tryz.f141 := Tryz.func141
abbrev F.ref1_cosine : Nat := 142
theorem G.ref1_cosine : Tryz.prog.funcs[142]? = some Tryz.f142 := Tryz.func142
abbrev F.ref1_powers : Nat := 143
theorem G.ref1_powers : Tryz.prog.funcs[143]? = some Tryz.f143 := Tryz.func143
abbrev F.ref1_enclosure : Nat := 144
theorem G.ref1_enclosure : Tryz.prog.funcs[144]? = some Tryz.f144 := Tryz.func144
abbrev F.runtime_boundsError_Error : Nat := 145
theorem G.runtime_boundsError_Error : Tryz.prog.funcs[145]? = some Tryz.f145 := Tryz.func145
abbrev F.runtime_boundsError_RuntimeError : Nat := 146
theorem G.runtime_boundsError_RuntimeError : Tryz.prog.funcs[146]? = some Tryz.f146 := Tryz.func146
abbrev F.runtime_errorString_Error : Nat := 147
theorem G.runtime_errorString_Error : Tryz.prog.funcs[147]? = some Tryz.f147 := Tryz.func147
abbrev F.runtime_errorString_RuntimeError : Nat := 148
theorem G.runtime_errorString_RuntimeError : Tryz.prog.funcs[148]? = some Tryz.f148 := Tryz.func148
abbrev F.runtime_plainError_Error : Nat := 149
theorem G.runtime_plainError_Error : Tryz.prog.funcs[149]? = some Tryz.f149 := Tryz.func149
abbrev F.runtime_plainError_RuntimeError : Nat := 150
theorem G.runtime_plainError_RuntimeError : Tryz.prog.funcs[150]? = some Tryz.f150 := Tryz.func150
abbrev F.runtime_errorAddressString_Error : Nat := 151
theorem G.runtime_errorAddressString_Error : Tryz.prog.funcs[151]? = some Tryz.f151 := Tryz.func151
abbrev F.runtime_errorAddressString_RuntimeError : Nat := 152
theorem G.runtime_errorAddressString_RuntimeError : Tryz.prog.funcs[152]? = some Tryz.f152 := Tryz.func152
abbrev F.runtime_TypeAssertionError_Error : Nat := 153
theorem G.runtime_TypeAssertionError_Error : Tryz.prog.funcs[153]? = some Tryz.f153 := Tryz.func153
abbrev F.runtime_TypeAssertionError_RuntimeError : Nat := 154
theorem G.runtime_TypeAssertionError_RuntimeError : Tryz.prog.funcs[154]? = some Tryz.f154 := Tryz.func154
abbrev F.runtime_PanicNilError_Error : Nat := 155
theorem G.runtime_PanicNilError_Error : Tryz.prog.funcs[155]? = some Tryz.f155 := Tryz.func155
abbrev F.runtime_PanicNilError_RuntimeError : Nat := 156
theorem G.runtime_PanicNilError_RuntimeError : Tryz.prog.funcs[156]? = some Tryz.f156 := Tryz.func156
abbrev F.internal_abi_Type_Align : Nat := 157
theorem G.internal_abi_Type_Align : Tryz.prog.funcs[157]? = some Tryz.f157 := Tryz.func157
abbrev F.internal_runtime_maps_unhashableTypeError_Error : Nat := 158
theorem G.internal_runtime_maps_unhashableTypeError_Error : Tryz.prog.funcs[158]? = some Tryz.f158 := Tryz.func158
abbrev F.internal_runtime_maps_unhashableTypeError_RuntimeError : Nat := 159
theorem G.internal_runtime_maps_unhashableTypeError_RuntimeError : Tryz.prog.funcs[159]? = some Tryz.f159 := Tryz.func159
abbrev Y.Errno : Nat := 35
abbrev Y.IMat : Nat := 150
abbrev Y.IVec : Nat := 130
abbrev Y.Interval : Nat := 77
abbrev Y.Joint : Nat := 75
abbrev Y.Mass : Nat := 108
abbrev Y.Nearest : Nat := 87
abbrev Y.Pair : Nat := 114
abbrev Y.Pose : Nat := 152
abbrev Y.Robot : Nat := 30
abbrev Y.Scene : Nat := 34
abbrev Y.Shape : Nat := 70
abbrev Y.Skip : Nat := 102
abbrev Y.Vec : Nat := 60
abbrev Y.Verdict : Nat := 45
abbrev Y.Witness : Nat := 43
abbrev Y.a0_ptr_runtime_PanicNilError : Nat := 205
abbrev Y.a11_int64 : Nat := 199
abbrev Y.a3_Interval : Nat := 129
abbrev Y.a3_a3_Interval : Nat := 149
abbrev Y.a3_int64 : Nat := 59
abbrev Y.a8_int : Nat := 167
abbrev Y.abi_BoundsErrorCode : Nat := 6
abbrev Y.abi_Kind : Nat := 211
abbrev Y.abi_NameOff : Nat := 214
abbrev Y.abi_TFlag : Nat := 210
abbrev Y.abi_Type : Nat := 217
abbrev Y.abi_TypeOff : Nat := 215
abbrev Y.armplanref14_side : Nat := 85
abbrev Y.bool : Nat := 4
abbrev Y.int : Nat := 3
abbrev Y.int32 : Nat := 21
abbrev Y.int64 : Nat := 2
abbrev Y.interface : Nat := 20
abbrev Y.maps_unhashableTypeError : Nat := 19
abbrev Y.mk_Source : Nat := 98
abbrev Y.ptr_Robot : Nat := 65
abbrev Y.ptr_Scene : Nat := 67
abbrev Y.ptr_abi_Type : Nat := 17
abbrev Y.ptr_mk_Source : Nat := 54
abbrev Y.ptr_runtime_PanicNilError : Nat := 16
abbrev Y.ptr_runtime_TypeAssertionError : Nat := 15
abbrev Y.ptr_uint8 : Nat := 213
abbrev Y.runtime_PanicNilError : Nat := 207
abbrev Y.runtime_TypeAssertionError : Nat := 204
abbrev Y.runtime_boundsError : Nat := 8
abbrev Y.runtime_errorAddressString : Nat := 14
abbrev Y.runtime_errorString : Nat := 10
abbrev Y.runtime_plainError : Nat := 11
abbrev Y.s_IVec : Nat := 83
abbrev Y.s_Interval : Nat := 39
abbrev Y.s_Joint : Nat := 27
abbrev Y.s_Mass : Nat := 28
abbrev Y.s_Pair : Nat := 91
abbrev Y.s_Pose : Nat := 147
abbrev Y.s_Scene : Nat := 23
abbrev Y.s_Shape : Nat := 31
abbrev Y.s_Skip : Nat := 32
abbrev Y.s_Vec : Nat := 24
abbrev Y.s_armplanref14_side : Nat := 78
abbrev Y.s_int : Nat := 22
abbrev Y.s_int64 : Nat := 41
abbrev Y.s_s_IVec : Nat := 112
abbrev Y.string : Nat := 9
abbrev Y.team_arm : Nat := 63
abbrev Y.uint32 : Nat := 209
abbrev Y.uint8 : Nat := 5
abbrev Y.uintptr : Nat := 12
abbrev Y.unsafe_Pointer : Nat := 218
end Go.Proofs.YthdbdokhncaijaaGreat
