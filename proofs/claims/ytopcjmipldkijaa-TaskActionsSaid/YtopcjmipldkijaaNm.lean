/- Names for the functions and types of this seat. Printed by a program. -/
import Derived.Test.YtopcjmipldkijaaTy
import Derived.Test.YtopcjmipldkijaaRows
namespace Go.Proofs.Ytopcjmipldkijaa
abbrev F.main_main : Nat := 0
theorem G.main_main : Try.prog.funcs[0]? = some Try.f0 := Try.func0
abbrev F.gosem_cut : Nat := 1
theorem G.gosem_cut : Try.prog.funcs[1]? = some Try.f1 := Try.func1
abbrev F.gosem_cut_init : Nat := 2
theorem G.gosem_cut_init : Try.prog.funcs[2]? = some Try.f2 := Try.func2
abbrev F.law38_TaskSolves : Nat := 3
theorem G.law38_TaskSolves : Try.prog.funcs[3]? = some Try.f3 := Try.func3
abbrev F.law38_TaskReplays : Nat := 4
theorem G.law38_TaskReplays : Try.prog.funcs[4]? = some Try.f4 := Try.func4
abbrev F.law38_TaskShortest : Nat := 5
theorem G.law38_TaskShortest : Try.prog.funcs[5]? = some Try.f5 := Try.func5
abbrev F.law38_TaskWeaker : Nat := 6
theorem G.law38_TaskWeaker : Try.prog.funcs[6]? = some Try.f6 := Try.func6
abbrev F.law38_TaskKeeps : Nat := 7
theorem G.law38_TaskKeeps : Try.prog.funcs[7]? = some Try.f7 := Try.func7
abbrev F.law38_TaskActions : Nat := 8
theorem G.law38_TaskActions : Try.prog.funcs[8]? = some Try.f8 := Try.func8
abbrev F.law38_small : Nat := 9
theorem G.law38_small : Try.prog.funcs[9]? = some Try.f9 := Try.func9
abbrev F.law38_awake : Nat := 10
theorem G.law38_awake : Try.prog.funcs[10]? = some Try.f10 := Try.func10
abbrev F.mk_Workspace : Nat := 11
theorem G.mk_Workspace : Try.prog.funcs[11]? = some Try.f11 := Try.func11
abbrev F.mk_Mode : Nat := 12
theorem G.mk_Mode : Try.prog.funcs[12]? = some Try.f12 := Try.func12
abbrev F.mk_Round : Nat := 13
theorem G.mk_Round : Try.prog.funcs[13]? = some Try.f13 := Try.func13
abbrev F.law38_solves : Nat := 14
theorem G.law38_solves : Try.prog.funcs[14]? = some Try.f14 := Try.func14
abbrev F.law38_goal : Nat := 15
theorem G.law38_goal : Try.prog.funcs[15]? = some Try.f15 := Try.func15
abbrev F.law38_bans : Nat := 16
theorem G.law38_bans : Try.prog.funcs[16]? = some Try.f16 := Try.func16
abbrev F.task_Solve : Nat := 17
theorem G.task_Solve : Try.prog.funcs[17]? = some Try.f17 := Try.func17
abbrev F.ref36_Reached : Nat := 18
theorem G.ref36_Reached : Try.prog.funcs[18]? = some Try.f18 := Try.func18
abbrev F.mk_Same_int : Nat := 19
theorem G.mk_Same_int : Try.prog.funcs[19]? = some Try.f19 := Try.func19
abbrev F.ref36_Apply : Nat := 20
theorem G.ref36_Apply : Try.prog.funcs[20]? = some Try.f20 := Try.func20
abbrev F.ref36_Actions : Nat := 21
theorem G.ref36_Actions : Try.prog.funcs[21]? = some Try.f21 := Try.func21
abbrev F.task_Actions : Nat := 22
theorem G.task_Actions : Try.prog.funcs[22]? = some Try.f22 := Try.func22
abbrev F.task_Apply : Nat := 23
theorem G.task_Apply : Try.prog.funcs[23]? = some Try.f23 := Try.func23
abbrev F.ref32_ValidMode : Nat := 24
theorem G.ref32_ValidMode : Try.prog.funcs[24]? = some Try.f24 := Try.func24
abbrev F.law38_actions : Nat := 25
theorem G.law38_actions : Try.prog.funcs[25]? = some Try.f25 := Try.func25
abbrev F.law38_action : Nat := 26
theorem G.law38_action : Try.prog.funcs[26]? = some Try.f26 := Try.func26
abbrev F.law34_Altered : Nat := 27
theorem G.law34_Altered : Try.prog.funcs[27]? = some Try.f27 := Try.func27
abbrev F.mk_SmallScene : Nat := 28
theorem G.mk_SmallScene : Try.prog.funcs[28]? = some Try.f28 := Try.func28
abbrev F.law38_one : Nat := 29
theorem G.law38_one : Try.prog.funcs[29]? = some Try.f29 := Try.func29
abbrev F.mk_Same_api_Action : Nat := 30
theorem G.mk_Same_api_Action : Try.prog.funcs[30]? = some Try.f30 := Try.func30
abbrev F.mk_From : Nat := 31
theorem G.mk_From : Try.prog.funcs[31]? = some Try.f31 := Try.func31
abbrev F.mk_Slider : Nat := 32
theorem G.mk_Slider : Try.prog.funcs[32]? = some Try.f32 := Try.func32
abbrev F.mk_Source_Next : Nat := 33
theorem G.mk_Source_Next : Try.prog.funcs[33]? = some Try.f33 := Try.func33
abbrev F.mk_letter : Nat := 34
theorem G.mk_letter : Try.prog.funcs[34]? = some Try.f34 := Try.func34
abbrev F.mk_Source_Signed : Nat := 35
theorem G.mk_Source_Signed : Try.prog.funcs[35]? = some Try.f35 := Try.func35
abbrev F.mk_used : Nat := 36
theorem G.mk_used : Try.prog.funcs[36]? = some Try.f36 := Try.func36
abbrev F.ref36_SolveTask : Nat := 37
theorem G.ref36_SolveTask : Try.prog.funcs[37]? = some Try.f37 := Try.func37
abbrev F.grasp_Valid : Nat := 38
theorem G.grasp_Valid : Try.prog.funcs[38]? = some Try.f38 := Try.func38
abbrev F.task_placesOf : Nat := 39
theorem G.task_placesOf : Try.prog.funcs[39]? = some Try.f39 := Try.func39
abbrev F.task_places_meet : Nat := 40
theorem G.task_places_meet : Try.prog.funcs[40]? = some Try.f40 := Try.func40
abbrev F.task_newTable : Nat := 41
theorem G.task_newTable : Try.prog.funcs[41]? = some Try.f41 := Try.func41
abbrev F.task_bannedIn : Nat := 42
theorem G.task_bannedIn : Try.prog.funcs[42]? = some Try.f42 := Try.func42
abbrev F.task_table_actions : Nat := 43
theorem G.task_table_actions : Try.prog.funcs[43]? = some Try.f43 := Try.func43
abbrev F.task_after : Nat := 44
theorem G.task_after : Try.prog.funcs[44]? = some Try.f44 := Try.func44
abbrev F.task_way : Nat := 45
theorem G.task_way : Try.prog.funcs[45]? = some Try.f45 := Try.func45
abbrev F.ref36_there : Nat := 46
theorem G.ref36_there : Try.prog.funcs[46]? = some Try.f46 := Try.func46
abbrev F.ref36_can : Nat := 47
theorem G.ref36_can : Try.prog.funcs[47]? = some Try.f47 := Try.func47
abbrev F.ref32_ObjectAt : Nat := 48
theorem G.ref32_ObjectAt : Try.prog.funcs[48]? = some Try.f48 := Try.func48
abbrev F.slices_Contains_sapi_Action_api_Action : Nat := 49
theorem G.slices_Contains_sapi_Action_api_Action : Try.prog.funcs[49]? = some Try.f49 := Try.func49
abbrev F.slices_Clone_sint_int : Nat := 50
theorem G.slices_Clone_sint_int : Try.prog.funcs[50]? = some Try.f50 := Try.func50
abbrev F.ref32_CheckWork : Nat := 51
theorem G.ref32_CheckWork : Try.prog.funcs[51]? = some Try.f51 := Try.func51
abbrev F.task_Reached : Nat := 52
theorem G.task_Reached : Try.prog.funcs[52]? = some Try.f52 := Try.func52
abbrev F.ref36_banned : Nat := 53
theorem G.ref36_banned : Try.prog.funcs[53]? = some Try.f53 := Try.func53
abbrev F.ref36_SameMode : Nat := 54
theorem G.ref36_SameMode : Try.prog.funcs[54]? = some Try.f54 := Try.func54
abbrev F.grasp_Check : Nat := 55
theorem G.grasp_Check : Try.prog.funcs[55]? = some Try.f55 := Try.func55
abbrev F.slices_Contains_sint_int : Nat := 56
theorem G.slices_Contains_sint_int : Try.prog.funcs[56]? = some Try.f56 := Try.func56
abbrev F.task_newTable_1 : Nat := 57
theorem G.task_newTable_1 : Try.prog.funcs[57]? = some Try.f57 := Try.func57
abbrev F.slices_ContainsFunc_sapi_Grip_api_Grip : Nat := 58
theorem G.slices_ContainsFunc_sapi_Grip_api_Grip : Try.prog.funcs[58]? = some Try.f58 := Try.func58
abbrev F.task_places_find : Nat := 59
theorem G.task_places_find : Try.prog.funcs[59]? = some Try.f59 := Try.func59
abbrev F.ref36_gripped : Nat := 60
theorem G.ref36_gripped : Try.prog.funcs[60]? = some Try.f60 := Try.func60
abbrev F.slices_Index_sapi_Action_api_Action : Nat := 61
theorem G.slices_Index_sapi_Action_api_Action : Try.prog.funcs[61]? = some Try.f61 := Try.func61
abbrev F.ref6_CheckScene : Nat := 62
theorem G.ref6_CheckScene : Try.prog.funcs[62]? = some Try.f62 := Try.func62
abbrev F.ref6_Near : Nat := 63
theorem G.ref6_Near : Try.prog.funcs[63]? = some Try.f63 := Try.func63
abbrev F.ref10_Inside : Nat := 64
theorem G.ref10_Inside : Try.prog.funcs[64]? = some Try.f64 := Try.func64
abbrev F.ref32_object : Nat := 65
theorem G.ref32_object : Try.prog.funcs[65]? = some Try.f65 := Try.func65
abbrev F.scene_Check : Nat := 66
theorem G.scene_Check : Try.prog.funcs[66]? = some Try.f66 := Try.func66
abbrev F.grasp_fitting : Nat := 67
theorem G.grasp_fitting : Try.prog.funcs[67]? = some Try.f67 := Try.func67
abbrev F.grasp_Check_1 : Nat := 68
theorem G.grasp_Check_1 : Try.prog.funcs[68]? = some Try.f68 := Try.func68
abbrev F.token_Name : Nat := 69
theorem G.token_Name : Try.prog.funcs[69]? = some Try.f69 := Try.func69
abbrev F.slices_ContainsFunc_sapi_Object_api_Object : Nat := 70
theorem G.slices_ContainsFunc_sapi_Object_api_Object : Try.prog.funcs[70]? = some Try.f70 := Try.func70
abbrev F.grasp_solid : Nat := 71
theorem G.grasp_solid : Try.prog.funcs[71]? = some Try.f71 := Try.func71
abbrev F.slices_Index_sint_int : Nat := 72
theorem G.slices_Index_sint_int : Try.prog.funcs[72]? = some Try.f72 := Try.func72
abbrev F.slices_IndexFunc_sapi_Grip_api_Grip : Nat := 73
theorem G.slices_IndexFunc_sapi_Grip_api_Grip : Try.prog.funcs[73]? = some Try.f73 := Try.func73
abbrev F.ref6_CheckRobot : Nat := 74
theorem G.ref6_CheckRobot : Try.prog.funcs[74]? = some Try.f74 := Try.func74
abbrev F.ref6_isLink : Nat := 75
theorem G.ref6_isLink : Try.prog.funcs[75]? = some Try.f75 := Try.func75
abbrev F.ref6_between : Nat := 76
theorem G.ref6_between : Try.prog.funcs[76]? = some Try.f76 := Try.func76
abbrev F.ref6_Name : Nat := 77
theorem G.ref6_Name : Try.prog.funcs[77]? = some Try.f77 := Try.func77
abbrev F.ref10_CheckShape : Nat := 78
theorem G.ref10_CheckShape : Try.prog.funcs[78]? = some Try.f78 := Try.func78
abbrev F.robot_Check : Nat := 79
theorem G.robot_Check : Try.prog.funcs[79]? = some Try.f79 := Try.func79
abbrev F.scene_checkShape : Nat := 80
theorem G.scene_checkShape : Try.prog.funcs[80]? = some Try.f80 := Try.func80
abbrev F.scene_isLink : Nat := 81
theorem G.scene_isLink : Try.prog.funcs[81]? = some Try.f81 := Try.func81
abbrev F.grasp_near : Nat := 82
theorem G.grasp_near : Try.prog.funcs[82]? = some Try.f82 := Try.func82
abbrev F.grasp_known : Nat := 83
theorem G.grasp_known : Try.prog.funcs[83]? = some Try.f83 := Try.func83
abbrev F.config_Inside : Nat := 84
theorem G.config_Inside : Try.prog.funcs[84]? = some Try.f84 := Try.func84
abbrev F.token_isLetter : Nat := 85
theorem G.token_isLetter : Try.prog.funcs[85]? = some Try.f85 := Try.func85
abbrev F.token_isDigit : Nat := 86
theorem G.token_isDigit : Try.prog.funcs[86]? = some Try.f86 := Try.func86
abbrev F.slices_IndexFunc_sapi_Object_api_Object : Nat := 87
theorem G.slices_IndexFunc_sapi_Object_api_Object : Try.prog.funcs[87]? = some Try.f87 := Try.func87
abbrev F.shape_Check : Nat := 88
theorem G.shape_Check : Try.prog.funcs[88]? = some Try.f88 := Try.func88
abbrev F.ref6_checkJoint : Nat := 89
theorem G.ref6_checkJoint : Try.prog.funcs[89]? = some Try.f89 := Try.func89
abbrev F.robot_checkJoint : Nat := 90
theorem G.robot_checkJoint : Try.prog.funcs[90]? = some Try.f90 := Try.func90
abbrev F.slices_ContainsFunc_sapi_Mass_api_Mass : Nat := 91
theorem G.slices_ContainsFunc_sapi_Mass_api_Mass : Try.prog.funcs[91]? = some Try.f91 := Try.func91
abbrev F.robot_Check_1 : Nat := 92
theorem G.robot_Check_1 : Try.prog.funcs[92]? = some Try.f92 := Try.func92
abbrev F.robot_validMass : Nat := 93
theorem G.robot_validMass : Try.prog.funcs[93]? = some Try.f93 := Try.func93
abbrev F.config_every_api_Joint_int64 : Nat := 94
theorem G.config_every_api_Joint_int64 : Try.prog.funcs[94]? = some Try.f94 := Try.func94
abbrev F.config_Inside_1 : Nat := 95
theorem G.config_Inside_1 : Try.prog.funcs[95]? = some Try.f95 := Try.func95
abbrev F.ref6_reach : Nat := 96
theorem G.ref6_reach : Try.prog.funcs[96]? = some Try.f96 := Try.func96
abbrev F.robot_Find : Nat := 97
theorem G.robot_Find : Try.prog.funcs[97]? = some Try.f97 := Try.func97
abbrev F.robot_beyond : Nat := 98
theorem G.robot_beyond : Try.prog.funcs[98]? = some Try.f98 := Try.func98
abbrev F.robot_limit : Nat := 99
theorem G.robot_limit : Try.prog.funcs[99]? = some Try.f99 := Try.func99
abbrev F.robot_from1 : Nat := 100
theorem G.robot_from1 : Try.prog.funcs[100]? = some Try.f100 := Try.func100
abbrev F.slices_IndexFunc_sapi_Mass_api_Mass : Nat := 101
theorem G.slices_IndexFunc_sapi_Mass_api_Mass : Try.prog.funcs[101]? = some Try.f101 := Try.func101
abbrev Y.Action : Nat := 54
abbrev Y.Ban : Nat := 56
abbrev Y.Errno : Nat := 113
abbrev Y.Grip : Nat := 88
abbrev Y.Hand : Nat := 81
abbrev Y.Joint : Nat := 119
abbrev Y.Mass : Nat := 150
abbrev Y.Mode : Nat := 38
abbrev Y.Object : Nat := 84
abbrev Y.Robot : Nat := 25
abbrev Y.Scene : Nat := 29
abbrev Y.Shape : Nat := 78
abbrev Y.Skip : Nat := 141
abbrev Y.Vec : Nat := 76
abbrev Y.Workspace : Nat := 35
abbrev Y.a0_ptr_runtime_PanicNilError : Nat := 163
abbrev Y.a3_int64 : Nat := 75
abbrev Y.a4_string : Nat := 115
abbrev Y.a6_int : Nat := 90
abbrev Y.abi_BoundsErrorCode : Nat := 6
abbrev Y.abi_Kind : Nat := 169
abbrev Y.abi_NameOff : Nat := 172
abbrev Y.abi_TFlag : Nat := 168
abbrev Y.abi_Type : Nat := 175
abbrev Y.abi_TypeOff : Nat := 173
abbrev Y.armplanref36_node : Nat := 121
abbrev Y.bool : Nat := 4
abbrev Y.int : Nat := 3
abbrev Y.int32 : Nat := 21
abbrev Y.int64 : Nat := 2
abbrev Y.interface : Nat := 20
abbrev Y.map_task_ban_bool : Nat := 96
abbrev Y.map_task_places_task_origin : Nat := 100
abbrev Y.maps_unhashableTypeError : Nat := 19
abbrev Y.mk_Source : Nat := 117
abbrev Y.ptr_abi_Type : Nat := 17
abbrev Y.ptr_mk_Source : Nat := 72
abbrev Y.ptr_runtime_PanicNilError : Nat := 16
abbrev Y.ptr_runtime_TypeAssertionError : Nat := 15
abbrev Y.ptr_uint8 : Nat := 171
abbrev Y.runtime_PanicNilError : Nat := 165
abbrev Y.runtime_TypeAssertionError : Nat := 162
abbrev Y.runtime_boundsError : Nat := 8
abbrev Y.runtime_errorAddressString : Nat := 14
abbrev Y.runtime_errorString : Nat := 10
abbrev Y.runtime_plainError : Nat := 11
abbrev Y.s_Action : Nat := 49
abbrev Y.s_Ban : Nat := 39
abbrev Y.s_Grip : Nat := 33
abbrev Y.s_Hand : Nat := 32
abbrev Y.s_Joint : Nat := 22
abbrev Y.s_Mass : Nat := 23
abbrev Y.s_Object : Nat := 30
abbrev Y.s_Shape : Nat := 26
abbrev Y.s_Skip : Nat := 27
abbrev Y.s_Vec : Nat := 31
abbrev Y.s_armplanref36_node : Nat := 122
abbrev Y.s_int : Nat := 36
abbrev Y.s_int64 : Nat := 86
abbrev Y.s_task_places : Nat := 101
abbrev Y.string : Nat := 9
abbrev Y.task_ban : Nat := 106
abbrev Y.task_origin : Nat := 99
abbrev Y.task_places : Nat := 91
abbrev Y.task_table : Nat := 94
abbrev Y.uint32 : Nat := 167
abbrev Y.uint8 : Nat := 5
abbrev Y.uintptr : Nat := 12
abbrev Y.unsafe_Pointer : Nat := 176
end Go.Proofs.Ytopcjmipldkijaa
