/- Names for the functions and types of this seat. Printed by a program. -/
import Derived.Test.YtgakendcmakndaaTy
import Derived.Test.YtgakendcmakndaaRows
namespace Go.Proofs.Ytgakendcmakndaa
abbrev F.main_main : Nat := 0
theorem G.main_main : Try.prog.funcs[0]? = some Try.f0 := Try.func0
abbrev F.gosem_cut : Nat := 1
theorem G.gosem_cut : Try.prog.funcs[1]? = some Try.f1 := Try.func1
abbrev F.gosem_cut_init : Nat := 2
theorem G.gosem_cut_init : Try.prog.funcs[2]? = some Try.f2 := Try.func2
abbrev F.law9_SceneChecks : Nat := 3
theorem G.law9_SceneChecks : Try.prog.funcs[3]? = some Try.f3 := Try.func3
abbrev F.law9_SceneSkips : Nat := 4
theorem G.law9_SceneSkips : Try.prog.funcs[4]? = some Try.f4 := Try.func4
abbrev F.law9_SceneStill : Nat := 5
theorem G.law9_SceneStill : Try.prog.funcs[5]? = some Try.f5 := Try.func5
abbrev F.law9_SceneNames : Nat := 6
theorem G.law9_SceneNames : Try.prog.funcs[6]? = some Try.f6 := Try.func6
abbrev F.law9_ScenePairs : Nat := 7
theorem G.law9_ScenePairs : Try.prog.funcs[7]? = some Try.f7 := Try.func7
abbrev F.mk_Scene : Nat := 8
theorem G.mk_Scene : Try.prog.funcs[8]? = some Try.f8 := Try.func8
abbrev F.law9_changed : Nat := 9
theorem G.law9_changed : Try.prog.funcs[9]? = some Try.f9 := Try.func9
abbrev F.law9_awake : Nat := 10
theorem G.law9_awake : Try.prog.funcs[10]? = some Try.f10 := Try.func10
abbrev F.scene_Check : Nat := 11
theorem G.scene_Check : Try.prog.funcs[11]? = some Try.f11 := Try.func11
abbrev F.ref6_CheckScene : Nat := 12
theorem G.ref6_CheckScene : Try.prog.funcs[12]? = some Try.f12 := Try.func12
abbrev F.mk_Round : Nat := 13
theorem G.mk_Round : Try.prog.funcs[13]? = some Try.f13 := Try.func13
abbrev F.scene_Pairs : Nat := 14
theorem G.scene_Pairs : Try.prog.funcs[14]? = some Try.f14 := Try.func14
abbrev F.scene_Skipped : Nat := 15
theorem G.scene_Skipped : Try.prog.funcs[15]? = some Try.f15 := Try.func15
abbrev F.mk_Same_api_Pair : Nat := 16
theorem G.mk_Same_api_Pair : Try.prog.funcs[16]? = some Try.f16 := Try.func16
abbrev F.ref6_Decimal : Nat := 17
theorem G.ref6_Decimal : Try.prog.funcs[17]? = some Try.f17 := Try.func17
abbrev F.robot_Rigid : Nat := 18
theorem G.robot_Rigid : Try.prog.funcs[18]? = some Try.f18 := Try.func18
abbrev F.mk_From : Nat := 19
theorem G.mk_From : Try.prog.funcs[19]? = some Try.f19 := Try.func19
abbrev F.mk_robot : Nat := 20
theorem G.mk_robot : Try.prog.funcs[20]? = some Try.f20 := Try.func20
abbrev F.mk_Source_Next : Nat := 21
theorem G.mk_Source_Next : Try.prog.funcs[21]? = some Try.f21 := Try.func21
abbrev F.mk_points : Nat := 22
theorem G.mk_points : Try.prog.funcs[22]? = some Try.f22 := Try.func22
abbrev F.mk_Source_Signed : Nat := 23
theorem G.mk_Source_Signed : Try.prog.funcs[23]? = some Try.f23 := Try.func23
abbrev F.law9_one : Nat := 24
theorem G.law9_one : Try.prog.funcs[24]? = some Try.f24 := Try.func24
abbrev F.robot_Check : Nat := 25
theorem G.robot_Check : Try.prog.funcs[25]? = some Try.f25 := Try.func25
abbrev F.scene_checkShape : Nat := 26
theorem G.scene_checkShape : Try.prog.funcs[26]? = some Try.f26 := Try.func26
abbrev F.scene_isLink : Nat := 27
theorem G.scene_isLink : Try.prog.funcs[27]? = some Try.f27 := Try.func27
abbrev F.ref6_CheckRobot : Nat := 28
theorem G.ref6_CheckRobot : Try.prog.funcs[28]? = some Try.f28 := Try.func28
abbrev F.ref6_isLink : Nat := 29
theorem G.ref6_isLink : Try.prog.funcs[29]? = some Try.f29 := Try.func29
abbrev F.ref6_between : Nat := 30
theorem G.ref6_between : Try.prog.funcs[30]? = some Try.f30 := Try.func30
abbrev F.ref6_Near : Nat := 31
theorem G.ref6_Near : Try.prog.funcs[31]? = some Try.f31 := Try.func31
abbrev F.scene_carriers : Nat := 32
theorem G.scene_carriers : Try.prog.funcs[32]? = some Try.f32 := Try.func32
abbrev F.robot_has : Nat := 33
theorem G.robot_has : Try.prog.funcs[33]? = some Try.f33 := Try.func33
abbrev F.slices_ContainsFunc_sint_int : Nat := 34
theorem G.slices_ContainsFunc_sint_int : Try.prog.funcs[34]? = some Try.f34 := Try.func34
abbrev F.robot_between : Nat := 35
theorem G.robot_between : Try.prog.funcs[35]? = some Try.f35 := Try.func35
abbrev F.robot_Rigid_1 : Nat := 36
theorem G.robot_Rigid_1 : Try.prog.funcs[36]? = some Try.f36 := Try.func36
abbrev F.mk_joint : Nat := 37
theorem G.mk_joint : Try.prog.funcs[37]? = some Try.f37 := Try.func37
abbrev F.robot_checkJoint : Nat := 38
theorem G.robot_checkJoint : Try.prog.funcs[38]? = some Try.f38 := Try.func38
abbrev F.slices_ContainsFunc_sapi_Mass_api_Mass : Nat := 39
theorem G.slices_ContainsFunc_sapi_Mass_api_Mass : Try.prog.funcs[39]? = some Try.f39 := Try.func39
abbrev F.robot_Check_1 : Nat := 40
theorem G.robot_Check_1 : Try.prog.funcs[40]? = some Try.f40 := Try.func40
abbrev F.robot_validMass : Nat := 41
theorem G.robot_validMass : Try.prog.funcs[41]? = some Try.f41 := Try.func41
abbrev F.ref6_checkJoint : Nat := 42
theorem G.ref6_checkJoint : Try.prog.funcs[42]? = some Try.f42 := Try.func42
abbrev F.slices_IndexFunc_sint_int : Nat := 43
theorem G.slices_IndexFunc_sint_int : Try.prog.funcs[43]? = some Try.f43 := Try.func43
abbrev F.robot_chain : Nat := 44
theorem G.robot_chain : Try.prog.funcs[44]? = some Try.f44 := Try.func44
abbrev F.mk_letter : Nat := 45
theorem G.mk_letter : Try.prog.funcs[45]? = some Try.f45 := Try.func45
abbrev F.token_Name : Nat := 46
theorem G.token_Name : Try.prog.funcs[46]? = some Try.f46 := Try.func46
abbrev F.robot_Find : Nat := 47
theorem G.robot_Find : Try.prog.funcs[47]? = some Try.f47 := Try.func47
abbrev F.robot_beyond : Nat := 48
theorem G.robot_beyond : Try.prog.funcs[48]? = some Try.f48 := Try.func48
abbrev F.robot_limit : Nat := 49
theorem G.robot_limit : Try.prog.funcs[49]? = some Try.f49 := Try.func49
abbrev F.robot_from1 : Nat := 50
theorem G.robot_from1 : Try.prog.funcs[50]? = some Try.f50 := Try.func50
abbrev F.slices_IndexFunc_sapi_Mass_api_Mass : Nat := 51
theorem G.slices_IndexFunc_sapi_Mass_api_Mass : Try.prog.funcs[51]? = some Try.f51 := Try.func51
abbrev F.ref6_Name : Nat := 52
theorem G.ref6_Name : Try.prog.funcs[52]? = some Try.f52 := Try.func52
abbrev F.ref6_reach : Nat := 53
theorem G.ref6_reach : Try.prog.funcs[53]? = some Try.f53 := Try.func53
abbrev F.token_isLetter : Nat := 54
theorem G.token_isLetter : Try.prog.funcs[54]? = some Try.f54 := Try.func54
abbrev F.token_isDigit : Nat := 55
theorem G.token_isDigit : Try.prog.funcs[55]? = some Try.f55 := Try.func55
abbrev Y.Errno : Nat := 34
abbrev Y.Joint : Nat := 52
abbrev Y.Mass : Nat := 80
abbrev Y.Pair : Nat := 42
abbrev Y.Robot : Nat := 25
abbrev Y.Scene : Nat := 29
abbrev Y.Shape : Nat := 45
abbrev Y.Skip : Nat := 38
abbrev Y.Vec : Nat := 50
abbrev Y.a0_ptr_runtime_PanicNilError : Nat := 100
abbrev Y.a10_int : Nat := 87
abbrev Y.a3_int64 : Nat := 49
abbrev Y.a4_int64 : Nat := 63
abbrev Y.a5_int64 : Nat := 62
abbrev Y.a8_int : Nat := 90
abbrev Y.abi_BoundsErrorCode : Nat := 6
abbrev Y.abi_Kind : Nat := 106
abbrev Y.abi_NameOff : Nat := 109
abbrev Y.abi_TFlag : Nat := 105
abbrev Y.abi_Type : Nat := 112
abbrev Y.abi_TypeOff : Nat := 110
abbrev Y.bool : Nat := 4
abbrev Y.int : Nat := 3
abbrev Y.int32 : Nat := 21
abbrev Y.int64 : Nat := 2
abbrev Y.interface : Nat := 20
abbrev Y.maps_unhashableTypeError : Nat := 19
abbrev Y.mk_Source : Nat := 77
abbrev Y.ptr_abi_Type : Nat := 17
abbrev Y.ptr_mk_Source : Nat := 56
abbrev Y.ptr_runtime_PanicNilError : Nat := 16
abbrev Y.ptr_runtime_TypeAssertionError : Nat := 15
abbrev Y.ptr_uint8 : Nat := 108
abbrev Y.runtime_PanicNilError : Nat := 102
abbrev Y.runtime_TypeAssertionError : Nat := 99
abbrev Y.runtime_boundsError : Nat := 8
abbrev Y.runtime_errorAddressString : Nat := 14
abbrev Y.runtime_errorString : Nat := 10
abbrev Y.runtime_plainError : Nat := 11
abbrev Y.s_Joint : Nat := 22
abbrev Y.s_Mass : Nat := 23
abbrev Y.s_Pair : Nat := 40
abbrev Y.s_Shape : Nat := 26
abbrev Y.s_Skip : Nat := 27
abbrev Y.s_Vec : Nat := 43
abbrev Y.s_int : Nat := 30
abbrev Y.string : Nat := 9
abbrev Y.uint32 : Nat := 104
abbrev Y.uint8 : Nat := 5
abbrev Y.uintptr : Nat := 12
abbrev Y.unsafe_Pointer : Nat := 113
end Go.Proofs.Ytgakendcmakndaa
