/- Names for the functions and types of this seat. Printed by a program. -/
import Derived.Test.YtgnblfojpcjgmaaTy
import Derived.Test.YtgnblfojpcjgmaaRows
namespace Go.Proofs.Ytgnblfojpcjgmaa
abbrev F.main_main : Nat := 0
theorem G.main_main : Try.prog.funcs[0]? = some Try.f0 := Try.func0
abbrev F.gosem_cut : Nat := 1
theorem G.gosem_cut : Try.prog.funcs[1]? = some Try.f1 := Try.func1
abbrev F.gosem_cut_init : Nat := 2
theorem G.gosem_cut_init : Try.prog.funcs[2]? = some Try.f2 := Try.func2
abbrev F.law7_SyntaxParses : Nat := 3
theorem G.law7_SyntaxParses : Try.prog.funcs[3]? = some Try.f3 := Try.func3
abbrev F.law7_SyntaxComments : Nat := 4
theorem G.law7_SyntaxComments : Try.prog.funcs[4]? = some Try.f4 := Try.func4
abbrev F.law7_SyntaxPrefix : Nat := 5
theorem G.law7_SyntaxPrefix : Try.prog.funcs[5]? = some Try.f5 := Try.func5
abbrev F.law7_SyntaxArguments : Nat := 6
theorem G.law7_SyntaxArguments : Try.prog.funcs[6]? = some Try.f6 := Try.func6
abbrev F.law7_SyntaxRoundTrip : Nat := 7
theorem G.law7_SyntaxRoundTrip : Try.prog.funcs[7]? = some Try.f7 := Try.func7
abbrev F.law7_SyntaxFormats : Nat := 8
theorem G.law7_SyntaxFormats : Try.prog.funcs[8]? = some Try.f8 := Try.func8
abbrev F.law7_awake : Nat := 9
theorem G.law7_awake : Try.prog.funcs[9]? = some Try.f9 := Try.func9
abbrev F.law7_parses : Nat := 10
theorem G.law7_parses : Try.prog.funcs[10]? = some Try.f10 := Try.func10
abbrev F.law7_typical : Nat := 11
theorem G.law7_typical : Try.prog.funcs[11]? = some Try.f11 := Try.func11
abbrev F.ref6_WriteScene : Nat := 12
theorem G.ref6_WriteScene : Try.prog.funcs[12]? = some Try.f12 := Try.func12
abbrev F.mk_Scene : Nat := 13
theorem G.mk_Scene : Try.prog.funcs[13]? = some Try.f13 := Try.func13
abbrev F.ref6_FormatStatements : Nat := 14
theorem G.ref6_FormatStatements : Try.prog.funcs[14]? = some Try.f14 := Try.func14
abbrev F.syntax_Parse : Nat := 15
theorem G.syntax_Parse : Try.prog.funcs[15]? = some Try.f15 := Try.func15
abbrev F.mk_SameStatements : Nat := 16
theorem G.mk_SameStatements : Try.prog.funcs[16]? = some Try.f16 := Try.func16
abbrev F.mk_Round : Nat := 17
theorem G.mk_Round : Try.prog.funcs[17]? = some Try.f17 := Try.func17
abbrev F.syntax_Arguments : Nat := 18
theorem G.syntax_Arguments : Try.prog.funcs[18]? = some Try.f18 := Try.func18
abbrev F.ref6_Arguments : Nat := 19
theorem G.ref6_Arguments : Try.prog.funcs[19]? = some Try.f19 := Try.func19
abbrev F.syntax_Format : Nat := 20
theorem G.syntax_Format : Try.prog.funcs[20]? = some Try.f20 := Try.func20
abbrev F.mk_Same_int : Nat := 21
theorem G.mk_Same_int : Try.prog.funcs[21]? = some Try.f21 := Try.func21
abbrev F.syntax_Uses : Nat := 22
theorem G.syntax_Uses : Try.prog.funcs[22]? = some Try.f22 := Try.func22
abbrev F.ref6_Uses : Nat := 23
theorem G.ref6_Uses : Try.prog.funcs[23]? = some Try.f23 := Try.func23
abbrev F.ref6_Parse : Nat := 24
theorem G.ref6_Parse : Try.prog.funcs[24]? = some Try.f24 := Try.func24
abbrev F.ref6_CheckScene : Nat := 25
theorem G.ref6_CheckScene : Try.prog.funcs[25]? = some Try.f25 := Try.func25
abbrev F.ref6_WriteRobot : Nat := 26
theorem G.ref6_WriteRobot : Try.prog.funcs[26]? = some Try.f26 := Try.func26
abbrev F.ref6_linkName : Nat := 27
theorem G.ref6_linkName : Try.prog.funcs[27]? = some Try.f27 := Try.func27
abbrev F.ref6_written : Nat := 28
theorem G.ref6_written : Try.prog.funcs[28]? = some Try.f28 := Try.func28
abbrev F.mk_From : Nat := 29
theorem G.mk_From : Try.prog.funcs[29]? = some Try.f29 := Try.func29
abbrev F.mk_robot : Nat := 30
theorem G.mk_robot : Try.prog.funcs[30]? = some Try.f30 := Try.func30
abbrev F.mk_Source_Next : Nat := 31
theorem G.mk_Source_Next : Try.prog.funcs[31]? = some Try.f31 := Try.func31
abbrev F.mk_points : Nat := 32
theorem G.mk_points : Try.prog.funcs[32]? = some Try.f32 := Try.func32
abbrev F.mk_Source_Signed : Nat := 33
theorem G.mk_Source_Signed : Try.prog.funcs[33]? = some Try.f33 := Try.func33
abbrev F.token_Split : Nat := 34
theorem G.token_Split : Try.prog.funcs[34]? = some Try.f34 := Try.func34
abbrev F.syntax_group : Nat := 35
theorem G.syntax_group : Try.prog.funcs[35]? = some Try.f35 := Try.func35
abbrev F.syntax_table : Nat := 36
theorem G.syntax_table : Try.prog.funcs[36]? = some Try.f36 := Try.func36
abbrev F.syntax_check : Nat := 37
theorem G.syntax_check : Try.prog.funcs[37]? = some Try.f37 := Try.func37
abbrev F.mk_Same_string : Nat := 38
theorem G.mk_Same_string : Try.prog.funcs[38]? = some Try.f38 := Try.func38
abbrev F.syntax_counts_allow : Nat := 39
theorem G.syntax_counts_allow : Try.prog.funcs[39]? = some Try.f39 := Try.func39
abbrev F.strings_Builder_WriteString : Nat := 40
theorem G.strings_Builder_WriteString : Try.prog.funcs[40]? = some Try.f40 := Try.func40
abbrev F.strings_Builder_String : Nat := 41
theorem G.strings_Builder_String : Try.prog.funcs[41]? = some Try.f41 := Try.func41
abbrev F.ref6_Split : Nat := 42
theorem G.ref6_Split : Try.prog.funcs[42]? = some Try.f42 := Try.func42
abbrev F.ref6_Known : Nat := 43
theorem G.ref6_Known : Try.prog.funcs[43]? = some Try.f43 := Try.func43
abbrev F.ref6_CheckRobot : Nat := 44
theorem G.ref6_CheckRobot : Try.prog.funcs[44]? = some Try.f44 := Try.func44
abbrev F.ref6_isLink : Nat := 45
theorem G.ref6_isLink : Try.prog.funcs[45]? = some Try.f45 := Try.func45
abbrev F.ref6_between : Nat := 46
theorem G.ref6_between : Try.prog.funcs[46]? = some Try.f46 := Try.func46
abbrev F.ref6_Near : Nat := 47
theorem G.ref6_Near : Try.prog.funcs[47]? = some Try.f47 := Try.func47
abbrev F.ref6_kindName : Nat := 48
theorem G.ref6_kindName : Try.prog.funcs[48]? = some Try.f48 := Try.func48
abbrev F.ref6_Decimal : Nat := 49
theorem G.ref6_Decimal : Try.prog.funcs[49]? = some Try.f49 := Try.func49
abbrev F.ref6_Format : Nat := 50
theorem G.ref6_Format : Try.prog.funcs[50]? = some Try.f50 := Try.func50
abbrev F.mk_joint : Nat := 51
theorem G.mk_joint : Try.prog.funcs[51]? = some Try.f51 := Try.func51
abbrev F.token_Split_1 : Nat := 52
theorem G.token_Split_1 : Try.prog.funcs[52]? = some Try.f52 := Try.func52
abbrev F.token_isWord : Nat := 53
theorem G.token_isWord : Try.prog.funcs[53]? = some Try.f53 := Try.func53
abbrev F.strings_Builder_copyCheck : Nat := 54
theorem G.strings_Builder_copyCheck : Try.prog.funcs[54]? = some Try.f54 := Try.func54
abbrev F.ref6_permitted : Nat := 55
theorem G.ref6_permitted : Try.prog.funcs[55]? = some Try.f55 := Try.func55
abbrev F.ref6_inWord : Nat := 56
theorem G.ref6_inWord : Try.prog.funcs[56]? = some Try.f56 := Try.func56
abbrev F.ref6_checkJoint : Nat := 57
theorem G.ref6_checkJoint : Try.prog.funcs[57]? = some Try.f57 := Try.func57
abbrev F.mk_letter : Nat := 58
theorem G.mk_letter : Try.prog.funcs[58]? = some Try.f58 := Try.func58
abbrev F.internal_abi_NoEscape : Nat := 59
theorem G.internal_abi_NoEscape : Try.prog.funcs[59]? = some Try.f59 := Try.func59
abbrev F.ref6_Name : Nat := 60
theorem G.ref6_Name : Try.prog.funcs[60]? = some Try.f60 := Try.func60
abbrev F.ref6_reach : Nat := 61
theorem G.ref6_reach : Try.prog.funcs[61]? = some Try.f61 := Try.func61
abbrev F.runtime_boundsError_Error : Nat := 62
theorem G.runtime_boundsError_Error : Try.prog.funcs[62]? = some Try.f62 := Try.func62
abbrev F.runtime_boundsError_RuntimeError : Nat := 63
theorem G.runtime_boundsError_RuntimeError : Try.prog.funcs[63]? = some Try.f63 := Try.func63
abbrev F.runtime_errorString_Error : Nat := 64
theorem G.runtime_errorString_Error : Try.prog.funcs[64]? = some Try.f64 := Try.func64
abbrev F.runtime_errorString_RuntimeError : Nat := 65
theorem G.runtime_errorString_RuntimeError : Try.prog.funcs[65]? = some Try.f65 := Try.func65
abbrev F.runtime_plainError_Error : Nat := 66
theorem G.runtime_plainError_Error : Try.prog.funcs[66]? = some Try.f66 := Try.func66
abbrev F.runtime_plainError_RuntimeError : Nat := 67
theorem G.runtime_plainError_RuntimeError : Try.prog.funcs[67]? = some Try.f67 := Try.func67
abbrev F.runtime_errorAddressString_Error : Nat := 68
theorem G.runtime_errorAddressString_Error : Try.prog.funcs[68]? = some Try.f68 := Try.func68
abbrev F.runtime_errorAddressString_RuntimeError : Nat := 69
theorem G.runtime_errorAddressString_RuntimeError : Try.prog.funcs[69]? = some Try.f69 := Try.func69
abbrev F.runtime_TypeAssertionError_Error : Nat := 70
theorem G.runtime_TypeAssertionError_Error : Try.prog.funcs[70]? = some Try.f70 := Try.func70
abbrev F.runtime_TypeAssertionError_RuntimeError : Nat := 71
theorem G.runtime_TypeAssertionError_RuntimeError : Try.prog.funcs[71]? = some Try.f71 := Try.func71
abbrev F.runtime_PanicNilError_Error : Nat := 72
theorem G.runtime_PanicNilError_Error : Try.prog.funcs[72]? = some Try.f72 := Try.func72
abbrev F.runtime_PanicNilError_RuntimeError : Nat := 73
theorem G.runtime_PanicNilError_RuntimeError : Try.prog.funcs[73]? = some Try.f73 := Try.func73
abbrev F.internal_abi_Type_Align : Nat := 74
theorem G.internal_abi_Type_Align : Try.prog.funcs[74]? = some Try.f74 := Try.func74
abbrev F.internal_runtime_maps_unhashableTypeError_Error : Nat := 75
theorem G.internal_runtime_maps_unhashableTypeError_Error : Try.prog.funcs[75]? = some Try.f75 := Try.func75
abbrev F.internal_runtime_maps_unhashableTypeError_RuntimeError : Nat := 76
theorem G.internal_runtime_maps_unhashableTypeError_RuntimeError : Try.prog.funcs[76]? = some Try.f76 := Try.func76
abbrev F.strings_Builder_Reset : Nat := 77
theorem G.strings_Builder_Reset : Try.prog.funcs[77]? = some Try.f77 := Try.func77
abbrev F.internal_abi_Kind_String : Nat := 78
theorem G.internal_abi_Kind_String : Try.prog.funcs[78]? = some Try.f78 := Try.func78
abbrev Y.Errno : Nat := 41
abbrev Y.Joint : Nat := 105
abbrev Y.Mass : Nat := 109
abbrev Y.Robot : Nat := 33
abbrev Y.Scene : Nat := 37
abbrev Y.Shape : Nat := 65
abbrev Y.Skip : Nat := 71
abbrev Y.SourceError : Nat := 43
abbrev Y.Statement : Nat := 55
abbrev Y.Vec : Nat := 69
abbrev Y.Word : Nat := 99
abbrev Y.a0_ptr_runtime_PanicNilError : Nat := 126
abbrev Y.a12_string : Nat := 60
abbrev Y.a3_int64 : Nat := 68
abbrev Y.a4_string : Nat := 39
abbrev Y.a6_string : Nat := 49
abbrev Y.a7_string : Nat := 120
abbrev Y.a8_int : Nat := 121
abbrev Y.abi_BoundsErrorCode : Nat := 6
abbrev Y.abi_Kind : Nat := 132
abbrev Y.abi_NameOff : Nat := 134
abbrev Y.abi_TFlag : Nat := 131
abbrev Y.abi_Type : Nat := 137
abbrev Y.abi_TypeOff : Nat := 135
abbrev Y.bool : Nat := 4
abbrev Y.error : Nat := 94
abbrev Y.int : Nat := 3
abbrev Y.int32 : Nat := 21
abbrev Y.int64 : Nat := 2
abbrev Y.interface : Nat := 20
abbrev Y.interface_Error_string : Nat := 93
abbrev Y.map_string_syntax_counts : Nat := 82
abbrev Y.maps_unhashableTypeError : Nat := 19
abbrev Y.mk_Source : Nat := 113
abbrev Y.ptr_abi_Type : Nat := 17
abbrev Y.ptr_mk_Source : Nat := 72
abbrev Y.ptr_runtime_PanicNilError : Nat := 16
abbrev Y.ptr_runtime_TypeAssertionError : Nat := 15
abbrev Y.ptr_strings_Builder : Nat := 90
abbrev Y.ptr_uint8 : Nat := 117
abbrev Y.runtime_PanicNilError : Nat := 128
abbrev Y.runtime_TypeAssertionError : Nat := 125
abbrev Y.runtime_boundsError : Nat := 8
abbrev Y.runtime_errorAddressString : Nat := 14
abbrev Y.runtime_errorString : Nat := 10
abbrev Y.runtime_plainError : Nat := 11
abbrev Y.s_Joint : Nat := 30
abbrev Y.s_Mass : Nat := 31
abbrev Y.s_Shape : Nat := 34
abbrev Y.s_Skip : Nat := 35
abbrev Y.s_Statement : Nat := 28
abbrev Y.s_Vec : Nat := 63
abbrev Y.s_Word : Nat := 78
abbrev Y.s_int : Nat := 27
abbrev Y.s_int64 : Nat := 110
abbrev Y.s_string : Nat := 53
abbrev Y.s_uint8 : Nat := 22
abbrev Y.string : Nat := 9
abbrev Y.strings_Builder : Nat := 92
abbrev Y.syntax_counts : Nat := 87
abbrev Y.uint32 : Nat := 130
abbrev Y.uint8 : Nat := 5
abbrev Y.uintptr : Nat := 12
abbrev Y.unsafe_Pointer : Nat := 122
end Go.Proofs.Ytgnblfojpcjgmaa
