/- Names for the functions and types of this seat. Printed by a program. -/
import Derived.Test.YtoabhjflfbblfaaTy
import Derived.Test.YtoabhjflfbblfaaRows
namespace Go.Proofs.Ytoabhjflfbblfaa
abbrev F.main_main : Nat := 0
theorem G.main_main : Try.prog.funcs[0]? = some Try.f0 := Try.func0
abbrev F.gosem_cut : Nat := 1
theorem G.gosem_cut : Try.prog.funcs[1]? = some Try.f1 := Try.func1
abbrev F.gosem_cut_init : Nat := 2
theorem G.gosem_cut_init : Try.prog.funcs[2]? = some Try.f2 := Try.func2
abbrev F.law6_TokenSplits : Nat := 3
theorem G.law6_TokenSplits : Try.prog.funcs[3]? = some Try.f3 := Try.func3
abbrev F.law6_TokenRejoins : Nat := 4
theorem G.law6_TokenRejoins : Try.prog.funcs[4]? = some Try.f4 := Try.func4
abbrev F.law6_TokenPlaces : Nat := 5
theorem G.law6_TokenPlaces : Try.prog.funcs[5]? = some Try.f5 := Try.func5
abbrev F.law6_TokenNearest : Nat := 6
theorem G.law6_TokenNearest : Try.prog.funcs[6]? = some Try.f6 := Try.func6
abbrev F.law6_TokenNames : Nat := 7
theorem G.law6_TokenNames : Try.prog.funcs[7]? = some Try.f7 := Try.func7
abbrev F.law6_TokenNumbers : Nat := 8
theorem G.law6_TokenNumbers : Try.prog.funcs[8]? = some Try.f8 := Try.func8
abbrev F.law6_awake : Nat := 9
theorem G.law6_awake : Try.prog.funcs[9]? = some Try.f9 := Try.func9
abbrev F.law6_splits : Nat := 10
theorem G.law6_splits : Try.prog.funcs[10]? = some Try.f10 := Try.func10
abbrev F.law6_typical : Nat := 11
theorem G.law6_typical : Try.prog.funcs[11]? = some Try.f11 := Try.func11
abbrev F.token_Split : Nat := 12
theorem G.token_Split : Try.prog.funcs[12]? = some Try.f12 := Try.func12
abbrev F.token_Number : Nat := 13
theorem G.token_Number : Try.prog.funcs[13]? = some Try.f13 := Try.func13
abbrev F.ref6_Decimal : Nat := 14
theorem G.ref6_Decimal : Try.prog.funcs[14]? = some Try.f14 := Try.func14
abbrev F.token_Name : Nat := 15
theorem G.token_Name : Try.prog.funcs[15]? = some Try.f15 := Try.func15
abbrev F.ref6_Name : Nat := 16
theorem G.ref6_Name : Try.prog.funcs[16]? = some Try.f16 := Try.func16
abbrev F.law6_numbers : Nat := 17
theorem G.law6_numbers : Try.prog.funcs[17]? = some Try.f17 := Try.func17
abbrev F.mk_Same_api_Word : Nat := 18
theorem G.mk_Same_api_Word : Try.prog.funcs[18]? = some Try.f18 := Try.func18
abbrev F.ref6_Split : Nat := 19
theorem G.ref6_Split : Try.prog.funcs[19]? = some Try.f19 := Try.func19
abbrev F.token_Split_1 : Nat := 20
theorem G.token_Split_1 : Try.prog.funcs[20]? = some Try.f20 := Try.func20
abbrev F.token_isWord : Nat := 21
theorem G.token_isWord : Try.prog.funcs[21]? = some Try.f21 := Try.func21
abbrev F.strings_CutPrefix : Nat := 22
theorem G.strings_CutPrefix : Try.prog.funcs[22]? = some Try.f22 := Try.func22
abbrev F.strings_Cut : Nat := 23
theorem G.strings_Cut : Try.prog.funcs[23]? = some Try.f23 := Try.func23
abbrev F.token_digits : Nat := 24
theorem G.token_digits : Try.prog.funcs[24]? = some Try.f24 := Try.func24
abbrev F.token_signed : Nat := 25
theorem G.token_signed : Try.prog.funcs[25]? = some Try.f25 := Try.func25
abbrev F.token_isLetter : Nat := 26
theorem G.token_isLetter : Try.prog.funcs[26]? = some Try.f26 := Try.func26
abbrev F.token_isDigit : Nat := 27
theorem G.token_isDigit : Try.prog.funcs[27]? = some Try.f27 := Try.func27
abbrev F.ref6_Number : Nat := 28
theorem G.ref6_Number : Try.prog.funcs[28]? = some Try.f28 := Try.func28
abbrev F.token_Integer : Nat := 29
theorem G.token_Integer : Try.prog.funcs[29]? = some Try.f29 := Try.func29
abbrev F.ref6_Integer : Nat := 30
theorem G.ref6_Integer : Try.prog.funcs[30]? = some Try.f30 := Try.func30
abbrev F.ref6_permitted : Nat := 31
theorem G.ref6_permitted : Try.prog.funcs[31]? = some Try.f31 := Try.func31
abbrev F.ref6_inWord : Nat := 32
theorem G.ref6_inWord : Try.prog.funcs[32]? = some Try.f32 := Try.func32
abbrev F.internal_stringslite_CutPrefix : Nat := 33
theorem G.internal_stringslite_CutPrefix : Try.prog.funcs[33]? = some Try.f33 := Try.func33
abbrev F.internal_stringslite_Cut : Nat := 34
theorem G.internal_stringslite_Cut : Try.prog.funcs[34]? = some Try.f34 := Try.func34
abbrev F.ref6_sign : Nat := 35
theorem G.ref6_sign : Try.prog.funcs[35]? = some Try.f35 := Try.func35
abbrev F.ref6_digits : Nat := 36
theorem G.ref6_digits : Try.prog.funcs[36]? = some Try.f36 := Try.func36
abbrev F.internal_stringslite_HasPrefix : Nat := 37
theorem G.internal_stringslite_HasPrefix : Try.prog.funcs[37]? = some Try.f37 := Try.func37
abbrev F.internal_stringslite_Index : Nat := 38
theorem G.internal_stringslite_Index : Try.prog.funcs[38]? = some Try.f38 := Try.func38
abbrev F.internal_stringslite_IndexByte : Nat := 39
theorem G.internal_stringslite_IndexByte : Try.prog.funcs[39]? = some Try.f39 := Try.func39
abbrev F.internal_bytealg_IndexString : Nat := 40
theorem G.internal_bytealg_IndexString : Try.prog.funcs[40]? = some Try.f40 := Try.func40
abbrev F.internal_bytealg_Cutover : Nat := 41
theorem G.internal_bytealg_Cutover : Try.prog.funcs[41]? = some Try.f41 := Try.func41
abbrev F.internal_bytealg_IndexRabinKarp_string : Nat := 42
theorem G.internal_bytealg_IndexRabinKarp_string : Try.prog.funcs[42]? = some Try.f42 := Try.func42
abbrev F.internal_bytealg_IndexByteString : Nat := 43
theorem G.internal_bytealg_IndexByteString : Try.prog.funcs[43]? = some Try.f43 := Try.func43
abbrev F.internal_bytealg_hashStr_string : Nat := 44
theorem G.internal_bytealg_hashStr_string : Try.prog.funcs[44]? = some Try.f44 := Try.func44
abbrev Y.Errno : Nat := 30
abbrev Y.SourceError : Nat := 32
abbrev Y.Word : Nat := 36
abbrev Y.a0_ptr_runtime_PanicNilError : Nat := 70
abbrev Y.a16_string : Nat := 46
abbrev Y.a4_string : Nat := 27
abbrev Y.a5_string : Nat := 28
abbrev Y.a8_string : Nat := 44
abbrev Y.a9_string : Nat := 43
abbrev Y.abi_BoundsErrorCode : Nat := 6
abbrev Y.abi_Kind : Nat := 75
abbrev Y.abi_NameOff : Nat := 78
abbrev Y.abi_TFlag : Nat := 74
abbrev Y.abi_Type : Nat := 81
abbrev Y.abi_TypeOff : Nat := 79
abbrev Y.bool : Nat := 4
abbrev Y.int : Nat := 3
abbrev Y.int32 : Nat := 21
abbrev Y.int64 : Nat := 2
abbrev Y.interface : Nat := 20
abbrev Y.maps_unhashableTypeError : Nat := 19
abbrev Y.ptr_abi_Type : Nat := 17
abbrev Y.ptr_runtime_PanicNilError : Nat := 16
abbrev Y.ptr_runtime_TypeAssertionError : Nat := 15
abbrev Y.ptr_uint8 : Nat := 77
abbrev Y.runtime_PanicNilError : Nat := 72
abbrev Y.runtime_TypeAssertionError : Nat := 69
abbrev Y.runtime_boundsError : Nat := 8
abbrev Y.runtime_errorAddressString : Nat := 14
abbrev Y.runtime_errorString : Nat := 10
abbrev Y.runtime_plainError : Nat := 11
abbrev Y.s_Word : Nat := 29
abbrev Y.s_uint8 : Nat := 22
abbrev Y.string : Nat := 9
abbrev Y.uint : Nat := 63
abbrev Y.uint16 : Nat := 38
abbrev Y.uint32 : Nat := 64
abbrev Y.uint8 : Nat := 5
abbrev Y.uintptr : Nat := 12
abbrev Y.unsafe_Pointer : Nat := 82
end Go.Proofs.Ytoabhjflfbblfaa
