/- Names for the functions and types of this seat. Printed by a program. -/
import Derived.Test.YtoabhjflfbblfaaDoorTy
import Derived.Test.YtoabhjflfbblfaaDoorRows
namespace Go.Proofs.YtoabhjflfbblfaaDoor
abbrev F.main_main : Nat := 0
theorem G.main_main : Tryd.prog.funcs[0]? = some Tryd.f0 := Tryd.func0
abbrev F.gosem_cut : Nat := 1
theorem G.gosem_cut : Tryd.prog.funcs[1]? = some Tryd.f1 := Tryd.func1
abbrev F.gosem_cut_init : Nat := 2
theorem G.gosem_cut_init : Tryd.prog.funcs[2]? = some Tryd.f2 := Tryd.func2
abbrev F.law6_TokenFormats : Nat := 3
theorem G.law6_TokenFormats : Tryd.prog.funcs[3]? = some Tryd.f3 := Tryd.func3
abbrev F.token_Format : Nat := 4
theorem G.token_Format : Tryd.prog.funcs[4]? = some Tryd.f4 := Tryd.func4
abbrev F.token_Number : Nat := 5
theorem G.token_Number : Tryd.prog.funcs[5]? = some Tryd.f5 := Tryd.func5
abbrev F.law6_awake : Nat := 6
theorem G.law6_awake : Tryd.prog.funcs[6]? = some Tryd.f6 := Tryd.func6
abbrev F.ref6_Format : Nat := 7
theorem G.ref6_Format : Tryd.prog.funcs[7]? = some Tryd.f7 := Tryd.func7
abbrev F.strconv_FormatInt : Nat := 8
theorem G.strconv_FormatInt : Tryd.prog.funcs[8]? = some Tryd.f8 := Tryd.func8
abbrev F.strings_TrimRight : Nat := 9
theorem G.strings_TrimRight : Tryd.prog.funcs[9]? = some Tryd.f9 := Tryd.func9
abbrev F.strings_CutPrefix : Nat := 10
theorem G.strings_CutPrefix : Tryd.prog.funcs[10]? = some Tryd.f10 := Tryd.func10
abbrev F.strings_Cut : Nat := 11
theorem G.strings_Cut : Tryd.prog.funcs[11]? = some Tryd.f11 := Tryd.func11
abbrev F.token_digits : Nat := 12
theorem G.token_digits : Tryd.prog.funcs[12]? = some Tryd.f12 := Tryd.func12
abbrev F.token_signed : Nat := 13
theorem G.token_signed : Tryd.prog.funcs[13]? = some Tryd.f13 := Tryd.func13
abbrev F.token_Split : Nat := 14
theorem G.token_Split : Tryd.prog.funcs[14]? = some Tryd.f14 := Tryd.func14
abbrev F.mk_Same_api_Word : Nat := 15
theorem G.mk_Same_api_Word : Tryd.prog.funcs[15]? = some Tryd.f15 := Tryd.func15
abbrev F.ref6_Decimal : Nat := 16
theorem G.ref6_Decimal : Tryd.prog.funcs[16]? = some Tryd.f16 := Tryd.func16
abbrev F.internal_strconv_FormatInt : Nat := 17
theorem G.internal_strconv_FormatInt : Tryd.prog.funcs[17]? = some Tryd.f17 := Tryd.func17
abbrev F.strings_trimRightByte : Nat := 18
theorem G.strings_trimRightByte : Tryd.prog.funcs[18]? = some Tryd.f18 := Tryd.func18
abbrev F.strings_makeASCIISet : Nat := 19
theorem G.strings_makeASCIISet : Tryd.prog.funcs[19]? = some Tryd.f19 := Tryd.func19
abbrev F.strings_trimRightASCII : Nat := 20
theorem G.strings_trimRightASCII : Tryd.prog.funcs[20]? = some Tryd.f20 := Tryd.func20
abbrev F.strings_trimRightUnicode : Nat := 21
theorem G.strings_trimRightUnicode : Tryd.prog.funcs[21]? = some Tryd.f21 := Tryd.func21
abbrev F.internal_stringslite_CutPrefix : Nat := 22
theorem G.internal_stringslite_CutPrefix : Tryd.prog.funcs[22]? = some Tryd.f22 := Tryd.func22
abbrev F.internal_stringslite_Cut : Nat := 23
theorem G.internal_stringslite_Cut : Tryd.prog.funcs[23]? = some Tryd.f23 := Tryd.func23
abbrev F.token_isDigit : Nat := 24
theorem G.token_isDigit : Tryd.prog.funcs[24]? = some Tryd.f24 := Tryd.func24
abbrev F.token_Split_1 : Nat := 25
theorem G.token_Split_1 : Tryd.prog.funcs[25]? = some Tryd.f25 := Tryd.func25
abbrev F.token_isWord : Nat := 26
theorem G.token_isWord : Tryd.prog.funcs[26]? = some Tryd.f26 := Tryd.func26
abbrev F.internal_strconv_small : Nat := 27
theorem G.internal_strconv_small : Tryd.prog.funcs[27]? = some Tryd.f27 := Tryd.func27
abbrev F.internal_strconv_numDigits : Nat := 28
theorem G.internal_strconv_numDigits : Tryd.prog.funcs[28]? = some Tryd.f28 := Tryd.func28
abbrev F.internal_strconv_formatBase10 : Nat := 29
theorem G.internal_strconv_formatBase10 : Tryd.prog.funcs[29]? = some Tryd.f29 := Tryd.func29
abbrev F.internal_strconv_formatBits : Nat := 30
theorem G.internal_strconv_formatBits : Tryd.prog.funcs[30]? = some Tryd.f30 := Tryd.func30
abbrev F.strings_asciiSet_contains : Nat := 31
theorem G.strings_asciiSet_contains : Tryd.prog.funcs[31]? = some Tryd.f31 := Tryd.func31
abbrev F.unicode_utf8_DecodeLastRuneInString : Nat := 32
theorem G.unicode_utf8_DecodeLastRuneInString : Tryd.prog.funcs[32]? = some Tryd.f32 := Tryd.func32
abbrev F.strings_ContainsRune : Nat := 33
theorem G.strings_ContainsRune : Tryd.prog.funcs[33]? = some Tryd.f33 := Tryd.func33
abbrev F.internal_stringslite_HasPrefix : Nat := 34
theorem G.internal_stringslite_HasPrefix : Tryd.prog.funcs[34]? = some Tryd.f34 := Tryd.func34
abbrev F.internal_stringslite_Index : Nat := 35
theorem G.internal_stringslite_Index : Tryd.prog.funcs[35]? = some Tryd.f35 := Tryd.func35
abbrev F.internal_strconv_log10Pow2 : Nat := 36
theorem G.internal_strconv_log10Pow2 : Tryd.prog.funcs[36]? = some Tryd.f36 := Tryd.func36
abbrev F.math_bits_Len64 : Nat := 37
theorem G.math_bits_Len64 : Tryd.prog.funcs[37]? = some Tryd.f37 := Tryd.func37
abbrev F.internal_strconv_bool2_int : Nat := 38
theorem G.internal_strconv_bool2_int : Tryd.prog.funcs[38]? = some Tryd.f38 := Tryd.func38
abbrev F.internal_strconv_isPowerOfTwo : Nat := 39
theorem G.internal_strconv_isPowerOfTwo : Tryd.prog.funcs[39]? = some Tryd.f39 := Tryd.func39
abbrev F.math_bits_TrailingZeros : Nat := 40
theorem G.math_bits_TrailingZeros : Tryd.prog.funcs[40]? = some Tryd.f40 := Tryd.func40
abbrev F.unicode_utf8_RuneStart : Nat := 41
theorem G.unicode_utf8_RuneStart : Tryd.prog.funcs[41]? = some Tryd.f41 := Tryd.func41
abbrev F.unicode_utf8_DecodeRuneInString : Nat := 42
theorem G.unicode_utf8_DecodeRuneInString : Tryd.prog.funcs[42]? = some Tryd.f42 := Tryd.func42
abbrev F.strings_IndexRune : Nat := 43
theorem G.strings_IndexRune : Tryd.prog.funcs[43]? = some Tryd.f43 := Tryd.func43
abbrev F.internal_stringslite_IndexByte : Nat := 44
theorem G.internal_stringslite_IndexByte : Tryd.prog.funcs[44]? = some Tryd.f44 := Tryd.func44
abbrev F.internal_bytealg_IndexString : Nat := 45
theorem G.internal_bytealg_IndexString : Tryd.prog.funcs[45]? = some Tryd.f45 := Tryd.func45
abbrev F.internal_bytealg_Cutover : Nat := 46
theorem G.internal_bytealg_Cutover : Tryd.prog.funcs[46]? = some Tryd.f46 := Tryd.func46
abbrev F.internal_bytealg_IndexRabinKarp_string : Nat := 47
theorem G.internal_bytealg_IndexRabinKarp_string : Tryd.prog.funcs[47]? = some Tryd.f47 := Tryd.func47
abbrev F.math_bits_TrailingZeros32 : Nat := 48
theorem G.math_bits_TrailingZeros32 : Tryd.prog.funcs[48]? = some Tryd.f48 := Tryd.func48
abbrev F.math_bits_TrailingZeros64 : Nat := 49
theorem G.math_bits_TrailingZeros64 : Tryd.prog.funcs[49]? = some Tryd.f49 := Tryd.func49
abbrev F.unicode_utf8_decodeRuneInStringSlow : Nat := 50
theorem G.unicode_utf8_decodeRuneInStringSlow : Tryd.prog.funcs[50]? = some Tryd.f50 := Tryd.func50
abbrev F.strings_IndexByte : Nat := 51
theorem G.strings_IndexByte : Tryd.prog.funcs[51]? = some Tryd.f51 := Tryd.func51
abbrev F.unicode_utf8_ValidRune : Nat := 52
theorem G.unicode_utf8_ValidRune : Tryd.prog.funcs[52]? = some Tryd.f52 := Tryd.func52
abbrev F.internal_bytealg_IndexByteString : Nat := 53
theorem G.internal_bytealg_IndexByteString : Tryd.prog.funcs[53]? = some Tryd.f53 := Tryd.func53
abbrev F.internal_bytealg_hashStr_string : Nat := 54
theorem G.internal_bytealg_hashStr_string : Tryd.prog.funcs[54]? = some Tryd.f54 := Tryd.func54
abbrev F.runtime_boundsError_Error : Nat := 55
theorem G.runtime_boundsError_Error : Tryd.prog.funcs[55]? = some Tryd.f55 := Tryd.func55
abbrev F.runtime_boundsError_RuntimeError : Nat := 56
theorem G.runtime_boundsError_RuntimeError : Tryd.prog.funcs[56]? = some Tryd.f56 := Tryd.func56
abbrev F.runtime_errorString_Error : Nat := 57
theorem G.runtime_errorString_Error : Tryd.prog.funcs[57]? = some Tryd.f57 := Tryd.func57
abbrev F.runtime_errorString_RuntimeError : Nat := 58
theorem G.runtime_errorString_RuntimeError : Tryd.prog.funcs[58]? = some Tryd.f58 := Tryd.func58
abbrev F.runtime_plainError_Error : Nat := 59
theorem G.runtime_plainError_Error : Tryd.prog.funcs[59]? = some Tryd.f59 := Tryd.func59
abbrev F.runtime_plainError_RuntimeError : Nat := 60
theorem G.runtime_plainError_RuntimeError : Tryd.prog.funcs[60]? = some Tryd.f60 := Tryd.func60
abbrev F.runtime_errorAddressString_Error : Nat := 61
theorem G.runtime_errorAddressString_Error : Tryd.prog.funcs[61]? = some Tryd.f61 := Tryd.func61
abbrev F.runtime_errorAddressString_RuntimeError : Nat := 62
theorem G.runtime_errorAddressString_RuntimeError : Tryd.prog.funcs[62]? = some Tryd.f62 := Tryd.func62
abbrev F.runtime_TypeAssertionError_Error : Nat := 63
theorem G.runtime_TypeAssertionError_Error : Tryd.prog.funcs[63]? = some Tryd.f63 := Tryd.func63
abbrev F.runtime_TypeAssertionError_RuntimeError : Nat := 64
theorem G.runtime_TypeAssertionError_RuntimeError : Tryd.prog.funcs[64]? = some Tryd.f64 := Tryd.func64
abbrev F.runtime_PanicNilError_Error : Nat := 65
theorem G.runtime_PanicNilError_Error : Tryd.prog.funcs[65]? = some Tryd.f65 := Tryd.func65
abbrev F.runtime_PanicNilError_RuntimeError : Nat := 66
theorem G.runtime_PanicNilError_RuntimeError : Tryd.prog.funcs[66]? = some Tryd.f66 := Tryd.func66
abbrev F.internal_abi_Type_Align : Nat := 67
theorem G.internal_abi_Type_Align : Tryd.prog.funcs[67]? = some Tryd.f67 := Tryd.func67
abbrev F.internal_runtime_maps_unhashableTypeError_Error : Nat := 68
theorem G.internal_runtime_maps_unhashableTypeError_Error : Tryd.prog.funcs[68]? = some Tryd.f68 := Tryd.func68
abbrev F.internal_runtime_maps_unhashableTypeError_RuntimeError : Nat := 69
theorem G.internal_runtime_maps_unhashableTypeError_RuntimeError : Tryd.prog.funcs[69]? = some Tryd.f69 := Tryd.func69
abbrev F.internal_abi_Kind_String : Nat := 70
theorem G.internal_abi_Kind_String : Tryd.prog.funcs[70]? = some Tryd.f70 := Tryd.func70
abbrev F.var_s_door_gosem_cut_vars_holds_initialisers_alone_see_the_manifest_s_row_cutvarsword_look_11_test_files_too : Nat := 71
theorem G.var_s_door_gosem_cut_vars_holds_initialisers_alone_see_the_manifest_s_row_cutvarsword_look_11_test_files_too : Tryd.prog.funcs[71]? = some Tryd.f71 := Tryd.func71
abbrev F.var_s_door_internal_strconv_uint64pow10_is_laid_by_its_own_initialiser_plain_data_look_11 : Nat := 72
theorem G.var_s_door_internal_strconv_uint64pow10_is_laid_by_its_own_initialiser_plain_data_look_11 : Tryd.prog.funcs[72]? = some Tryd.f72 := Tryd.func72
abbrev F.var_s_door_math_bits_deBruijn32tab_is_laid_by_its_own_initialiser_plain_data_look_11 : Nat := 73
theorem G.var_s_door_math_bits_deBruijn32tab_is_laid_by_its_own_initialiser_plain_data_look_11 : Tryd.prog.funcs[73]? = some Tryd.f73 := Tryd.func73
abbrev F.var_s_door_math_bits_deBruijn64tab_is_laid_by_its_own_initialiser_plain_data_look_11 : Nat := 74
theorem G.var_s_door_math_bits_deBruijn64tab_is_laid_by_its_own_initialiser_plain_data_look_11 : Tryd.prog.funcs[74]? = some Tryd.f74 := Tryd.func74
abbrev F.var_s_door_the_look_of_gosem_cut_vars_went_over_the_folder_that_the_caller_named_as_the_repository_s_root_look_11 : Nat := 75
theorem G.var_s_door_the_look_of_gosem_cut_vars_went_over_the_folder_that_the_caller_named_as_the_repository_s_root_look_11 : Tryd.prog.funcs[75]? = some Tryd.f75 := Tryd.func75
abbrev F.var_s_door_unicode_utf8_acceptRanges_is_laid_by_its_own_initialiser_plain_data_look_11 : Nat := 76
theorem G.var_s_door_unicode_utf8_acceptRanges_is_laid_by_its_own_initialiser_plain_data_look_11 : Tryd.prog.funcs[76]? = some Tryd.f76 := Tryd.func76
abbrev F.var_s_door_unicode_utf8_first_is_laid_by_its_text_alone_pinned_1 : Nat := 77
theorem G.var_s_door_unicode_utf8_first_is_laid_by_its_text_alone_pinned_1 : Tryd.prog.funcs[77]? = some Tryd.f77 := Tryd.func77
abbrev F.gosem_cut_vars : Nat := 78
theorem G.gosem_cut_vars : Tryd.prog.funcs[78]? = some Tryd.f78 := Tryd.func78
abbrev Y.Errno : Nat := 36
abbrev Y.SourceError : Nat := 38
abbrev Y.Word : Nat := 43
abbrev Y.a0_ptr_runtime_PanicNilError : Nat := 89
abbrev Y.a16_utf8_acceptRange : Nat := 85
abbrev Y.a20_uint64 : Nat := 69
abbrev Y.a24_uint8 : Nat := 54
abbrev Y.a256_bool : Nat := 45
abbrev Y.a256_uint8 : Nat := 82
abbrev Y.a32_uint8 : Nat := 80
abbrev Y.a64_uint8 : Nat := 81
abbrev Y.a65_uint8 : Nat := 71
abbrev Y.abi_BoundsErrorCode : Nat := 6
abbrev Y.abi_Kind : Nat := 94
abbrev Y.abi_NameOff : Nat := 97
abbrev Y.abi_TFlag : Nat := 93
abbrev Y.abi_Type : Nat := 100
abbrev Y.abi_TypeOff : Nat := 98
abbrev Y.bool : Nat := 4
abbrev Y.int : Nat := 3
abbrev Y.int32 : Nat := 21
abbrev Y.int64 : Nat := 2
abbrev Y.interface : Nat := 20
abbrev Y.maps_unhashableTypeError : Nat := 19
abbrev Y.ptr_abi_Type : Nat := 17
abbrev Y.ptr_runtime_PanicNilError : Nat := 16
abbrev Y.ptr_runtime_TypeAssertionError : Nat := 15
abbrev Y.ptr_strings_asciiSet : Nat := 50
abbrev Y.ptr_uint8 : Nat := 96
abbrev Y.runtime_PanicNilError : Nat := 91
abbrev Y.runtime_TypeAssertionError : Nat := 88
abbrev Y.runtime_boundsError : Nat := 8
abbrev Y.runtime_errorAddressString : Nat := 14
abbrev Y.runtime_errorString : Nat := 10
abbrev Y.runtime_plainError : Nat := 11
abbrev Y.s_Word : Nat := 35
abbrev Y.s_uint8 : Nat := 58
abbrev Y.string : Nat := 9
abbrev Y.strings_asciiSet : Nat := 46
abbrev Y.uint : Nat := 73
abbrev Y.uint32 : Nat := 70
abbrev Y.uint64 : Nat := 55
abbrev Y.uint8 : Nat := 5
abbrev Y.uintptr : Nat := 12
abbrev Y.unsafe_Pointer : Nat := 101
abbrev Y.utf8_acceptRange : Nat := 84
end Go.Proofs.YtoabhjflfbblfaaDoor
