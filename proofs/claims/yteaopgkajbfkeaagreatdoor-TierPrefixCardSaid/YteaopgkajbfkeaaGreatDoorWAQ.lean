/- The checks, by the kernel, that the printed code is the program's. What the functions of math/bits give that the program calls. What the program's natural numbers give. What the program's natural numbers give: sums. What the program's natural numbers give: differences, comparing, shifting, quotients by one digit. What the program's natural numbers give: a digit of a quotient. What the program's natural numbers give: quotient and remainder. -/
import Derived.Test.YteaopgkajbfkeaaGreatDoorWAN
import Derived.Test.YteaopgkajbfkeaaGreatDoorProg
import Derived.KernelRfl
import Derived.Test.YteaopgkajbfkeaaGreatDoorWAG
import Derived.Test.YteaopgkajbfkeaaGreatDoorWAK
set_option linter.unusedSimpArgs false
set_option linter.unusedVariables false
namespace Go.Proofs.YteaopgkajbfkeaaGreatDoor
open Go
set_option maxRecDepth 100000

theorem ok_culetlaw16_TierPrefix : funB Tryz.prog f_culetlaw16_TierPrefix e_culetlaw16_TierPrefix = true := by kernel_rfl
theorem ok_culetlaw16_awake : funB Tryz.prog f_culetlaw16_awake e_culetlaw16_awake = true := by kernel_rfl
theorem ok_culetref15_Few : funB Tryz.prog f_culetref15_Few e_culetref15_Few = true := by kernel_rfl
theorem ok_tier_Facets : funB Tryz.prog f_tier_Facets e_tier_Facets = true := by kernel_rfl
theorem ok_tier_Prefix : funB Tryz.prog f_tier_Prefix e_tier_Prefix = true := by kernel_rfl
theorem ok_culetref16_SameFacets : funB Tryz.prog f_culetref16_SameFacets e_culetref16_SameFacets = true := by kernel_rfl
theorem ok_culetref16_SameInts : funB Tryz.prog f_culetref16_SameInts e_culetref16_SameInts = true := by kernel_rfl
theorem ok_tier_Orbit : funB Tryz.prog f_tier_Orbit e_tier_Orbit = true := by kernel_rfl
theorem ok_tier_Part : funB Tryz.prog f_tier_Part e_tier_Part = true := by kernel_rfl
theorem ok_culetref15_FewFix : funB Tryz.prog f_culetref15_FewFix e_culetref15_FewFix = true := by kernel_rfl
theorem ok_tier_listed : funB Tryz.prog f_tier_listed e_tier_listed = true := by kernel_rfl
theorem ok_slices_Clone_api_Tier_api_Tier : funB Tryz.prog f_slices_Clone_api_Tier_api_Tier e_slices_Clone_api_Tier_api_Tier = true := by kernel_rfl
theorem ok_slices_Clone_int_int : funB Tryz.prog f_slices_Clone_int_int e_slices_Clone_int_int = true := by kernel_rfl
theorem ok_slices_Clone_api_Ref_api_Ref : funB Tryz.prog f_slices_Clone_api_Ref_api_Ref e_slices_Clone_api_Ref_api_Ref = true := by kernel_rfl
theorem ok_tier_divides : funB Tryz.prog f_tier_divides e_tier_divides = true := by kernel_rfl
theorem ok_tier_flags_mark : funB Tryz.prog f_tier_flags_mark e_tier_flags_mark = true := by kernel_rfl
theorem ok_tier_flags_list : funB Tryz.prog f_tier_flags_list e_tier_flags_list = true := by kernel_rfl
theorem ok_culetref15_few : funB Tryz.prog f_culetref15_few e_culetref15_few = true := by kernel_rfl
theorem ok_lexer_IsName : funB Tryz.prog f_lexer_IsName e_lexer_IsName = true := by kernel_rfl
theorem ok_tier_fault : funB Tryz.prog f_tier_fault e_tier_fault = true := by kernel_rfl
theorem ok_tier_Positions : funB Tryz.prog f_tier_Positions e_tier_Positions = true := by kernel_rfl
theorem ok_lexer_word : funB Tryz.prog f_lexer_word e_lexer_word = true := by kernel_rfl
theorem ok_lexer_Reserved : funB Tryz.prog f_lexer_Reserved e_lexer_Reserved = true := by kernel_rfl
theorem ok_format_Fix : funB Tryz.prog f_format_Fix e_format_Fix = true := by kernel_rfl
theorem ok_slices_ContainsFunc_api_Tier_api_Tier : funB Tryz.prog f_slices_ContainsFunc_api_Tier_api_Tier e_slices_ContainsFunc_api_Tier_api_Tier = true := by kernel_rfl
theorem ok_tier_fault_1 : funB Tryz.prog f_tier_fault_1 e_tier_fault_1 = true := by kernel_rfl
theorem ok_tier_angle : funB Tryz.prog f_tier_angle e_tier_angle = true := by kernel_rfl
theorem ok_tier_wheel : funB Tryz.prog f_tier_wheel e_tier_wheel = true := by kernel_rfl
theorem ok_tier_twice : funB Tryz.prog f_tier_twice e_tier_twice = true := by kernel_rfl
theorem ok_slices_ContainsFunc_api_Facet_api_Facet : funB Tryz.prog f_slices_ContainsFunc_api_Facet_api_Facet e_slices_ContainsFunc_api_Facet_api_Facet = true := by kernel_rfl
theorem ok_tier_fault_2 : funB Tryz.prog f_tier_fault_2 e_tier_fault_2 = true := by kernel_rfl
theorem ok_slices_Contains_int_int : funB Tryz.prog f_slices_Contains_int_int e_slices_Contains_int_int = true := by kernel_rfl
theorem ok_slices_ContainsFunc_api_Ref_api_Ref : funB Tryz.prog f_slices_ContainsFunc_api_Ref_api_Ref e_slices_ContainsFunc_api_Ref_api_Ref = true := by kernel_rfl
theorem ok_tier_fault_3 : funB Tryz.prog f_tier_fault_3 e_tier_fault_3 = true := by kernel_rfl
theorem ok_tier_Find : funB Tryz.prog f_tier_Find e_tier_Find = true := by kernel_rfl
theorem ok_lexer_letter : funB Tryz.prog f_lexer_letter e_lexer_letter = true := by kernel_rfl
theorem ok_lexer_run : funB Tryz.prog f_lexer_run e_lexer_run = true := by kernel_rfl
theorem ok_lexer_word_1 : funB Tryz.prog f_lexer_word_1 e_lexer_word_1 = true := by kernel_rfl
theorem ok_lexer_digit : funB Tryz.prog f_lexer_digit e_lexer_digit = true := by kernel_rfl
theorem ok_format_canFix : funB Tryz.prog f_format_canFix e_format_canFix = true := by kernel_rfl
theorem ok_format_writer_fix : funB Tryz.prog f_format_writer_fix e_format_writer_fix = true := by kernel_rfl
theorem ok_format_writer_line : funB Tryz.prog f_format_writer_line e_format_writer_line = true := by kernel_rfl
theorem ok_slices_IndexFunc_api_Tier_api_Tier : funB Tryz.prog f_slices_IndexFunc_api_Tier_api_Tier e_slices_IndexFunc_api_Tier_api_Tier = true := by kernel_rfl
theorem ok_tier_gcd : funB Tryz.prog f_tier_gcd e_tier_gcd = true := by kernel_rfl
theorem ok_slices_ContainsFunc_int_int : funB Tryz.prog f_slices_ContainsFunc_int_int e_slices_ContainsFunc_int_int = true := by kernel_rfl
theorem ok_tier_wheel_1 : funB Tryz.prog f_tier_wheel_1 e_tier_wheel_1 = true := by kernel_rfl
theorem ok_slices_IndexFunc_api_Facet_api_Facet : funB Tryz.prog f_slices_IndexFunc_api_Facet_api_Facet e_slices_IndexFunc_api_Facet_api_Facet = true := by kernel_rfl
theorem ok_slices_Index_int_int : funB Tryz.prog f_slices_Index_int_int e_slices_Index_int_int = true := by kernel_rfl
theorem ok_slices_IndexFunc_api_Ref_api_Ref : funB Tryz.prog f_slices_IndexFunc_api_Ref_api_Ref e_slices_IndexFunc_api_Ref_api_Ref = true := by kernel_rfl
theorem ok_tier_Find_1 : funB Tryz.prog f_tier_Find_1 e_tier_Find_1 = true := by kernel_rfl
theorem ok_field_Valid : funB Tryz.prog f_field_Valid e_field_Valid = true := by kernel_rfl
theorem ok_format_refs : funB Tryz.prog f_format_refs e_format_refs = true := by kernel_rfl
theorem ok_format_valid : funB Tryz.prog f_format_valid e_format_valid = true := by kernel_rfl
theorem ok_format_writer_depth : funB Tryz.prog f_format_writer_depth e_format_writer_depth = true := by kernel_rfl
theorem ok_format_writer_meet : funB Tryz.prog f_format_writer_meet e_format_writer_meet = true := by kernel_rfl
theorem ok_format_writer_level : funB Tryz.prog f_format_writer_level e_format_writer_level = true := by kernel_rfl
theorem ok_format_writer_point : funB Tryz.prog f_format_writer_point e_format_writer_point = true := by kernel_rfl
theorem ok_slices_IndexFunc_int_int : funB Tryz.prog f_slices_IndexFunc_int_int e_slices_IndexFunc_int_int = true := by kernel_rfl
theorem ok_bigint_Valid : funB Tryz.prog f_bigint_Valid e_bigint_Valid = true := by kernel_rfl
theorem ok_bigint_Sign : funB Tryz.prog f_bigint_Sign e_bigint_Sign = true := by kernel_rfl
theorem ok_field_common : funB Tryz.prog f_field_common e_field_common = true := by kernel_rfl
theorem ok_bigint_Of : funB Tryz.prog f_bigint_Of e_bigint_Of = true := by kernel_rfl
theorem ok_format_refs_1 : funB Tryz.prog f_format_refs_1 e_format_refs_1 = true := by kernel_rfl
theorem ok_format_short : funB Tryz.prog f_format_short e_format_short = true := by kernel_rfl
theorem ok_format_writer_put : funB Tryz.prog f_format_writer_put e_format_writer_put = true := by kernel_rfl
theorem ok_format_writer_value : funB Tryz.prog f_format_writer_value e_format_writer_value = true := by kernel_rfl
theorem ok_format_writer_refs : funB Tryz.prog f_format_writer_refs e_format_writer_refs = true := by kernel_rfl
theorem ok_bigint_Gcd : funB Tryz.prog f_bigint_Gcd e_bigint_Gcd = true := by kernel_rfl
theorem ok_bigint_word : funB Tryz.prog f_bigint_word e_bigint_word = true := by kernel_rfl
theorem ok_bigint_natural_with : funB Tryz.prog f_bigint_natural_with e_bigint_natural_with = true := by kernel_rfl
theorem ok_format_Value : funB Tryz.prog f_format_Value e_format_Value = true := by kernel_rfl
theorem ok_strconv_Itoa : funB Tryz.prog f_strconv_Itoa e_strconv_Itoa = true := by kernel_rfl
theorem ok_bigint_of : funB Tryz.prog f_bigint_of e_bigint_of = true := by kernel_rfl
theorem ok_bigint_natural_divide : funB Tryz.prog f_bigint_natural_divide e_bigint_natural_divide = true := by kernel_rfl
theorem ok_bigint_single : funB Tryz.prog f_bigint_single e_bigint_single = true := by kernel_rfl
theorem ok_bigint_natural_trim : funB Tryz.prog f_bigint_natural_trim e_bigint_natural_trim = true := by kernel_rfl
theorem ok_bigint_natural_mag : funB Tryz.prog f_bigint_natural_mag e_bigint_natural_mag = true := by kernel_rfl
theorem ok_field_Print : funB Tryz.prog f_field_Print e_field_Print = true := by kernel_rfl
theorem ok_field_Parse : funB Tryz.prog f_field_Parse e_field_Parse = true := by kernel_rfl
theorem ok_lexer_Value : funB Tryz.prog f_lexer_Value e_lexer_Value = true := by kernel_rfl
theorem ok_i_strconv_Itoa : funB Tryz.prog f_i_strconv_Itoa e_i_strconv_Itoa = true := by kernel_rfl
theorem ok_bigint_natural_compare : funB Tryz.prog f_bigint_natural_compare e_bigint_natural_compare = true := by kernel_rfl
theorem ok_bigint_natural_small : funB Tryz.prog f_bigint_natural_small e_bigint_natural_small = true := by kernel_rfl
theorem ok_math_bits_LeadingZeros32 : funB Tryz.prog f_math_bits_LeadingZeros32 e_math_bits_LeadingZeros32 = true := by kernel_rfl
theorem ok_bigint_natural_shift : funB Tryz.prog f_bigint_natural_shift e_bigint_natural_shift = true := by kernel_rfl
theorem ok_bigint_digit : funB Tryz.prog f_bigint_digit e_bigint_digit = true := by kernel_rfl
theorem ok_strings_TrimLeft : funB Tryz.prog f_strings_TrimLeft e_strings_TrimLeft = true := by kernel_rfl
theorem ok_field_over : funB Tryz.prog f_field_over e_field_over = true := by kernel_rfl
theorem ok_bigint_Abs : funB Tryz.prog f_bigint_Abs e_bigint_Abs = true := by kernel_rfl
theorem ok_bigint_Print : funB Tryz.prog f_bigint_Print e_bigint_Print = true := by kernel_rfl
theorem ok_field_Of : funB Tryz.prog f_field_Of e_field_Of = true := by kernel_rfl
theorem ok_field_reader_passed : funB Tryz.prog f_field_reader_passed e_field_reader_passed = true := by kernel_rfl
theorem ok_field_reader_term : funB Tryz.prog f_field_reader_term e_field_reader_term = true := by kernel_rfl
theorem ok_field_Neg : funB Tryz.prog f_field_Neg e_field_Neg = true := by kernel_rfl
theorem ok_field_Add : funB Tryz.prog f_field_Add e_field_Add = true := by kernel_rfl
theorem ok_field_reader_fail : funB Tryz.prog f_field_reader_fail e_field_reader_fail = true := by kernel_rfl
theorem ok_strings_TrimPrefix : funB Tryz.prog f_strings_TrimPrefix e_strings_TrimPrefix = true := by kernel_rfl
theorem ok_strconv_Atoi : funB Tryz.prog f_strconv_Atoi e_strconv_Atoi = true := by kernel_rfl
theorem ok_i_strconv_FormatInt : funB Tryz.prog f_i_strconv_FormatInt e_i_strconv_FormatInt = true := by kernel_rfl
theorem ok_math_bits_Div32 : funB Tryz.prog f_math_bits_Div32 e_math_bits_Div32 = true := by kernel_rfl
theorem ok_math_bits_Len32 : funB Tryz.prog f_math_bits_Len32 e_math_bits_Len32 = true := by kernel_rfl
theorem ok_math_bits_Sub32 : funB Tryz.prog f_math_bits_Sub32 e_math_bits_Sub32 = true := by kernel_rfl
theorem ok_math_bits_Add32 : funB Tryz.prog f_math_bits_Add32 e_math_bits_Add32 = true := by kernel_rfl
theorem ok_strings_trimLeftByte : funB Tryz.prog f_strings_trimLeftByte e_strings_trimLeftByte = true := by kernel_rfl
theorem ok_bigint_DivMod : funB Tryz.prog f_bigint_DivMod e_bigint_DivMod = true := by kernel_rfl
theorem ok_strings_CutPrefix : funB Tryz.prog f_strings_CutPrefix e_strings_CutPrefix = true := by kernel_rfl
theorem ok_field_reader_root : funB Tryz.prog f_field_reader_root e_field_reader_root = true := by kernel_rfl
theorem ok_field_reader_value : funB Tryz.prog f_field_reader_value e_field_reader_value = true := by kernel_rfl
theorem ok_field_Mul : funB Tryz.prog f_field_Mul e_field_Mul = true := by kernel_rfl
theorem ok_bigint_Neg : funB Tryz.prog f_bigint_Neg e_bigint_Neg = true := by kernel_rfl
theorem ok_bigint_Add : funB Tryz.prog f_bigint_Add e_bigint_Add = true := by kernel_rfl
theorem ok_bigint_Mul : funB Tryz.prog f_bigint_Mul e_bigint_Mul = true := by kernel_rfl
theorem ok_field_lowest : funB Tryz.prog f_field_lowest e_field_lowest = true := by kernel_rfl
theorem ok_i_stringslite_TrimPrefix : funB Tryz.prog f_i_stringslite_TrimPrefix e_i_stringslite_TrimPrefix = true := by kernel_rfl
theorem ok_i_strconv_Atoi : funB Tryz.prog f_i_strconv_Atoi e_i_strconv_Atoi = true := by kernel_rfl
theorem ok_i_strconv_small : funB Tryz.prog f_i_strconv_small e_i_strconv_small = true := by kernel_rfl
theorem ok_i_strconv_numDigits : funB Tryz.prog f_i_strconv_numDigits e_i_strconv_numDigits = true := by kernel_rfl
theorem ok_i_strconv_formatBase10 : funB Tryz.prog f_i_strconv_formatBase10 e_i_strconv_formatBase10 = true := by kernel_rfl
theorem ok_bigint_Sub : funB Tryz.prog f_bigint_Sub e_bigint_Sub = true := by kernel_rfl
theorem ok_i_stringslite_CutPrefix : funB Tryz.prog f_i_stringslite_CutPrefix e_i_stringslite_CutPrefix = true := by kernel_rfl
theorem ok_field_Root : funB Tryz.prog f_field_Root e_field_Root = true := by kernel_rfl
theorem ok_field_reader_integer : funB Tryz.prog f_field_reader_integer e_field_reader_integer = true := by kernel_rfl
theorem ok_field_reader_digits : funB Tryz.prog f_field_reader_digits e_field_reader_digits = true := by kernel_rfl
theorem ok_bigint_Pow : funB Tryz.prog f_bigint_Pow e_bigint_Pow = true := by kernel_rfl
theorem ok_bigint_Parse : funB Tryz.prog f_bigint_Parse e_bigint_Parse = true := by kernel_rfl
theorem ok_field_Make : funB Tryz.prog f_field_Make e_field_Make = true := by kernel_rfl
theorem ok_field_product : funB Tryz.prog f_field_product e_field_product = true := by kernel_rfl
theorem ok_bigint_natural_add : funB Tryz.prog f_bigint_natural_add e_bigint_natural_add = true := by kernel_rfl
theorem ok_bigint_natural_less : funB Tryz.prog f_bigint_natural_less e_bigint_natural_less = true := by kernel_rfl
theorem ok_bigint_natural_mul : funB Tryz.prog f_bigint_natural_mul e_bigint_natural_mul = true := by kernel_rfl
theorem ok_i_stringslite_HasPrefix : funB Tryz.prog f_i_stringslite_HasPrefix e_i_stringslite_HasPrefix = true := by kernel_rfl
theorem ok_i_strconv_log10Pow2 : funB Tryz.prog f_i_strconv_log10Pow2 e_i_strconv_log10Pow2 = true := by kernel_rfl
theorem ok_math_bits_Len64 : funB Tryz.prog f_math_bits_Len64 e_math_bits_Len64 = true := by kernel_rfl
theorem ok_i_strconv_bool2_int : funB Tryz.prog f_i_strconv_bool2_int e_i_strconv_bool2_int = true := by kernel_rfl
theorem ok_math_bits_Mul32 : funB Tryz.prog f_math_bits_Mul32 e_math_bits_Mul32 = true := by kernel_rfl
theorem ok_bigint_product_put : funB Tryz.prog f_bigint_product_put e_bigint_product_put = true := by kernel_rfl
theorem tabL_ok : ∀ p ∈ tabL, funB Tryz.prog p.1 p.2 = true := by
  simp only [tabL, List.forall_mem_cons]
  exact ⟨ok_culetlaw16_TierPrefix, ok_culetlaw16_awake, ok_culetref15_Few, ok_tier_Facets, ok_tier_Prefix, ok_culetref16_SameFacets, ok_culetref16_SameInts, ok_tier_Orbit, ok_tier_Part, ok_culetref15_FewFix, ok_tier_listed, ok_slices_Clone_api_Tier_api_Tier, ok_slices_Clone_int_int, ok_slices_Clone_api_Ref_api_Ref, ok_tier_divides, ok_tier_flags_mark, ok_tier_flags_list, ok_culetref15_few, ok_lexer_IsName, ok_tier_fault, ok_tier_Positions, ok_lexer_word, ok_lexer_Reserved, ok_format_Fix, ok_slices_ContainsFunc_api_Tier_api_Tier, ok_tier_fault_1, ok_tier_angle, ok_tier_wheel, ok_tier_twice, ok_slices_ContainsFunc_api_Facet_api_Facet, ok_tier_fault_2, ok_slices_Contains_int_int, ok_slices_ContainsFunc_api_Ref_api_Ref, ok_tier_fault_3, ok_tier_Find, ok_lexer_letter, ok_lexer_run, ok_lexer_word_1, ok_lexer_digit, ok_format_canFix, ok_format_writer_fix, ok_format_writer_line, ok_slices_IndexFunc_api_Tier_api_Tier, ok_tier_gcd, ok_slices_ContainsFunc_int_int, ok_tier_wheel_1, ok_slices_IndexFunc_api_Facet_api_Facet, ok_slices_Index_int_int, ok_slices_IndexFunc_api_Ref_api_Ref, ok_tier_Find_1, ok_field_Valid, ok_format_refs, ok_format_valid, ok_format_writer_depth, ok_format_writer_meet, ok_format_writer_level, ok_format_writer_point, ok_slices_IndexFunc_int_int, ok_bigint_Valid, ok_bigint_Sign, ok_field_common, ok_bigint_Of, ok_format_refs_1, ok_format_short, ok_format_writer_put, ok_format_writer_value, ok_format_writer_refs, ok_bigint_Gcd, ok_bigint_word, ok_bigint_natural_with, ok_format_Value, ok_strconv_Itoa, ok_bigint_of, ok_bigint_natural_divide, ok_bigint_single, ok_bigint_natural_trim, ok_bigint_natural_mag, ok_field_Print, ok_field_Parse, ok_lexer_Value, ok_i_strconv_Itoa, ok_bigint_natural_compare, ok_bigint_natural_small, ok_math_bits_LeadingZeros32, ok_bigint_natural_shift, ok_bigint_digit, ok_strings_TrimLeft, ok_field_over, ok_bigint_Abs, ok_bigint_Print, ok_field_Of, ok_field_reader_passed, ok_field_reader_term, ok_field_Neg, ok_field_Add, ok_field_reader_fail, ok_strings_TrimPrefix, ok_strconv_Atoi, ok_i_strconv_FormatInt, ok_math_bits_Div32, ok_math_bits_Len32, ok_math_bits_Sub32, ok_math_bits_Add32, ok_strings_trimLeftByte, ok_bigint_DivMod, ok_strings_CutPrefix, ok_field_reader_root, ok_field_reader_value, ok_field_Mul, ok_bigint_Neg, ok_bigint_Add, ok_bigint_Mul, ok_field_lowest, ok_i_stringslite_TrimPrefix, ok_i_strconv_Atoi, ok_i_strconv_small, ok_i_strconv_numDigits, ok_i_strconv_formatBase10, ok_bigint_Sub, ok_i_stringslite_CutPrefix, ok_field_Root, ok_field_reader_integer, ok_field_reader_digits, ok_bigint_Pow, ok_bigint_Parse, ok_field_Make, ok_field_product, ok_bigint_natural_add, ok_bigint_natural_less, ok_bigint_natural_mul, ok_i_stringslite_HasPrefix, ok_i_strconv_log10Pow2, ok_math_bits_Len64, ok_i_strconv_bool2_int, ok_math_bits_Mul32, ok_bigint_product_put, by simp⟩
theorem tab_ok {g : Nat} {F : PFun} (h : tab g = some F) : funB Tryz.prog g F = true := by
  unfold tab at h
  simp only [Option.map_eq_some_iff] at h
  obtain ⟨p, hp, rfl⟩ := h
  have h1 := tabL_ok p (List.mem_of_find?_eq_some hp)
  have h2 := List.find?_some hp
  simp only [beq_iff_eq] at h2
  rw [← h2]; exact h1
end Go.Proofs.YteaopgkajbfkeaaGreatDoor
namespace Go.Proofs.YteaopgkajbfkeaaGreatDoor
open Go

theorem q_Add32 {x y c : Nat} (hx : x < 4294967296) (hy : y < 4294967296) (hc : c < 4294967296) : Cm.q f_math_bits_Add32 [.int .u32 x, .int .u32 y, .int .u32 c] = some (.tup [.int .u32 ((x + y + c) % 4294967296 : Nat), .int .u32 ((x + y + c) / 4294967296 : Nat)]) := by
  refine q_by t_math_bits_Add32 (Gives_of rfl ?_)
  simp (disch := omega) [e_math_bits_Add32]

theorem mul_lt32 {x y : Nat} (hx : x < 4294967296) (hy : y < 4294967296) : x * y < 18446744065119617026 := by
  have : x * y ≤ 4294967295 * 4294967295 := Nat.mul_le_mul (by omega) (by omega)
  omega

theorem q_Mul32 {x y : Nat} (hx : x < 4294967296) (hy : y < 4294967296) : Cm.q f_math_bits_Mul32 [.int .u32 x, .int .u32 y] = some (.tup [.int .u32 ((x * y) / 4294967296 : Nat), .int .u32 ((x * y) % 4294967296 : Nat)]) := by
  refine q_by t_math_bits_Mul32 (Gives_of rfl ?_)
  have h := mul_lt32 hx hy
  have h2 : ((x * y : Nat) : Int) < 18446744073709551616 := by omega
  have h3 : 0 ≤ ((x * y : Nat) : Int) := Int.natCast_nonneg _
  rw [Int.natCast_mul] at h2 h3
  simp (disch := omega) [e_math_bits_Mul32]

theorem q_Div32 {x y d : Nat} (hx : x < d) (hy : y < 4294967296) (hd : d < 4294967296) : Cm.q f_math_bits_Div32 [.int .u32 x, .int .u32 y, .int .u32 d] = some (.tup [.int .u32 ((x * 4294967296 + y) / d : Nat), .int .u32 ((x * 4294967296 + y) % d : Nat)]) := by
  refine q_by t_math_bits_Div32 (Gives_of rfl ?_)
  have h0 : d ≠ 0 := by omega
  have h1 : ¬ d ≤ x := by omega
  have h2 : (x * 4294967296 + y) / d < 4294967296 := by
    rw [Nat.div_lt_iff_lt_mul (by omega)]
    have : 4294967296 * (x + 1) ≤ 4294967296 * d := Nat.mul_le_mul_left _ hx
    omega
  have h3 : (x * 4294967296 + y) % d < 4294967296 := Nat.lt_trans (Nat.mod_lt _ (by omega)) hd
  have h4 : (((x * 4294967296 + y) / d : Nat) : Int) < 4294967296 := by omega
  have h5 : (((x * 4294967296 + y) % d : Nat) : Int) < 4294967296 := by omega
  have h6 : 0 ≤ (((x * 4294967296 + y) / d : Nat) : Int) := Int.natCast_nonneg _
  have h7 : 0 ≤ (((x * 4294967296 + y) % d : Nat) : Int) := Int.natCast_nonneg _
  simp at h4 h5 h6 h7
  simp (disch := omega) [e_math_bits_Div32, h0, h1, or_shl32]

theorem borrow32 {x y c : Nat} (hx : x < 4294967296) (hy : y < 4294967296) (hc : c < 2) :
    orI .u32 (andI .u32 (notI .u32 x) y) (andI .u32 (notI .u32 (xorI .u32 x y)) (((x : Int) - y - c) % 4294967296)) / 2147483648 = (if x < y + c then 1 else 0 : Nat) := by
  have hb : x ^^^ y < 2 ^ 32 := Nat.xor_lt_two_pow (by omega) (by omega)
  obtain ⟨z, hz⟩ : ∃ z : Nat, ((x : Int) - y - c) % 4294967296 = z := ⟨(((x : Int) - y - c) % 4294967296).toNat, by omega⟩
  have hz2 : z < 4294967296 := by omega
  have l1 : (4294967295 - x) &&& y < 2 ^ 32 := Nat.and_lt_two_pow _ (by omega)
  have l2 : (4294967295 - (x ^^^ y)) &&& z < 2 ^ 32 := Nat.and_lt_two_pow _ (by omega)
  rw [xorI_nat rfl hx hy, notI_nat rfl hx, notI_nat rfl hb, hz, andI_nat rfl (show _ < 2 ^ 32 by simp; omega) hy, andI_nat rfl (show _ < 2 ^ 32 by simp; omega) hz2, orI_nat rfl l1 l2]
  simp only [bits_u32]
  rw [show 2 ^ 32 - 1 - x = 4294967295 - x by omega, show 2 ^ 32 - 1 - (x ^^^ y) = 4294967295 - (x ^^^ y) by omega]
  -- the top bit
  have top : ∀ n : Nat, n < 4294967296 → n / 2147483648 = (n.testBit 31).toNat := by
    intro n hn
    rw [Nat.testBit_eq_decide_div_mod_eq]
    have : n / 2 ^ 31 < 2 := by omega
    by_cases h : n / 2 ^ 31 % 2 = 1 <;> simp [h] <;> omega
  have tb : ∀ n : Nat, n < 4294967296 → n.testBit 31 = decide (2147483648 ≤ n) := by
    intro n hn
    rw [Nat.testBit_eq_decide_div_mod_eq]
    by_cases h : 2147483648 ≤ n
    · have : n / 2 ^ 31 % 2 = 1 := by omega
      simp [h, this]
    · have : n / 2 ^ 31 % 2 = 0 := by omega
      simp [h, this]
  have l3 : ((4294967295 - x) &&& y) ||| ((4294967295 - (x ^^^ y)) &&& z) < 2 ^ 32 := Nat.or_lt_two_pow l1 l2
  have e := top _ l3
  rw [Nat.testBit_or, Nat.testBit_and, Nat.testBit_and, tb _ (by omega), tb y hy, tb z hz2] at e
  have e2 : (4294967295 - (x ^^^ y)).testBit 31 = !((x ^^^ y).testBit 31) := by
    rw [tb _ (by omega), tb _ (by omega)]
    by_cases h : 2147483648 ≤ x ^^^ y <;> simp [h] <;> omega
  rw [e2, Nat.testBit_xor, tb x hx, tb y hy] at e
  have e3 : (((((4294967295 - x) &&& y) ||| ((4294967295 - (x ^^^ y)) &&& z) : Nat) : Int) / 2147483648) = (((((4294967295 - x) &&& y) ||| ((4294967295 - (x ^^^ y)) &&& z)) / 2147483648 : Nat) : Int) := by omega
  rw [e3, e]
  by_cases h1 : 2147483648 ≤ x <;> by_cases h2 : 2147483648 ≤ y <;> by_cases h3 : 2147483648 ≤ z <;> by_cases h4 : x < y + c <;> by_cases h5 : 2147483648 ≤ 4294967295 - x <;> simp [h1, h2, h3, h4, h5] <;> omega

theorem q_Sub32 {x y c : Nat} (hx : x < 4294967296) (hy : y < 4294967296) (hc : c < 2) : Cm.q f_math_bits_Sub32 [.int .u32 x, .int .u32 y, .int .u32 c] = some (.tup [.int .u32 (((x : Int) - y - c) % 4294967296), .int .u32 ((if x < y + c then 1 else 0 : Nat))]) := by
  refine q_by t_math_bits_Sub32 (Gives_of rfl ?_)
  have h := borrow32 hx hy hc
  simp [e_math_bits_Sub32]
  exact h

theorem q_Len32 {x : Nat} (hx : x < 4294967296) : Cm.q f_math_bits_Len32 [.int .u32 x] = some (.int .i64 (blen x)) := by
  refine q_by t_math_bits_Len32 (Gives_of rfl ?_)
  have tab : ∀ i, i < 256 → (k_39b333ba[i]?).map UInt8.toNat = some (blen i) := by decide +kernel
  have t2 : ∀ i : Nat, i < 256 → ∃ b, k_39b333ba[i]? = some b ∧ b.toNat = blen i := by
    intro i hi
    have := tab i hi
    simpa [Option.map_eq_some_iff] using this
  simp [e_math_bits_Len32]
  have fin : ∀ z n : Nat, z < 256 → ∃ b, k_39b333ba[z]? = some b ∧ b.toNat = blen z ∧ blen z ≤ 8 := by
    intro z n hz
    obtain ⟨b, h1, h2⟩ := t2 z hz
    have h3 : blen z ≤ 8 := blen_le.2 (by omega)
    exact ⟨b, h1, by omega, h3⟩
  refine ⟨fun h1 => ?_, fun h1 => ?_⟩
  · simp
    refine ⟨fun h2 => ?_, fun h2 => ?_⟩
    · obtain ⟨z, hz⟩ : ∃ z, x / 2 ^ 24 = z := ⟨_, rfl⟩
      have hz2 : (x : Int) / 65536 / 256 = (z : Int) := by omega
      obtain ⟨b, g1, g2, g3⟩ := fin z 0 (by omega)
      have g4 := blen_shift (n := x) 24 (by omega)
      rw [hz] at g4
      simp (disch := omega) [hz2, g1, g2, g4, Int.add_comm]
    · obtain ⟨z, hz⟩ : ∃ z, x / 2 ^ 16 = z := ⟨_, rfl⟩
      have hz2 : (x : Int) / 65536 = (z : Int) := by omega
      obtain ⟨b, g1, g2, g3⟩ := fin z 0 (by omega)
      have g4 := blen_shift (n := x) 16 (by omega)
      rw [hz] at g4
      simp (disch := omega) [hz2, g1, g2, g4, Int.add_comm]
  · simp
    refine ⟨fun h2 => ?_, fun h2 => ?_⟩
    · obtain ⟨z, hz⟩ : ∃ z, x / 2 ^ 8 = z := ⟨_, rfl⟩
      have hz2 : (x : Int) / 256 = (z : Int) := by omega
      obtain ⟨b, g1, g2, g3⟩ := fin z 0 (by omega)
      have g4 := blen_shift (n := x) 8 (by omega)
      rw [hz] at g4
      simp (disch := omega) [hz2, g1, g2, g4, Int.add_comm]
    · obtain ⟨b, g1, g2, g3⟩ := fin x 0 (by omega)
      simp (disch := omega) [g1, g2]

theorem q_LeadingZeros32 {x : Nat} (hx : x < 4294967296) : Cm.q f_math_bits_LeadingZeros32 [.int .u32 x] = some (.int .i64 (32 - blen x : Nat)) := by
  refine q_by t_math_bits_LeadingZeros32 (Gives_of rfl ?_)
  have h : blen x ≤ 32 := blen_le.2 (by omega)
  simp (disch := omega) [e_math_bits_LeadingZeros32, q_Len32 hx]
  omega
/-- A sum with a carry. -/
theorem x_Add32 {x y c : Nat} (hx : x < 4294967296) (hy : y < 4294967296) (hc : c < 2) : ∃ s k : Nat, s < 4294967296 ∧ k < 2 ∧ s + 4294967296 * k = x + y + c ∧ Cm.q f_math_bits_Add32 [.int .u32 x, .int .u32 y, .int .u32 c] = some (.tup [.int .u32 s, .int .u32 k]) :=
  ⟨_, _, Nat.mod_lt _ (by omega), by omega, Nat.mod_add_div _ _, q_Add32 hx hy (by omega)⟩
/-- A difference with a borrow. -/
theorem x_Sub32 {x y c : Nat} (hx : x < 4294967296) (hy : y < 4294967296) (hc : c < 2) : ∃ s k : Nat, s < 4294967296 ∧ k < 2 ∧ s + y + c = x + 4294967296 * k ∧ Cm.q f_math_bits_Sub32 [.int .u32 x, .int .u32 y, .int .u32 c] = some (.tup [.int .u32 s, .int .u32 k]) := by
  refine ⟨(((x : Int) - y - c) % 4294967296).toNat, if x < y + c then 1 else 0, by omega, by split <;> omega, by split <;> omega, ?_⟩
  rw [q_Sub32 hx hy hc]
  congr 5
  omega
/-- A product of two words. -/
theorem x_Mul32 {x y : Nat} (hx : x < 4294967296) (hy : y < 4294967296) : ∃ a b : Nat, a < 4294967295 ∧ b < 4294967296 ∧ b + 4294967296 * a = x * y ∧ Cm.q f_math_bits_Mul32 [.int .u32 x, .int .u32 y] = some (.tup [.int .u32 a, .int .u32 b]) := by
  have := mul_lt32 hx hy
  exact ⟨_, _, by omega, by omega, by omega, q_Mul32 hx hy⟩
/-- A quotient of two words by one. -/
theorem x_Div32 {x y d : Nat} (hx : x < d) (hy : y < 4294967296) (hd : d < 4294967296) : ∃ q r : Nat, q < 4294967296 ∧ r < d ∧ d * q + r = x * 4294967296 + y ∧ Cm.q f_math_bits_Div32 [.int .u32 x, .int .u32 y, .int .u32 d] = some (.tup [.int .u32 q, .int .u32 r]) := by
  refine ⟨_, _, ?_, Nat.mod_lt _ (by omega), Nat.div_add_mod _ _, q_Div32 hx hy hd⟩
  rw [Nat.div_lt_iff_lt_mul (by omega)]
  have : 4294967296 * (x + 1) ≤ 4294967296 * d := Nat.mul_le_mul_left _ hx
  omega

end Go.Proofs.YteaopgkajbfkeaaGreatDoor
namespace Go.Proofs.YteaopgkajbfkeaaGreatDoor
open Go

def u32 (n : Nat) : AV := .int .u32 (n : Int)
@[simp] theorem u32_eq (n : Nat) : u32 n = .int .u32 (n : Int) := rfl
abbrev natA (o : Sl Nat) : AV := slA 1 u32 o
/-- Digits to the base 2^32. -/
def dig (n : Nat) : List Nat := digB 4294967296 n
def val (l : List Nat) : Nat := valB 4294967296 l
abbrev D32 (l : List Nat) : Prop := Dg 4294967296 l
@[simp] theorem val_nil : val [] = 0 := rfl
@[simp] theorem val_cons (d : Nat) (l : List Nat) : val (d :: l) = d + 4294967296 * val l := rfl
theorem val_append (l m : List Nat) : val (l ++ m) = val l + 4294967296 ^ l.length * val m := valB_append _ l m
theorem val_snoc (l : List Nat) (d : Nat) : val (l ++ [d]) = val l + 4294967296 ^ l.length * d := valB_snoc _ l d
theorem val_lt {l : List Nat} (h : D32 l) : val l < 4294967296 ^ l.length := valB_lt h
@[simp] theorem val_dig (n : Nat) : val (dig n) = n := valB_digB (by omega) n
theorem dig_dg (n : Nat) : D32 (dig n) := digB_dg (by omega) n
@[simp] theorem dig_zero : dig 0 = [] := digB_zero _
theorem dig_eq_nil {n : Nat} : dig n = [] ↔ n = 0 := digB_eq_nil (by omega)
theorem dig_length_le {n k : Nat} : (dig n).length ≤ k ↔ n < 4294967296 ^ k := digB_length_le (by omega)
theorem rstrip_val {l : List Nat} (h : D32 l) : rstrip l = dig (val l) := rstrip_dig (by omega) h
theorem dig_val {l : List Nat} (h : D32 l) (hz : Nz l) : dig (val l) = l := (dig_unique (by omega) h hz).symm
theorem dig_lt {n : Nat} (hn : n ≠ 0) (h : n < 4294967296) : dig n = [n] := digB_lt hn h
theorem dig_nz (n : Nat) : Nz (dig n) := digB_nz (by omega) n

theorem val_split {l : List Nat} {i : Nat} (h : i ≤ l.length) : val l = val (l.take i) + 4294967296 ^ i * val (l.drop i) := valB_split' h
theorem val_drop {l : List Nat} {i : Nat} (h : i < l.length) : val (l.drop i) = l[i] + 4294967296 * val (l.drop (i + 1)) := valB_drop h
def dN (n v : Nat) : List Nat := digN 4294967296 n v
@[simp] theorem dN_length (n v : Nat) : (dN n v).length = n := digN_length _ n v
theorem dN_dg (n v : Nat) : D32 (dN n v) := digN_dg (by omega) n v
theorem val_dN (n v : Nat) : val (dN n v) = v % 4294967296 ^ n := valB_digN (by omega) n v
theorem dN_of {n v : Nat} {l : List Nat} (h : D32 l) (hl : l.length = n) (hv : val l = v) : l = dN n v := digN_of_val h hl hv

/-- The digit at a place, 0 beyond. -/
def at0 (l : List Nat) (i : Nat) : Nat := l.getD i 0
theorem at0_lt {l : List Nat} (h : D32 l) (i : Nat) : at0 l i < 4294967296 := by
  unfold at0
  rw [List.getD_eq_getElem?_getD]
  by_cases hi : i < l.length
  · simp [hi]; exact h.get hi
  · simp [hi]
theorem at0_get {l : List Nat} {i : Nat} (h : i < l.length) : l[i] = at0 l i := by simp [at0, h]
theorem at0_set {l : List Nat} {i j x : Nat} (h : i < l.length) : at0 (l.set i x) j = if i = j then x else at0 l j := by
  simp only [at0, List.getD_eq_getElem?_getD, List.getElem?_set]
  by_cases e : i = j
  · subst e; simp [h]
  · simp [e]
theorem get_at0 {l : List Nat} {i : Nat} (h : i < l.length) : l[i]? = some (at0 l i) := by simp [at0, h]
theorem val_drop0 {l : List Nat} {i : Nat} (h : i < l.length) : val (l.drop i) = at0 l i + 4294967296 * val (l.drop (i + 1)) := by rw [val_drop h, at0_get h]
theorem at0_ge {l : List Nat} {i : Nat} (h : l.length ≤ i) : at0 l i = 0 := by simp [at0, h]
theorem val_take_succ (l : List Nat) (i : Nat) : val (l.take (i + 1)) = val (l.take i) + 4294967296 ^ i * at0 l i := by
  by_cases hi : i < l.length
  · rw [List.take_succ_eq_append_getElem hi, val_snoc]
    simp [at0, hi, Nat.min_eq_left (Nat.le_of_lt hi)]
  · rw [List.take_of_length_le (by omega), List.take_of_length_le (by omega), at0_ge (by omega)]
    simp
attribute [simp] at0_get
@[simp] theorem at0_range {n i : Nat} (h : i < n) : at0 (List.range n) i = i := by
  rw [← at0_get (by simpa using h)]; exact List.getElem_range _
/-- A list with a part in its middle. -/
def seg (pre w suf : List Nat) : List Nat := pre ++ (w ++ suf)
@[simp] theorem length_seg (pre w suf : List Nat) : (seg pre w suf).length = pre.length + w.length + suf.length := by simp [seg]; omega
theorem seg_get {pre w suf : List Nat} {i : Nat} (h : i < w.length) : (seg pre w suf)[pre.length + i]? = some (at0 w i) := by
  simp [seg, List.getElem?_append_right, List.getElem?_append_left, h]
theorem seg_set {pre w suf : List Nat} {i x : Nat} (h : i < w.length) : (seg pre w suf).set (pre.length + i) x = seg pre (w.set i x) suf := by
  simp [seg, List.set_append, h]
theorem seg_dg {pre w suf : List Nat} : D32 (seg pre w suf) ↔ D32 pre ∧ D32 w ∧ D32 suf := by
  unfold seg
  constructor
  · intro h
    exact ⟨fun x hx => h x (by simp [hx]), fun x hx => h x (by simp [hx]), fun x hx => h x (by simp [hx])⟩
  · rintro ⟨h1, h2, h3⟩
    exact h1.append (h2.append h3)

/-- An own block of digits. -/
abbrev blkN (l : List Nat) : Blk := ⟨mapV u32 l, 1, false, false⟩
@[simp] theorem set_u32 {l : List Nat} {i n : Nat} : (mapV u32 l).set i (.int .u32 (n : Int)) = mapV u32 (l.set i n) := set_mapV (f := u32)
@[simp] theorem splice_u32 {l : List Nat} {j x : Nat} (h : j < l.length) : splice (mapV u32 l) j [.int .u32 (x : Int)] = mapV u32 (l.set j x) := by
  rw [splice_one1 (by simpa using h), set_u32]
@[simp] theorem replicate_u32 {n : Nat} : List.replicate n (AV.int .u32 0) = mapV u32 (List.replicate n 0) := replicate_mapV (f := u32) (x := 0)

@[simp] theorem freeze_nat {l : List Nat} {off n c : Nat} {h : Store} : freeze (blkN l :: h) (.osl 0 off n c) = if off + n ≤ l.length then some (natA (some ((l.drop off).take n))) else none :=
  freeze_own_if rfl (fun x d => rfl)
@[simp] theorem freeze_nat1 {l : List Nat} {off n c : Nat} {b : Blk} {h : Store} : freeze (b :: blkN l :: h) (.osl 1 off n c) = if off + n ≤ l.length then some (natA (some ((l.drop off).take n))) else none :=
  freeze_own_if rfl (fun x d => rfl)
@[simp] theorem reach_nat1 {l : List Nat} {off n c : Nat} {b : Blk} {h : Store} : reachN (b :: blkN l :: h) 8 (.osl 1 off n c) = [1] :=
  reach_own rfl (fun x d => rfl)
@[simp] theorem sealAll_second {a b : Blk} {h : Store} : sealAll (a :: b :: h) [1] = a :: { b with ro := true } :: h := rfl
@[simp] theorem reach_nat {l : List Nat} {off n c : Nat} {h : Store} : reachN (blkN l :: h) 8 (.osl 0 off n c) = [0] :=
  reach_own rfl (fun x d => rfl)
@[simp] theorem sealAll_one {b : Blk} {h : Store} : sealAll (b :: h) [0] = { b with ro := true } :: h := rfl

@[simp] theorem map_cutS {α : Type} {o : Sl α} : cutS o 0 (lst o).length = o := by cases o <;> simp [cutS]
theorem slslV_slA_hi {α : Type} {e : Nat} {f : α → AV} {o : Sl α} {sl : List AV} {h : Store} {p : POpd} {n : Nat} (hp : asIdx (p.get sl) = some n) (hn : n ≤ (lst o).length) : slslV h e sl none (some p) none (slA e f o) = some (slA e f (cutS o 0 n)) := by
  cases o with
  | none => simp at hn; subst hn; simp [slA, hp, cutS]
  | some l => simp at hn; simp [slA, hp, cutS, hn]

theorem q_trim (o : Sl Nat) (hl : (lst o).length < 2 ^ 62) : Cm.q f_bigint_natural_trim [natA o] = some (natA (o.map rstrip)) := by
  refine q_by t_bigint_natural_trim (Gives_of rfl ?_)
  simp [e_bigint_natural_trim, l_bigint_natural_trim_0]
  refine V.loop (fun x : Nat => x ≤ (lst o).length ∧ rstrip ((lst o).take x) = rstrip (lst o)) (fun x => (mkL 21 .any [(0, natA (cutS o 0 x))], [])) (fun x => x) ?_ (lst o).length ⟨Nat.le_refl _, by simp⟩ ?_
  · rintro x ⟨hx, hr⟩
    have fin : ((lst o).take x ≠ [] → ∃ l y, (lst o).take x = l ++ [y] ∧ y ≠ 0) → slA 1 u32 (cutS o 0 x) = natA (o.map rstrip) := by
      intro h
      cases o with
      | none => rfl
      | some l =>
        simp only [lst_some] at *
        simp only [cutS, Option.map_some, List.drop_zero]
        by_cases h0 : l.take x = []
        · rw [h0] at hr ⊢; rw [← hr]; rfl
        · obtain ⟨m, y, h1, h2⟩ := h h0
          rw [h1] at hr ⊢; rw [← hr, rstrip_pos h2]
    simp [Nat.min_eq_left hx]
    refine ⟨fun h => ?_, fun h => ?_⟩
    · obtain ⟨y, rfl⟩ : ∃ y, x = y + 1 := ⟨x - 1, by omega⟩
      have hg : ((lst o).take (y + 1))[y]? = (lst o)[y]? := by simp [List.getElem?_take]
      have hy : y < (lst o).length := by omega
      have ht : (lst o).take (y + 1) = (lst o).take y ++ [at0 (lst o) y] := by rw [← at0_get hy, List.take_append_getElem]
      simp (disch := omega) [Nat.min_eq_left hx, hg, hy]
      refine ⟨fun h0 => ?_, fun h0 => ?_⟩
      · simp (disch := omega) [Nat.min_eq_left hx]
        rw [slslV_slA_hi (n := y) (by simp (disch := omega)) (by simp; omega)]
        simp
        refine ⟨y, ⟨by omega, ?_⟩, by omega, ?_⟩
        · rw [← hr, ht, h0, rstrip_zero]
        · simp [cutS, Function.comp_def, Option.map_map, List.take_take]
      · simp
        exact fin (fun _ => ⟨_, _, ht, h0⟩)
    · simp [h]
      exact fin (fun h1 => absurd (by simp [Nat.eq_zero_of_not_pos h]) h1)
  · simp

theorem lst_map_rstrip {o : Sl Nat} (h : D32 (lst o)) : lst (o.map rstrip) = dig (val (lst o)) := by
  cases o with
  | none => simp
  | some l => exact rstrip_val h
/-- What is made is trimmed. -/
theorem q_trim_some {l : List Nat} (hl : l.length < 2 ^ 62) (h : D32 l) : Cm.q f_bigint_natural_trim [natA (some l)] = some (natA (some (dig (val l)))) := by
  rw [q_trim (some l) hl, Option.map_some, rstrip_val h]
end Go.Proofs.YteaopgkajbfkeaaGreatDoor
namespace Go.Proofs.YteaopgkajbfkeaaGreatDoor
open Go

/-- The state of a sum: the place, what is written, the carry. -/
structure AddSt where
  i : Nat
  out : List Nat
  c : Nat

theorem add_loop {a b : Sl Nat} (ha : D32 (lst a)) (hb : D32 (lst b)) (hab : (lst b).length ≤ (lst a).length) (h1 : (lst a).length ≤ 2 ^ 30) {m : List (Nat × AV)} {d : AV} {Q : Ex → St → Prop}
    (m0 : lk d m 0 = natA a) (m1 : lk d m 1 = natA b) (m5 : lk d m 5 = .osl 0 0 ((lst a).length + 1) ((lst a).length + 1)) (m6 : lk d m 6 = .int .u32 0) (m21 : lk d m 21 = natA a) (m22 : lk d m 22 = .int .i64 (lst a).length) (m23 : lk d m 23 = .int .i64 0)
    (hq : ∀ m' d' out c, lk d' m' 0 = natA a → lk d' m' 5 = .osl 0 0 ((lst a).length + 1) ((lst a).length + 1) → lk d' m' 6 = .int .u32 (c : Nat) → out.length = (lst a).length + 1 → D32 out → c < 2 → val (out.take (lst a).length) + 4294967296 ^ (lst a).length * c = val (lst a) + val (lst b) → Q .nrm (mkL 54 d' m', [blkN out])) :
    V Cm 0 l_bigint_natural_add_0 (mkL 54 d m, [blkN (List.replicate ((lst a).length + 1) 0)]) Q ⟨⟩ ⟨⟩ := by
  unfold l_bigint_natural_add_0
  simp
  refine V.loop (fun x : AddSt => x.i ≤ (lst a).length ∧ x.out.length = (lst a).length + 1 ∧ D32 x.out ∧ x.c < 2 ∧ val (x.out.take x.i) + 4294967296 ^ x.i * x.c = val ((lst a).take x.i) + val ((lst b).take x.i))
    (fun x => (mkL 54 .any [(0, natA a), (1, natA b), (5, .osl 0 0 ((lst a).length + 1) ((lst a).length + 1)), (6, .int .u32 x.c), (21, natA a), (22, .int .i64 (lst a).length), (23, .int .i64 x.i)], [blkN x.out])) (fun x => (lst a).length - x.i) ?_ ⟨0, List.replicate ((lst a).length + 1) 0, 0⟩ ?_ ?_
  · rintro ⟨i, out, c⟩ ⟨hi, hl, hd, hc, hv⟩
    dsimp only at hi hl hd hc hv
    simp
    refine ⟨fun h => ?_, fun h => ?_⟩
    · have ga := get_at0 h
      have la := at0_lt ha i
      have lb := at0_lt hb i
      obtain ⟨s, k, hs, hk, he, hq'⟩ := x_Add32 la lb hc
      have hx : val ((out.set i s).take (i + 1)) + 4294967296 ^ (i + 1) * k = val ((lst a).take (i + 1)) + val ((lst b).take (i + 1)) := by
        rw [val_take_succ, val_take_succ, val_take_succ, List.take_set_of_le (Nat.le_refl i)]
        rw [at0_set (by omega), if_pos rfl, Nat.pow_succ]
        have e2 := congrArg (4294967296 ^ i * ·) he
        simp only [Nat.mul_add] at e2
        rw [Nat.mul_assoc]
        omega
      simp (disch := omega)
      refine ⟨fun hib => ?_, fun hib => ?_⟩
      · simp (disch := omega) [hq', hl]
        exact ⟨⟨i + 1, out.set i s, k⟩, ⟨by simp; omega, by simpa using hl, hd.set hs i, hk, hx⟩, by simp; omega, by simp⟩
      · rw [at0_ge (l := lst b) (by omega)] at hq'
        simp at hq'
        simp (disch := omega) [hq', hl]
        exact ⟨⟨i + 1, out.set i s, k⟩, ⟨by simp; omega, by simpa using hl, hd.set hs i, hk, hx⟩, by simp; omega, by simp⟩
    · obtain rfl : i = (lst a).length := by omega
      simp
      refine hq _ _ out c ?_ ?_ ?_ hl hd hc ?_
      · simp
      · simp
      · simp
      · rw [hv, List.take_length, List.take_of_length_le hab]
  · simp; exact Dg.replicate (by omega)
  · simp [m0, m1, m5, m6, m21, m22, m23]

theorem q_add (o p : Sl Nat) (ho : D32 (lst o)) (hp : D32 (lst p)) (h1 : (lst o).length ≤ 2 ^ 30) (h2 : (lst p).length ≤ 2 ^ 30) :
    Cm.q f_bigint_natural_add [natA o, natA p] = some (natA (some (dig (val (lst o) + val (lst p))))) := by
  refine q_by t_bigint_natural_add (Gives_of rfl ?_)
  simp (disch := omega) [e_bigint_natural_add]
  have fin : ∀ (a b : Sl Nat), D32 (lst a) → D32 (lst b) → (lst b).length ≤ (lst a).length → (lst a).length ≤ 2 ^ 30 → ∀ (out : List Nat) (c : Nat), out.length = (lst a).length + 1 → D32 out → c < 2 → val (out.take (lst a).length) + 4294967296 ^ (lst a).length * c = val (lst a) + val (lst b) →
      Cm.q f_bigint_natural_trim [natA (some (out.set (lst a).length c))] = some (natA (some (dig (val (lst a) + val (lst b))))) := by
    intro a b ha hb hab h1 out c hl hd hc hv
    rw [q_trim_some (by simp; omega) (hd.set (by omega) _), ← hv]
    congr 4
    rw [← List.take_length (l := out.set _ _), List.length_set, hl, val_take_succ, List.take_set_of_le (Nat.le_refl _), at0_set (by omega), if_pos rfl]
  refine ⟨fun h => ?_, fun h => ?_⟩
  · simp (disch := omega)
    refine add_loop hp ho (by omega) (by omega) ?_ ?_ ?_ ?_ ?_ ?_ ?_ ?_ <;> (try simp)
    intro m' d' out c g0 g5 g6 hl hd hc hv
    have ht : (out.set (lst p).length c).take ((lst p).length + 1) = out.set (lst p).length c := List.take_of_length_le (by simp; omega)
    simp (disch := omega) [g0, g5, g6, hl, ht, fin p o hp ho (by omega) (by omega) out c hl hd hc hv]
    rw [Nat.add_comm]
  · simp (disch := omega)
    refine add_loop ho hp (by omega) (by omega) ?_ ?_ ?_ ?_ ?_ ?_ ?_ ?_ <;> (try simp)
    intro m' d' out c g0 g5 g6 hl hd hc hv
    have ht : (out.set (lst o).length c).take ((lst o).length + 1) = out.set (lst o).length c := List.take_of_length_le (by simp; omega)
    simp (disch := omega) [g0, g5, g6, hl, ht, fin o p ho hp (by omega) (by omega) out c hl hd hc hv]
end Go.Proofs.YteaopgkajbfkeaaGreatDoor
namespace Go.Proofs.YteaopgkajbfkeaaGreatDoor
open Go

theorem q_less (a b : Sl Nat) (ha : D32 (lst a)) (hb : D32 (lst b)) (hab : (lst b).length ≤ (lst a).length) (h1 : (lst a).length ≤ 2 ^ 30) (hv : val (lst b) ≤ val (lst a)) :
    Cm.q f_bigint_natural_less [natA a, natA b] = some (natA (some (dig (val (lst a) - val (lst b))))) := by
  refine q_by t_bigint_natural_less (Gives_of rfl ?_)
  simp (disch := omega) [e_bigint_natural_less, l_bigint_natural_less_0]
  refine V.loop (fun x : AddSt => x.i ≤ (lst a).length ∧ x.out.length = (lst a).length ∧ D32 x.out ∧ x.c < 2 ∧ val (x.out.take x.i) + val ((lst b).take x.i) = val ((lst a).take x.i) + 4294967296 ^ x.i * x.c)
    (fun x => (mkL 41 .any [(1, natA b), (5, .osl 0 0 (lst a).length (lst a).length), (6, .int .u32 x.c), (13, natA a), (14, .int .i64 (lst a).length), (15, .int .i64 x.i)], [blkN x.out])) (fun x => (lst a).length - x.i) ?_ ⟨0, List.replicate (lst a).length 0, 0⟩ ?_ ?_
  · rintro ⟨i, out, c⟩ ⟨hi, hl, hd, hc, hi2⟩
    dsimp only at hi hl hd hc hi2
    simp
    refine ⟨fun h => ?_, fun h => ?_⟩
    · have la := at0_lt ha i
      have lb := at0_lt hb i
      obtain ⟨s, k, hs, hk, he, hq'⟩ := x_Sub32 la lb hc
      have hx : val ((out.set i s).take (i + 1)) + val ((lst b).take (i + 1)) = val ((lst a).take (i + 1)) + 4294967296 ^ (i + 1) * k := by
        rw [val_take_succ, val_take_succ, val_take_succ, List.take_set_of_le (Nat.le_refl i), at0_set (by omega), if_pos rfl, Nat.pow_succ]
        have e2 := congrArg (4294967296 ^ i * ·) he
        simp only [Nat.mul_add] at e2
        rw [Nat.mul_assoc]
        omega
      simp (disch := omega)
      refine ⟨fun hib => ?_, fun hib => ?_⟩
      · simp (disch := omega) [hq', hl]
        exact ⟨⟨i + 1, out.set i s, k⟩, ⟨by simp; omega, by simpa using hl, hd.set hs i, hk, hx⟩, by simp; omega, by simp⟩
      · rw [at0_ge (l := lst b) (by omega)] at hq'
        simp at hq'
        simp (disch := omega) [hq', hl]
        exact ⟨⟨i + 1, out.set i s, k⟩, ⟨by simp; omega, by simpa using hl, hd.set hs i, hk, hx⟩, by simp; omega, by simp⟩
    · obtain rfl : i = (lst a).length := by omega
      have ht : out.take (lst a).length = out := List.take_of_length_le (by omega)
      rw [ht, List.take_length, List.take_of_length_le hab] at hi2
      have hvo := val_lt hd
      rw [hl] at hvo
      have hc0 : c = 0 := by
        rcases Nat.lt_or_ge c 1 with h | h
        · omega
        · have : c = 1 := by omega
          subst this; omega
      subst hc0
      have e : val (lst a) - val (lst b) = val out := by omega
      simp (disch := omega) [hl, ht, q_trim_some (l := out) (by omega) hd, e]
  · simp; exact Dg.replicate (by omega)
  · simp

/-- How two numbers compare: the sign counts. -/
def cmpN (m n : Nat) : Int := if (dig m).length = (dig n).length then (if m < n then -1 else if n < m then 1 else 0) else ((dig m).length : Int) - (dig n).length
theorem dig_length_lt_imp {m n : Nat} (h : (dig m).length < (dig n).length) : m < n := by
  rcases Nat.lt_or_ge m n with h1 | h1
  · exact h1
  · have := digB_length_mono (b := 4294967296) (by omega) h1
    unfold dig at h; omega
theorem cmpN_lt {m n : Nat} : cmpN m n < 0 ↔ m < n := by
  unfold cmpN
  split
  · split
    · simp [*]
    · split <;> simp <;> omega
  · rename_i h
    constructor
    · intro h1; exact dig_length_lt_imp (by omega)
    · intro h1
      have := digB_length_mono (b := 4294967296) (by omega) (Nat.le_of_lt h1)
      unfold dig at *; omega
theorem cmpN_ge {m n : Nat} : 0 ≤ cmpN m n ↔ n ≤ m := by
  have := cmpN_lt (m := m) (n := n); omega

theorem q_compare (a b : Sl Nat) (ha : lst a = dig (val (lst a))) (hb : lst b = dig (val (lst b))) (h1 : (lst a).length ≤ 2 ^ 30) (h2 : (lst b).length ≤ 2 ^ 30) :
    Cm.q f_bigint_natural_compare [natA a, natA b] = some (.int .i64 (cmpN (val (lst a)) (val (lst b)))) := by
  refine q_by t_bigint_natural_compare (Gives_of rfl ?_)
  have da : D32 (lst a) := by rw [ha]; exact dig_dg _
  have db : D32 (lst b) := by rw [hb]; exact dig_dg _
  simp (disch := omega) [e_bigint_natural_compare]
  refine ⟨fun h => ?_, fun h => ?_⟩
  · simp (disch := omega)
    rw [cmpN, ← ha, ← hb, if_neg (by omega)]
  · have he : (lst a).length = (lst b).length := by omega
    have hc : cmpN (val (lst a)) (val (lst b)) = if val (lst a) < val (lst b) then -1 else if val (lst b) < val (lst a) then 1 else 0 := by
      rw [cmpN, ← ha, ← hb, if_pos he]
    simp (disch := omega) [l_bigint_natural_compare_0]
    refine V.loop (fun x : Nat => x ≤ (lst a).length ∧ (lst a).drop x = (lst b).drop x) (fun x => (mkL 43 .any [(0, natA a), (1, natA b), (5, .int .i64 ((x : Int) - 1))], [])) (fun x => x) ?_ (lst a).length ⟨Nat.le_refl _, by simp [he]⟩ ?_
    · rintro x ⟨hx, hd⟩
      simp
      refine ⟨fun h3 => ?_, fun h3 => ?_⟩
      · obtain ⟨i, rfl⟩ : ∃ i, x = i + 1 := ⟨x - 1, by omega⟩
        have e0 : (((i + 1 : Nat) : Int) - 1) = (i : Int) := by omega
        simp (disch := omega)
        refine ⟨fun h4 => ?_, fun h4 => ?_⟩
        · simp (disch := omega)
          have : val (lst a) < val (lst b) := valB_cmp (b := 4294967296) (l := lst a) (m := lst b) (i := i) da he (by omega) (by omega) hd (by simpa using h4)
          rw [hc, if_pos this]
        · simp (disch := omega)
          refine ⟨fun h5 => ?_, fun h5 => ?_⟩
          · simp (disch := omega)
            have := valB_cmp (b := 4294967296) (l := lst b) (m := lst a) (i := i) db he.symm (by omega) (by omega) hd.symm (by simpa using h5)
            have : val (lst b) < val (lst a) := this
            rw [hc, if_neg (by omega), if_pos this]
          · simp (disch := omega)
            refine ⟨i, ⟨by omega, ?_⟩, by omega, by simp⟩
            rw [List.drop_eq_getElem_cons (show i < (lst a).length by omega), List.drop_eq_getElem_cons (show i < (lst b).length by omega), hd]
            simp; omega
      · obtain rfl : x = 0 := by omega
        simp at hd
        simp (disch := omega)
        rw [hc, hd, if_neg (by omega), if_neg (by omega)]
    · simp

/-- A list of at most two digits as one word. -/
theorem q_single (a : Sl Nat) (ha : D32 (lst a)) (h2 : (lst a).length ≤ 2) : Cm.q f_bigint_single [natA a] = some (.int .u64 (val (lst a))) := by
  refine q_by t_bigint_single (Gives_of rfl ?_)
  simp (disch := omega) [e_bigint_single, l_bigint_single_0]
  refine V.loop (fun x : Nat => x ≤ (lst a).length) (fun x => (mkL 21 .any [(0, natA a), (3, .int .u64 (val ((lst a).drop x))), (4, .int .i64 ((x : Int) - 1))], [])) (fun x => x) ?_ (lst a).length (Nat.le_refl _) ?_
  · intro x hx
    simp
    refine ⟨fun h3 => ?_, fun h3 => ?_⟩
    · obtain ⟨i, rfl⟩ : ∃ i, x = i + 1 := ⟨x - 1, by omega⟩
      have l1 := at0_lt ha i
      have l2 : val ((lst a).drop (i + 1)) < 4294967296 := by
        have := val_lt (ha.drop (i + 1))
        have h4 : ((lst a).drop (i + 1)).length ≤ 1 := by simp; omega
        have h5 : 4294967296 ^ ((lst a).drop (i + 1)).length ≤ 4294967296 ^ 1 := Nat.pow_le_pow_right (by omega) h4
        omega
      have l3 := val_drop0 (l := lst a) (i := i) (by omega)
      have l4 : ((val ((lst a).drop i) : Nat) : Int) = (val ((lst a).drop (i + 1)) : Int) * 4294967296 + at0 (lst a) i := by omega
      simp (disch := omega) [or_shl32]
      exact ⟨i, by omega, by omega, by rw [l4]⟩
    · obtain rfl : x = 0 := by omega
      simp
  · simp

theorem dN_at0 {n i v : Nat} (h : i < n) : at0 (dN n v) i = v / 4294967296 ^ i % 4294967296 := by
  induction n generalizing i v with
  | zero => omega
  | succ n ih =>
    cases i with
    | zero => simp [at0, dN, digN]
    | succ i =>
      have := ih (i := i) (v := v / 4294967296) (by omega)
      have e : at0 (dN (n + 1) v) (i + 1) = at0 (dN n (v / 4294967296)) i := by simp [at0, dN, digN]
      rw [e, this, Nat.div_div_eq_div_mul, Nat.pow_succ, Nat.mul_comm (4294967296 ^ i)]

theorem g_shift (a : Sl Nat) (ha : D32 (lst a)) (h1 : (lst a).length ≤ 2 ^ 30) {k : Nat} (hk : k < 32) :
    Gives' Cm e_bigint_natural_shift [natA a, .int .i64 k] [] fun v h' => v = .osl 0 0 ((lst a).length + 1) ((lst a).length + 1) ∧ h' = [blkN (dN ((lst a).length + 1) (2 ^ k * val (lst a)))] := by
  refine Gives_of rfl ?_
  obtain ⟨p, hp⟩ : ∃ p, 2 ^ k = p := ⟨_, rfl⟩
  have hpI : (2 : Int) ^ k = (p : Int) := by rw [← hp]; simp
  have hp0 : 0 < p := by rw [← hp]; exact Nat.pow_pos (by omega)
  have hp1 : p ≤ 2147483648 := by rw [← hp]; exact (show 2 ^ k ≤ 2 ^ 31 from Nat.pow_le_pow_right (by omega) (by omega))
  have hm1 : min k 32 = k := by omega
  have hm2 : min k 64 = k := by omega
  rw [hp]
  simp (disch := omega) [e_bigint_natural_shift, l_bigint_natural_shift_0]
  refine V.loop (fun x : Nat × List Nat => x.1 ≤ (lst a).length ∧ x.2.length = (lst a).length + 1 ∧ D32 x.2 ∧ val (x.2.take (x.1 + 1)) = p * val ((lst a).take x.1) ∧ at0 x.2 x.1 < p)
    (fun x => (mkL 40 .any [(1, .int .i64 k), (5, .osl 0 0 ((lst a).length + 1) ((lst a).length + 1)), (12, natA a), (13, .int .i64 (lst a).length), (14, .int .i64 x.1)], [blkN x.2])) (fun x => (lst a).length - x.1) ?_ (0, List.replicate ((lst a).length + 1) 0) ?_ ?_
  · rintro ⟨i, out⟩ ⟨hi, hl, hd, hv, ht⟩
    dsimp only at hi hl hd hv ht
    simp
    refine ⟨fun h => ?_, fun h => ?_⟩
    · have la := at0_lt ha i
      obtain ⟨x, hx⟩ : ∃ x, at0 (lst a) i = x := ⟨_, rfl⟩
      obtain ⟨y, hy⟩ : ∃ y, at0 out i = y := ⟨_, rfl⟩
      rw [hx] at la
      rw [hy] at ht
      have hxp : x * p < 4294967296 * p := Nat.mul_lt_mul_of_pos_right la hp0
      obtain ⟨z, hz⟩ : ∃ z, x * p = z := ⟨_, rfl⟩
      have hzI : (x : Int) * p = z := by rw [← hz]; simp
      rw [hz] at hxp
      obtain ⟨s, hs⟩ : ∃ s, y + z % 4294967296 = s := ⟨_, rfl⟩
      obtain ⟨t, ht2⟩ : ∃ t, z / 4294967296 = t := ⟨_, rfl⟩
      have htp : t < p := by rw [← ht2]; rw [Nat.div_lt_iff_lt_mul (by omega)]; omega
      have hzm : z % 4294967296 % p = 0 := by
        have hd1 : p ∣ z := ⟨x, by rw [← hz, Nat.mul_comm]⟩
        have hd2 : p ∣ 4294967296 := ⟨2 ^ (32 - k), by rw [← hp, ← Nat.pow_add]; rw [show k + (32 - k) = 32 by omega]⟩
        exact Nat.mod_eq_zero_of_dvd ((Nat.dvd_mod_iff hd2).2 hd1)
      have hor : orI .u32 (y : Int) ((z : Int) % 4294967296) = s := by
        have e : ((z : Int) % 4294967296) = ((z % 4294967296 : Nat) : Int) := by omega
        rw [e, orI_nat rfl (by simp; omega) (by simp; omega), Nat.or_comm, nat_or_add (k := k) (by rw [hp]; exact hzm) (by rw [hp]; exact ht), ← hs, Nat.add_comm]
      have hsB : s < 4294967296 := by
        have h1 : z % 4294967296 + y < 2 ^ 32 := by
          have := nat_or_add (k := k) (a := z % 4294967296) (b := y) (by rw [hp]; exact hzm) (by rw [hp]; exact ht)
          rw [← this]
          exact Nat.or_lt_two_pow (by omega) (by omega)
        omega
      have hti : (z : Int) / 4294967296 = t := by omega
      simp (disch := omega) [hl, hx, hy, hpI, hm1, hm2, hzI, hor, hti]
      refine ⟨i + 1, (out.set i s).set (i + 1) t, ⟨by omega, by simpa using hl, (hd.set hsB i).set (by omega) _, ?_, ?_⟩, by omega, rfl, rfl⟩
      · rw [val_take_succ, val_take_succ (lst a), List.take_set_of_le (Nat.le_refl _), at0_set (by simp; omega), if_pos rfl, val_take_succ, List.take_set_of_le (Nat.le_refl i), at0_set (by omega), if_pos rfl]
        rw [val_take_succ, hy] at hv
        rw [hx, Nat.mul_add, ← hv]
        have e1 : p * (4294967296 ^ i * x) = 4294967296 ^ i * z := by rw [← hz, Nat.mul_left_comm, Nat.mul_comm p x]
        have e2 : 4294967296 ^ i * z = 4294967296 ^ i * (z % 4294967296) + 4294967296 ^ i * (4294967296 * t) := by rw [← Nat.mul_add, ← ht2, Nat.mod_add_div]
        rw [e1, e2, ← hs, Nat.pow_succ, Nat.mul_assoc, Nat.mul_add]
        omega
      · rw [at0_set (by simp; omega), if_pos rfl]; exact htp
    · obtain rfl : i = (lst a).length := by omega
      have ht : out.take ((lst a).length + 1) = out := List.take_of_length_le (by omega)
      rw [ht, List.take_length] at hv
      simp
      rw [dN_of hd hl hv]
  · have : at0 (List.replicate ((lst a).length + 1) 0) 0 = 0 := by simp [at0]
    simp [this, hp0, val_take_succ]
    exact Dg.replicate (by omega)
  · simp

theorem k_shift (a : Sl Nat) (ha : D32 (lst a)) (h1 : (lst a).length ≤ 2 ^ 30) {k : Nat} (hk : k < 32) :
    Cm.k f_bigint_natural_shift [natA a, .int .i64 k] [] = some (.osl 0 0 ((lst a).length + 1) ((lst a).length + 1), [blkN (dN ((lst a).length + 1) (2 ^ k * val (lst a)))]) := by
  refine k_by t_bigint_natural_shift ?_
  obtain ⟨v, h', h2, rfl, rfl⟩ := g_shift a ha h1 hk
  exact ⟨_, _, h2, rfl⟩
theorem q_shift (a : Sl Nat) (ha : D32 (lst a)) (h1 : (lst a).length ≤ 2 ^ 30) {k : Nat} (hk : k < 32) :
    Cm.q f_bigint_natural_shift [natA a, .int .i64 k] = some (natA (some (dN ((lst a).length + 1) (2 ^ k * val (lst a))))) := by
  refine q_by t_bigint_natural_shift ?_
  obtain ⟨v, h', h2, rfl, rfl⟩ := g_shift a ha h1 hk
  exact ⟨_, _, h2, by simp [List.take_of_length_le]⟩

theorem q_small (a : Sl Nat) (ha : D32 (lst a)) (h1 : (lst a).length ≤ 2 ^ 30) {d : Nat} (hd : d ≠ 0) (hd2 : d < 4294967296) :
    Cm.q f_bigint_natural_small [natA a, .int .u32 d] = some (.tup [natA (some (dig (val (lst a) / d))), .int .u32 (val (lst a) % d : Nat)]) := by
  refine q_by t_bigint_natural_small (Gives_of rfl ?_)
  obtain ⟨qq, hqq⟩ : ∃ q, val (lst a) / d = q := ⟨_, rfl⟩
  obtain ⟨rr, hrr⟩ : ∃ r, val (lst a) % d = r := ⟨_, rfl⟩
  rw [hqq, hrr]
  simp (disch := omega) [e_bigint_natural_small, l_bigint_natural_small_0]
  refine V.loop (fun x : AddSt => x.i ≤ (lst a).length ∧ x.out.length = (lst a).length ∧ D32 x.out ∧ x.c < d ∧ val (x.out.drop x.i) * d + x.c = val ((lst a).drop x.i))
    (fun x => (mkL 35 .any [(0, natA a), (1, .int .u32 d), (6, .osl 0 0 (lst a).length (lst a).length), (7, .int .u32 x.c), (8, .int .i64 ((x.i : Int) - 1))], [blkN x.out])) (fun x => x.i) ?_ ⟨(lst a).length, List.replicate (lst a).length 0, 0⟩ ?_ ?_
  · rintro ⟨x, out, c⟩ ⟨hi, hl, hdo, hc, hv⟩
    dsimp only at hi hl hdo hc hv
    simp
    refine ⟨fun h => ?_, fun h => ?_⟩
    · obtain ⟨i, rfl⟩ : ∃ i, x = i + 1 := ⟨x - 1, by omega⟩
      have la := at0_lt ha i
      obtain ⟨q, r, hq, hr, he, hq'⟩ := x_Div32 hc la hd2
      simp (disch := omega) [hl, hq']
      refine ⟨⟨i, out.set i q, r⟩, ⟨by simp; omega, by simpa using hl, hdo.set hq i, hr, ?_⟩, by simp, by simp⟩
      have e1 := val_drop0 (l := lst a) (i := i) (by omega)
      have e2 := val_drop0 (l := out.set i q) (i := i) (by simp; omega)
      have e0 : (out.set i q).drop (i + 1) = out.drop (i + 1) := by rw [List.drop_set, if_pos (by omega)]
      rw [at0_set (by omega), if_pos rfl, e0] at e2
      simp only
      rw [e1, e2, ← hv]
      have e3 : 4294967296 * val (out.drop (i + 1)) * d = 4294967296 * (val (out.drop (i + 1)) * d) := Nat.mul_assoc _ _ _
      have e4 : q * d = d * q := Nat.mul_comm _ _
      rw [Nat.add_mul, e3, e4, Nat.mul_add]
      omega
    · obtain rfl : x = 0 := by omega
      simp at hv
      have ht : out.take (lst a).length = out := List.take_of_length_le (by omega)
      have e1 : qq = val out := by
        rw [← hqq, ← hv, Nat.mul_comm, Nat.mul_add_div (by omega), Nat.div_eq_of_lt hc, Nat.add_zero]
      have e2 : rr = c := by
        rw [← hrr, ← hv, Nat.mul_comm, Nat.mul_add_mod, Nat.mod_eq_of_lt hc]
      subst e1 e2
      simp (disch := omega) [hl, ht, q_trim_some (l := out) (by omega) hdo]
  · simp [Nat.pos_of_ne_zero hd]
    exact Dg.replicate (by omega)
  · simp
end Go.Proofs.YteaopgkajbfkeaaGreatDoor
namespace Go.Proofs.YteaopgkajbfkeaaGreatDoor
open Go

/-- The numbers of a guess. -/
theorem guess_of {v w : List Nat} (hv : D32 v) (hw : D32 w) {k : Nat} (hn : v.length = k + 2) (hm : w.length = k + 3) (ht : 4294967296 ≤ 2 * at0 v (k + 1)) (hlt : val w < val v * 4294967296) :
    Guess 4294967296 (4294967296 ^ k) (val v) (val w) (at0 v (k + 1)) (at0 v k) (at0 w (k + 2)) (at0 w (k + 1)) (at0 w k) := by
  refine ⟨ht, at0_lt hv _, at0_lt hv _, at0_lt hw _, at0_lt hw _, Nat.pow_pos (by omega), ⟨val (v.take k), ?_, ?_⟩, ⟨val (w.take k), ?_, ?_⟩, hlt⟩
  · have := val_lt (hv.take k)
    rwa [List.length_take, Nat.min_eq_left (by omega)] at this
  · rw [val_split (l := v) (i := k) (by omega), val_drop0 (l := v) (i := k) (by omega), val_drop0 (l := v) (i := k + 1) (by omega), List.drop_of_length_le (by omega)]
    simp only [val_nil, Nat.mul_zero, Nat.add_zero]
    rw [Nat.mul_comm, Nat.mul_comm 4294967296, Nat.add_comm]
    congr 1
    rw [Nat.add_comm]
  · have := val_lt (hw.take k)
    rwa [List.length_take, Nat.min_eq_left (by omega)] at this
  · rw [val_split (l := w) (i := k) (by omega), val_drop0 (l := w) (i := k) (by omega), val_drop0 (l := w) (i := k + 1) (by omega), val_drop0 (l := w) (i := k + 2) (by omega), List.drop_of_length_le (by omega)]
    simp only [val_nil, Nat.mul_zero, Nat.add_zero]
    rw [Nat.mul_comm, Nat.add_comm]
    congr 2
    omega

theorem digit_loop0 {pre w suf : List Nat} {v : Sl Nat} {B1 : Blk} {cap k : Nat} (hv : D32 (lst v)) (hw : D32 w) (hn : (lst v).length = k + 2) (hm : w.length = k + 3) (hk : k < 2 ^ 30)
    (G : Guess 4294967296 (4294967296 ^ k) (val (lst v)) (val w) (at0 (lst v) (k + 1)) (at0 (lst v) k) (at0 w (k + 2)) (at0 w (k + 1)) (at0 w k))
    {m : List (Nat × AV)} {d : AV} {Q : Ex → St → Prop}
    (m0 : lk d m 0 = .osl 0 pre.length (k + 3) cap) (m1 : lk d m 1 = natA v) (m5 : lk d m 5 = .int .i64 ((k : Int) + 2))
    (m7 : lk d m 7 = .int .u64 ((at0 w (k + 2) * 4294967296 + at0 w (k + 1)) / at0 (lst v) (k + 1) : Nat)) (m8 : lk d m 8 = .int .u64 ((at0 w (k + 2) * 4294967296 + at0 w (k + 1)) % at0 (lst v) (k + 1) : Nat))
    (hq : ∀ m' d' q, lk d' m' 0 = .osl 0 pre.length (k + 3) cap → lk d' m' 1 = natA v → lk d' m' 5 = .int .i64 ((k : Int) + 2) → lk d' m' 7 = .int .u64 (q : Nat) →
      q < 4294967296 → q * val (lst v) < val w + val (lst v) → val w / val (lst v) ≤ q → Q .nrm (mkL 159 d' m', [blkN (seg pre w suf), B1])) :
    V Cm 2 l_bigint_digit_0 (mkL 159 d m, [blkN (seg pre w suf), B1]) Q ⟨⟩ ⟨⟩ := by
  unfold l_bigint_digit_0
  simp
  have hvp := G.vpos
  have l1 := at0_lt hv (k + 1)
  have l2 := at0_lt hv k
  have l3 := at0_lt hw (k + 2)
  have l4 := at0_lt hw (k + 1)
  have l5 := at0_lt hw k
  have g5 := seg_get (pre := pre) (w := w) (suf := suf) (i := k) (by omega)
  have htop := G.top
  generalize e1 : at0 (lst v) (k + 1) = vt at *
  generalize e2 : at0 (lst v) k = vs at *
  generalize e3 : at0 w (k + 2) = u2 at *
  generalize e4 : at0 w (k + 1) = u1 at *
  generalize e5 : at0 w k = u0 at *
  obtain ⟨qv, hqv⟩ : ∃ x, val w / val (lst v) = x := ⟨_, rfl⟩
  have hst := G.start
  rw [hqv] at hst
  simp only [hqv] at hq
  refine V.loop (fun x : Nat × Nat => x.1 * vt + x.2 = u2 * 4294967296 + u1 ∧ qv ≤ x.1 ∧ x.2 < 4294967296)
    (fun x => (mkL 159 .any [(0, .osl 0 pre.length (k + 3) cap), (1, natA v), (5, .int .i64 ((k : Int) + 2)), (7, .int .u64 x.1), (8, .int .u64 x.2)], [blkN (seg pre w suf), B1])) (fun x => x.1) ?_ (_, _) ⟨Nat.div_add_mod' _ _, hst, Nat.lt_trans (Nat.mod_lt _ hvp) l1⟩ ?_
  · rintro ⟨q, r⟩ ⟨hr, hle, hrB⟩
    dsimp only at hr hle hrB
    have hqb : q ≤ u2 * 4294967296 + u1 := by
      have : q * 1 ≤ q * vt := Nat.mul_le_mul_left _ hvp
      omega
    simp
    refine ⟨fun h1 => ?_, fun h1 => ?_⟩
    · have hvq := mul_lt32 (x := q) (y := vs) (by omega) l2
      obtain ⟨z, hz⟩ : ∃ z, q * vs = z := ⟨_, rfl⟩
      have hzI : (q : Int) * vs = z := by rw [← hz]; simp
      rw [hz] at hvq
      simp (disch := omega) [hn, e2, hzI, g5, or_shl32]
      refine ⟨fun h2 => ?_, fun h2 => ?_⟩
      · have hd := G.down hr (.inr (by omega))
        rw [hqv] at hd
        have hs : (q - 1) * vt + (r + vt) = u2 * 4294967296 + u1 := by
          have : q * vt = (q - 1) * vt + vt := by rw [← Nat.succ_mul]; congr 1; omega
          omega
        have hqi : (q : Int) - 1 = ((q - 1 : Nat) : Int) := by omega
        obtain ⟨q1, hq1⟩ : ∃ x, q - 1 = x := ⟨_, rfl⟩
        rw [hq1] at hqi hs
        simp (disch := omega) [hn, e1, Int.add_sub_assoc, hqi]
        refine ⟨fun h3 => ?_, fun h3 => ?_⟩
        · obtain ⟨h4, h5⟩ := G.pass htop hs (by omega)
          simp
          exact hq _ _ q1 (by simp) (by simp) (by simp) (by simp) h4 (G.done hs h4 h5) (by omega)
        · simp
          exact ⟨q1, r + vt, ⟨hs, by omega, by omega⟩, by omega, by simp⟩
      · simp
        exact hq _ _ q (by simp) (by simp) (by simp) (by simp) (by omega) (G.done hr (by omega) (by omega)) hle
    · have hd := G.down hr (.inl (by omega))
      rw [hqv] at hd
      have hs : (q - 1) * vt + (r + vt) = u2 * 4294967296 + u1 := by
        have : q * vt = (q - 1) * vt + vt := by rw [← Nat.succ_mul]; congr 1; omega
        omega
      have hqi : (q : Int) - 1 = ((q - 1 : Nat) : Int) := by omega
      obtain ⟨q1, hq1⟩ : ∃ x, q - 1 = x := ⟨_, rfl⟩
      rw [hq1] at hqi hs
      simp (disch := omega) [hn, e1, Int.add_sub_assoc, hqi]
      refine ⟨fun h3 => ?_, fun h3 => ?_⟩
      · obtain ⟨h4, h5⟩ := G.pass htop hs (by omega)
        simp
        exact hq _ _ q1 (by simp) (by simp) (by simp) (by simp) h4 (G.done hs h4 h5) (by omega)
      · simp
        exact ⟨q1, r + vt, ⟨hs, by omega, by omega⟩, by omega, by simp⟩
  · simp [m0, m1, m5, m7, m8]
/-- The state of a product that is taken away. -/
structure SubSt where
  i : Nat
  w : List Nat
  c : Nat
  b : Nat

theorem drop_at0 {l m : List Nat} {i : Nat} (h : l.drop i = m.drop i) (hi : i < l.length) (hm : i < m.length) : at0 l i = at0 m i := by
  have := congrArg (fun x => x[0]?) h
  simp only [List.getElem?_drop, Nat.add_zero] at this
  rw [get_at0 hi, get_at0 hm] at this
  simpa using this
theorem drop_set_succ {l m : List Nat} {i x : Nat} (h : l.drop i = m.drop i) : (l.set i x).drop (i + 1) = m.drop (i + 1) := by
  rw [List.drop_set, if_pos (by omega), ← List.drop_drop, ← List.drop_drop, h]

theorem digit_loop1 {pre w suf : List Nat} {v : Sl Nat} {B1 : Blk} {cap k q : Nat} (hv : D32 (lst v)) (hw : D32 w) (hn : (lst v).length = k + 2) (hm : w.length = k + 3) (hk : k < 2 ^ 30) (hq0 : q < 4294967296)
    {m : List (Nat × AV)} {d : AV} {Q : Ex → St → Prop}
    (m0 : lk d m 0 = .osl 0 pre.length (k + 3) cap) (m1 : lk d m 1 = natA v) (m5 : lk d m 5 = .int .i64 ((k : Int) + 2)) (m7 : lk d m 7 = .int .u64 (q : Nat)) (m9 : lk d m 9 = .int .u64 0) (m10 : lk d m 10 = .int .u32 0) (m81 : lk d m 81 = natA v) (m82 : lk d m 82 = .int .i64 ((k : Int) + 2)) (m83 : lk d m 83 = .int .i64 0)
    (hq : ∀ m' d' w' c b, lk d' m' 0 = .osl 0 pre.length (k + 3) cap → lk d' m' 1 = natA v → lk d' m' 5 = .int .i64 ((k : Int) + 2) → lk d' m' 7 = .int .u64 (q : Nat) → lk d' m' 9 = .int .u64 (c : Nat) → lk d' m' 10 = .int .u32 (b : Nat) →
      w'.length = k + 3 → D32 w' → at0 w' (k + 2) = at0 w (k + 2) → c < 4294967296 → b < 2 → val (w'.take (k + 2)) + q * val (lst v) = val (w.take (k + 2)) + 4294967296 ^ (k + 2) * (c + b) → Q .nrm (mkL 159 d' m', [blkN (seg pre w' suf), B1])) :
    V Cm 2 l_bigint_digit_1 (mkL 159 d m, [blkN (seg pre w suf), B1]) Q ⟨⟩ ⟨⟩ := by
  unfold l_bigint_digit_1
  simp
  refine V.loop (fun x : SubSt => x.i ≤ k + 2 ∧ x.w.length = k + 3 ∧ D32 x.w ∧ x.w.drop x.i = w.drop x.i ∧ x.c < 4294967296 ∧ x.b < 2 ∧ val (x.w.take x.i) + q * val ((lst v).take x.i) = val (w.take x.i) + 4294967296 ^ x.i * (x.c + x.b))
    (fun x => (mkL 159 .any [(0, .osl 0 pre.length (k + 3) cap), (1, natA v), (5, .int .i64 ((k : Int) + 2)), (7, .int .u64 q), (9, .int .u64 x.c), (10, .int .u32 x.b), (81, natA v), (82, .int .i64 ((k : Int) + 2)), (83, .int .i64 x.i)], [blkN (seg pre x.w suf), B1])) (fun x => k + 2 - x.i) ?_ ⟨0, w, 0, 0⟩ ?_ ?_
  · rintro ⟨i, w', c, b⟩ ⟨hi, hl, hd, hdr, hc, hb, hi2⟩
    dsimp only at hi hl hd hdr hc hb hi2
    simp
    refine ⟨fun h => ?_, fun h => ?_⟩
    · have lv := at0_lt hv i
      have lw := at0_lt hd i
      have ew := drop_at0 hdr (by omega) (by omega)
      have g := seg_get (pre := pre) (w := w') (suf := suf) (i := i) (by omega)
      obtain ⟨x, hx⟩ : ∃ x, at0 (lst v) i = x := ⟨_, rfl⟩
      have hqx := mul_lt32 (x := q) (y := x) (by omega) (by omega)
      obtain ⟨z, hz⟩ : ∃ z, q * x = z := ⟨_, rfl⟩
      have hzI : (q : Int) * x = z := by rw [← hz]; simp
      rw [hz] at hqx
      obtain ⟨lo, hlo⟩ : ∃ l, (c + z) % 4294967296 = l := ⟨_, rfl⟩
      obtain ⟨hi', hhi⟩ : ∃ l, (c + z) / 4294967296 = l := ⟨_, rfl⟩
      have hloI : ((c : Int) + z) % 4294967296 = lo := by omega
      have hhiI : ((c : Int) + z) / 4294967296 = hi' := by omega
      obtain ⟨s, b', hs, hb', he, hq'⟩ := x_Sub32 (x := at0 w' i) (y := lo) (c := b) lw (by omega) hb
      simp (disch := omega) [hn, hx, hzI, g, hloI, hhiI, hq', hl]
      refine ⟨⟨i + 1, w'.set i s, hi', b'⟩, ⟨by simp; omega, by simpa using hl, hd.set hs i, drop_set_succ hdr, by simp; omega, hb', ?_⟩, by simp; omega, by simp, ?_⟩
      · simp only
        rw [val_take_succ, val_take_succ, val_take_succ, List.take_set_of_le (Nat.le_refl i), at0_set (by omega), if_pos rfl, hx, Nat.pow_succ, Nat.mul_add q]
        have e1 : q * (4294967296 ^ i * x) = 4294967296 ^ i * z := by rw [← hz, Nat.mul_left_comm]
        have e2 : z + c = lo + 4294967296 * hi' := by omega
        have e3 := congrArg (4294967296 ^ i * ·) he
        have e4 := congrArg (4294967296 ^ i * ·) e2
        simp only [Nat.mul_add] at e3 e4 hi2 ⊢
        rw [← ew, e1, Nat.mul_assoc, Nat.mul_assoc]
        omega
      · rw [seg_set (by omega)]
    · obtain rfl : i = k + 2 := by omega
      simp
      refine hq _ _ w' c b ?_ ?_ ?_ ?_ ?_ ?_ hl hd (drop_at0 hdr (by omega) (by omega)) hc hb ?_ <;> (try simp)
      rw [List.take_of_length_le (l := lst v) (by omega)] at hi2
      exact hi2
  · simp [hm]; exact hw
  · simp [m0, m1, m5, m7, m9, m10, m81, m82, m83]

theorem digit_loop2 {pre w suf : List Nat} {v : Sl Nat} {B1 : Blk} {cap k q : Nat} (hv : D32 (lst v)) (hw : D32 w) (hn : (lst v).length = k + 2) (hm : w.length = k + 3) (hk : k < 2 ^ 30)
    {m : List (Nat × AV)} {d : AV} {Q : Ex → St → Prop}
    (m0 : lk d m 0 = .osl 0 pre.length (k + 3) cap) (m5 : lk d m 5 = .int .i64 ((k : Int) + 2)) (m7 : lk d m 7 = .int .u64 (q : Nat)) (m13 : lk d m 13 = .int .u32 0) (m81 : lk d m 129 = natA v) (m82 : lk d m 130 = .int .i64 ((k : Int) + 2)) (m83 : lk d m 131 = .int .i64 0)
    (hq : ∀ m' d' w' b, lk d' m' 0 = .osl 0 pre.length (k + 3) cap → lk d' m' 5 = .int .i64 ((k : Int) + 2) → lk d' m' 7 = .int .u64 (q : Nat) → lk d' m' 13 = .int .u32 (b : Nat) →
      w'.length = k + 3 → D32 w' → at0 w' (k + 2) = at0 w (k + 2) → b < 2 → val (w'.take (k + 2)) + 4294967296 ^ (k + 2) * b = val (w.take (k + 2)) + val (lst v) → Q .nrm (mkL 159 d' m', [blkN (seg pre w' suf), B1])) :
    V Cm 2 l_bigint_digit_2 (mkL 159 d m, [blkN (seg pre w suf), B1]) Q ⟨⟩ ⟨⟩ := by
  unfold l_bigint_digit_2
  simp
  refine V.loop (fun x : AddSt => x.i ≤ k + 2 ∧ x.out.length = k + 3 ∧ D32 x.out ∧ x.out.drop x.i = w.drop x.i ∧ x.c < 2 ∧ val (x.out.take x.i) + 4294967296 ^ x.i * x.c = val (w.take x.i) + val ((lst v).take x.i))
    (fun x => (mkL 159 .any [(0, .osl 0 pre.length (k + 3) cap), (5, .int .i64 ((k : Int) + 2)), (7, .int .u64 q), (13, .int .u32 x.c), (129, natA v), (130, .int .i64 ((k : Int) + 2)), (131, .int .i64 x.i)], [blkN (seg pre x.out suf), B1])) (fun x => k + 2 - x.i) ?_ ⟨0, w, 0⟩ ?_ ?_
  · rintro ⟨i, w', c⟩ ⟨hi, hl, hd, hdr, hc, hi2⟩
    dsimp only at hi hl hd hdr hc hi2
    simp
    refine ⟨fun h => ?_, fun h => ?_⟩
    · have lv := at0_lt hv i
      have lw := at0_lt hd i
      have ew := drop_at0 hdr (by omega) (by omega)
      have g := seg_get (pre := pre) (w := w') (suf := suf) (i := i) (by omega)
      obtain ⟨s, b', hs, hb', he, hq'⟩ := x_Add32 lw lv hc
      simp (disch := omega) [hn, g, hq', hl]
      refine ⟨⟨i + 1, w'.set i s, b'⟩, ⟨by simp; omega, by simpa using hl, hd.set hs i, drop_set_succ hdr, hb', ?_⟩, by simp; omega, by simp, ?_⟩
      · simp only
        rw [val_take_succ, val_take_succ, val_take_succ, List.take_set_of_le (Nat.le_refl i), at0_set (by omega), if_pos rfl, Nat.pow_succ, ← ew]
        have e3 := congrArg (4294967296 ^ i * ·) he
        simp only [Nat.mul_add] at e3
        rw [Nat.mul_assoc]
        omega
      · rw [seg_set (by omega)]
    · obtain rfl : i = k + 2 := by omega
      simp
      refine hq _ _ w' c ?_ ?_ ?_ ?_ hl hd (drop_at0 hdr (by omega) (by omega)) hc ?_ <;> (try simp)
      rw [List.take_of_length_le (l := lst v) (by omega)] at hi2
      exact hi2
  · simp [hm]; exact hw
  · simp [m0, m5, m7, m13, m81, m82, m83]

theorem val_top {w : List Nat} {k : Nat} (hm : w.length = k + 3) : val w = val (w.take (k + 2)) + 4294967296 ^ (k + 2) * at0 w (k + 2) := by
  have := val_take_succ w (k + 2)
  rwa [List.take_of_length_le (by omega)] at this

theorem m_digit {pre w suf : List Nat} {v : Sl Nat} {B1 : Blk} {cap k : Nat} (hv : D32 (lst v)) (hw : D32 w) (hn : (lst v).length = k + 2) (hm : w.length = k + 3) (hk : k < 2 ^ 30)
    (ht : 4294967296 ≤ 2 * at0 (lst v) (k + 1)) (hlt : val w < val (lst v) * 4294967296) :
    Cm.m f_bigint_digit [.osl 0 pre.length (k + 3) cap, natA v] [blkN (seg pre w suf), B1] = some (.int .u32 (val w / val (lst v) : Nat), [blkN (seg pre (dN (k + 3) (val w % val (lst v))) suf), B1]) := by
  refine m_by t_bigint_digit (Gives_of rfl ?_)
  have G := guess_of hv hw hn hm ht hlt
  have hvp := G.vpos
  have l1 := at0_lt hv (k + 1)
  have l3 := at0_lt hw (k + 2)
  have l4 := at0_lt hw (k + 1)
  have g1 := seg_get (pre := pre) (w := w) (suf := suf) (i := k + 1) (by omega)
  have g2 := seg_get (pre := pre) (w := w) (suf := suf) (i := k + 2) (by omega)
  have hU := val_lt hw
  rw [hm] at hU
  obtain ⟨U, eU⟩ : ∃ U, val w = U := ⟨_, rfl⟩
  obtain ⟨V', eV⟩ : ∃ V, val (lst v) = V := ⟨_, rfl⟩
  obtain ⟨qv, hqv⟩ : ∃ q, U / V' = q := ⟨_, rfl⟩
  obtain ⟨rv, hrv⟩ : ∃ q, U % V' = q := ⟨_, rfl⟩
  have hVp : 0 < V' := by rw [← eV]; exact G.Vpos
  have hdm : V' * qv + rv = U := by rw [← hqv, ← hrv]; exact Nat.div_add_mod U V'
  have hrlt : rv < V' := by rw [← hrv]; exact Nat.mod_lt _ hVp
  have hqB : qv < 4294967296 := by rw [← hqv, ← eU, ← eV]; exact G.qlt
  have hrB : rv < 4294967296 ^ (k + 3) := by
    have : V' ≤ 4294967296 ^ (k + 2) := by
      have := val_lt hv
      rw [hn, eV] at this; omega
    have h2 : (4294967296 : Nat) ^ (k + 2) ≤ 4294967296 ^ (k + 3) := Nat.pow_le_pow_right (by omega) (by omega)
    omega
  rw [eU, eV, hqv, hrv]
  have hdv : ((at0 w (k + 2) : Int) * 4294967296 + at0 w (k + 1)) / at0 (lst v) (k + 1) = ((at0 w (k + 2) * 4294967296 + at0 w (k + 1)) / at0 (lst v) (k + 1) : Nat) := by simp
  have hmd : ((at0 w (k + 2) : Int) * 4294967296 + at0 w (k + 1)) % at0 (lst v) (k + 1) = ((at0 w (k + 2) * 4294967296 + at0 w (k + 1)) % at0 (lst v) (k + 1) : Nat) := by simp
  have hq0 : (at0 w (k + 2) * 4294967296 + at0 w (k + 1)) / at0 (lst v) (k + 1) ≤ at0 w (k + 2) * 4294967296 + at0 w (k + 1) := Nat.div_le_self _ _
  have hr0 : (at0 w (k + 2) * 4294967296 + at0 w (k + 1)) % at0 (lst v) (k + 1) < at0 (lst v) (k + 1) := Nat.mod_lt _ hvp
  obtain ⟨q0, e1⟩ : ∃ q, (at0 w (k + 2) * 4294967296 + at0 w (k + 1)) / at0 (lst v) (k + 1) = q := ⟨_, rfl⟩
  obtain ⟨r0, e2⟩ : ∃ q, (at0 w (k + 2) * 4294967296 + at0 w (k + 1)) % at0 (lst v) (k + 1) = q := ⟨_, rfl⟩
  rw [e1] at hdv hq0
  rw [e2] at hmd hr0
  have hne : ¬ at0 (lst v) (k + 1) = 0 := by omega
  simp (disch := omega) [e_bigint_digit, hn, Int.add_sub_assoc, g1, g2, hm, or_shl32, hne, hdv, hmd]
  refine digit_loop0 hv hw hn hm hk G (cap := cap) ?_ ?_ ?_ ?_ ?_ ?_ <;> (try simp [e1, e2])
  intro m1 d1 q f0 f1 f5 f7 hq1 hq2 hq3
  rw [eU, eV] at hq2 hq3
  rw [hqv] at hq3
  have hqc : q = qv ∨ q = qv + 1 := by
    have : q < qv + 2 := by
      rcases Nat.lt_or_ge q (qv + 2) with h | h
      · exact h
      · have h1 : (qv + 2) * V' ≤ q * V' := Nat.mul_le_mul_right _ h
        rw [Nat.add_mul, Nat.mul_comm qv] at h1
        omega
    omega
  simp (disch := omega) [f0, f1, f5, f7, hn]
  refine digit_loop1 hv hw hn hm hk hq1 (q := q) (cap := cap) ?_ ?_ ?_ ?_ ?_ ?_ ?_ ?_ ?_ ?_ <;> (try simp [f0, f1, f5, f7, hn])
  intro m2 d2 w' c b h0 h1 h5 h7 h9 h10 hl hd htp hc hb hval
  obtain ⟨s, b2, hs, hb2, he, hq'⟩ := x_Sub32 (x := at0 w' (k + 2)) (y := c) (c := b) (at0_lt hd _) hc hb
  have g3 := seg_get (pre := pre) (w := w') (suf := suf) (i := k + 2) (by omega)
  have hs3 := seg_set (pre := pre) (w := w') (suf := suf) (i := k + 2) (x := s) (by omega)
  have hl2 : (w'.set (k + 2) s).length = k + 3 := by simpa using hl
  have hd2 := hd.set hs (k + 2)
  have hv2 : val (w'.set (k + 2) s) + q * V' = U + 4294967296 ^ (k + 3) * b2 := by
    have e3 := val_top hl2
    have e4 := val_top hm
    rw [List.take_set_of_le (Nat.le_refl _), at0_set (by omega), if_pos rfl] at e3
    rw [eU] at e4
    rw [htp] at he
    rw [eV] at hval
    have e5 := congrArg (4294967296 ^ (k + 2) * ·) he
    simp only [Nat.mul_add] at e5 hval
    rw [Nat.pow_succ _ (k + 2), Nat.mul_assoc]
    omega
  have hlt2 := val_lt hd2
  rw [hl2] at hlt2
  simp (disch := omega) [h0, h5, h7, h9, h10, g3, hq', hl, hs3]
  refine ⟨fun hz => ?_, fun hz => ?_⟩
  rotate_left
  · -- nothing to be given back
    have hz : b2 = 0 := by omega
    subst hz
    have hqq : q = qv := by
      rcases hqc with h | h
      · exact h
      · exfalso
        subst h
        rw [Nat.add_mul, Nat.mul_comm qv] at hv2
        omega
    subst hqq
    have hr : val (w'.set (k + 2) s) = rv := by rw [Nat.mul_comm] at hv2; omega
    simp (disch := omega) [h7]
    rw [dN_of hd2 hl2 hr]
  · have hz : b2 = 1 := by omega
    subst hz
    have hqq : q = qv + 1 := by
      rcases hqc with h | h
      · exfalso
        subst h
        rw [Nat.mul_comm] at hv2
        omega
      · exact h
    have hqi : (q : Int) - 1 = qv := by omega
    simp (disch := omega) [h0, h1, h5, h7, hqi, hn]
    refine digit_loop2 hv hd2 hn hl2 hk (q := qv) (cap := cap) ?_ ?_ ?_ ?_ ?_ ?_ ?_ ?_ <;> (try simp [h0, h1, h5, h7, hqi, hn])
    intro m3 d3 w3 b3 f0 f5 f7 f13 gl gd gtp gb gval
    have g4 := seg_get (pre := pre) (w := w3) (suf := suf) (i := k + 2) (by omega)
    have l5 := at0_lt gd (k + 2)
    obtain ⟨x, hx⟩ : ∃ x, (at0 w3 (k + 2) + b3) % 4294967296 = x := ⟨_, rfl⟩
    obtain ⟨t, htt⟩ : ∃ x, (at0 w3 (k + 2) + b3) / 4294967296 = x := ⟨_, rfl⟩
    have hxI : ((at0 w3 (k + 2) : Int) + b3) % 4294967296 = x := by omega
    have hs4 := seg_set (pre := pre) (w := w3) (suf := suf) (i := k + 2) (x := x) (by omega)
    have hl3 : (w3.set (k + 2) x).length = k + 3 := by simpa using gl
    have hd3 := gd.set (show x < 4294967296 by omega) (k + 2)
    have hlt3 := val_lt hd3
    rw [hl3] at hlt3
    have hr : val (w3.set (k + 2) x) = rv := by
      have e3 := val_top hl3
      have e4 := val_top hl2
      rw [List.take_set_of_le (Nat.le_refl _), at0_set (by omega), if_pos rfl] at e3
      rw [eV] at gval
      have e5 : at0 w3 (k + 2) + b3 = x + 4294967296 * t := by omega
      have e6 := congrArg (4294967296 ^ (k + 2) * ·) e5
      rw [gtp] at e6
      simp only [Nat.mul_add] at e6
      have e7 : 4294967296 ^ (k + 2) * (4294967296 * t) = 4294967296 ^ (k + 3) * t := by rw [Nat.pow_succ _ (k + 2), Nat.mul_assoc]
      have hsum : val (w3.set (k + 2) x) + 4294967296 ^ (k + 3) * t = val (w'.set (k + 2) s) + V' := by omega
      have hU2 : val (w'.set (k + 2) s) + V' = rv + 4294967296 ^ (k + 3) := by
        rw [hqq, Nat.add_mul, Nat.one_mul, Nat.mul_comm qv] at hv2
        omega
      have ht1 : t = 0 ∨ t = 1 := by omega
      rcases ht1 with h | h
      · subst h; omega
      · subst h; omega
    simp (disch := omega) [f0, f5, f7, f13, g4, hxI, hs4, gl]
    rw [dN_of hd3 hl3 hr]
end Go.Proofs.YteaopgkajbfkeaaGreatDoor
namespace Go.Proofs.YteaopgkajbfkeaaGreatDoor
open Go

/-- A divisor whose top digit is made large. -/
theorem norm_of {b : List Nat} {k : Nat} (hd : D32 b) (hn : b.length = k + 2) (hx : at0 b (k + 1) ≠ 0) :
    blen (at0 b (k + 1)) ≤ 32 ∧ 2 ^ (32 - blen (at0 b (k + 1))) * val b < 4294967296 ^ (k + 2) ∧ 2147483648 * 4294967296 ^ (k + 1) ≤ 2 ^ (32 - blen (at0 b (k + 1))) * val b := by
  have h0 := at0_lt hd (k + 1)
  have hv : val b = val (b.take (k + 1)) + 4294967296 ^ (k + 1) * at0 b (k + 1) := by
    have := val_take_succ b (k + 1)
    rwa [List.take_of_length_le (by omega)] at this
  have hl : val (b.take (k + 1)) < 4294967296 ^ (k + 1) := by
    have := val_lt (hd.take (k + 1))
    rwa [List.length_take, Nat.min_eq_left (by omega)] at this
  generalize at0 b (k + 1) = x at *
  have h1 : blen x ≤ 32 := blen_le.2 (by omega)
  have h2 := lt_blen x
  have h3 := pow_blen_le hx
  have hb1 : blen x ≠ 0 := by rw [blen_pos hx]; omega
  have e1 : 2 ^ (32 - blen x) * 2 ^ blen x = 4294967296 := by rw [← Nat.pow_add, Nat.sub_add_cancel h1]
  have e2 : 2 ^ (32 - blen x) * 2 ^ (blen x - 1) = 2147483648 := by rw [← Nat.pow_add, show 32 - blen x + (blen x - 1) = 31 by omega]
  have e3 : 2 ^ (32 - blen x) * (x + 1) ≤ 4294967296 := by rw [← e1]; exact Nat.mul_le_mul_left _ h2
  have e4 : 2147483648 ≤ 2 ^ (32 - blen x) * x := by rw [← e2]; exact Nat.mul_le_mul_left _ h3
  have hp : 0 < 2 ^ (32 - blen x) := Nat.pow_pos (by omega)
  rw [show (4294967296 : Nat) ^ (k + 2) = 4294967296 * 4294967296 ^ (k + 1) by rw [Nat.pow_succ _ (k + 1), Nat.mul_comm]]
  generalize 2 ^ (32 - blen x) = p at *
  generalize 4294967296 ^ (k + 1) = P at *
  refine ⟨h1, ?_, ?_⟩
  · have : p * val b < p * ((x + 1) * P) := Nat.mul_lt_mul_of_pos_left (by rw [hv, Nat.add_mul, Nat.mul_comm]; omega) hp
    have h5 : p * ((x + 1) * P) ≤ 4294967296 * P := by rw [← Nat.mul_assoc]; exact Nat.mul_le_mul_right _ e3
    omega
  · have h5 : 2147483648 * P ≤ p * x * P := Nat.mul_le_mul_right _ e4
    have h6 : p * x * P ≤ p * val b := by rw [hv, Nat.mul_assoc]; exact Nat.mul_le_mul_left _ (by rw [Nat.mul_comm]; omega)
    omega

theorem dN_snoc {n v : Nat} : dN (n + 1) v = dN n v ++ [v / 4294967296 ^ n % 4294967296] := by
  apply List.ext_getElem
  · simp
  · intro i h1 h2
    simp only [dN_length] at h1
    rw [at0_get (by simpa using h1), dN_at0 h1]
    by_cases hi : i < n
    · rw [List.getElem_append_left (by simpa using hi), at0_get (by simpa using hi), dN_at0 hi]
    · have : i = n := by omega
      subst this
      rw [List.getElem_append_right (by simp)]
      simp

/-- The state of a long division. -/
structure DivSt where
  x : Nat
  u : List Nat
  q : List Nat

theorem div_loop0 {v : Sl Nat} {k m z : Nat} {u0 : List Nat} (hv : D32 (lst v)) (hn : (lst v).length = k + 2) (ht : 4294967296 ≤ 2 * at0 (lst v) (k + 1)) (hm : m < 2 ^ 30) (hl0 : u0.length = k + 3 + m) (hd0 : D32 u0) (hu0 : val (u0.drop (m + 1)) < val (lst v)) (hk : k < 2 ^ 30)
    {mm : List (Nat × AV)} {d : AV} {Q : Ex → St → Prop}
    (m8 : lk d mm 8 = .int .i64 (z : Nat)) (m9 : lk d mm 9 = natA v) (m10 : lk d mm 10 = .osl 0 0 (k + 3 + m) (k + 3 + m)) (m11 : lk d mm 11 = .int .i64 ((k : Int) + 2)) (m12 : lk d mm 12 = .osl 1 0 (m + 1) (m + 1)) (m13 : lk d mm 13 = .int .i64 (m : Nat))
    (hq : ∀ m' d' u q, lk d' m' 8 = .int .i64 (z : Nat) → lk d' m' 10 = .osl 0 0 (k + 3 + m) (k + 3 + m) → lk d' m' 11 = .int .i64 ((k : Int) + 2) → lk d' m' 12 = .osl 1 0 (m + 1) (m + 1) →
      u.length = k + 3 + m → D32 u → q.length = m + 1 → D32 q → val u < val (lst v) → val u + val (lst v) * val q = val u0 → Q .nrm (mkL 110 d' m', [blkN u, blkN q])) :
    V Cm 0 l_bigint_natural_divide_0 (mkL 110 d mm, [blkN u0, blkN (List.replicate (m + 1) 0)]) Q ⟨⟩ ⟨⟩ := by
  unfold l_bigint_natural_divide_0
  simp
  obtain ⟨V', eV⟩ : ∃ V, val (lst v) = V := ⟨_, rfl⟩
  refine V.loop (fun s : DivSt => s.x ≤ m + 1 ∧ s.u.length = k + 3 + m ∧ D32 s.u ∧ s.q.length = m + 1 ∧ D32 s.q ∧ val (s.u.drop s.x) < V' ∧ val s.u + V' * (4294967296 ^ s.x * val (s.q.drop s.x)) = val u0)
    (fun s => (mkL 110 .any [(8, .int .i64 z), (9, natA v), (10, .osl 0 0 (k + 3 + m) (k + 3 + m)), (11, .int .i64 ((k : Int) + 2)), (12, .osl 1 0 (m + 1) (m + 1)), (13, .int .i64 ((s.x : Int) - 1))], [blkN s.u, blkN s.q])) (fun s => s.x) ?_ ⟨m + 1, u0, List.replicate (m + 1) 0⟩ ?_ ?_
  · rintro ⟨x, u, q⟩ ⟨hx, hl, hd, hlq, hdq, hlt, hval⟩
    dsimp only at hx hl hd hlq hdq hlt hval
    simp
    refine ⟨fun h => ?_, fun h => ?_⟩
    · obtain ⟨j, rfl⟩ : ∃ j, x = j + 1 := ⟨x - 1, by omega⟩
      have hpre : (u.take j).length = j := by simp; omega
      have hseg : seg (u.take j) ((u.drop j).take (k + 3)) (u.drop (j + (k + 3))) = u := by
        unfold seg
        rw [← List.drop_drop, List.take_append_drop, List.take_append_drop]
      have hwl : ((u.drop j).take (k + 3)).length = k + 3 := by simp; omega
      have hwd : D32 ((u.drop j).take (k + 3)) := (hd.drop j).take _
      have hVB : V' < 4294967296 ^ (k + 2) := by
        have := val_lt hv
        rwa [hn, eV] at this
      -- what stands above the part is nothing
      have hdj := val_drop0 (l := u) (i := j) (by omega)
      have hjl := at0_lt hd j
      have hsp := val_split (l := u.drop j) (i := k + 3) (by simp; omega)
      rw [List.drop_drop] at hsp
      have hUlt : val (u.drop j) < V' * 4294967296 := by omega
      have hzero : val (u.drop (j + (k + 3))) = 0 := by
        rcases Nat.eq_zero_or_pos (val (u.drop (j + (k + 3)))) with h | h
        · exact h
        · exfalso
          have h1 : 4294967296 ^ (k + 3) * 1 ≤ 4294967296 ^ (k + 3) * val (u.drop (j + (k + 3))) := Nat.mul_le_mul_left _ h
          rw [Nat.pow_succ _ (k + 2)] at h1
          rw [Nat.pow_succ _ (k + 2)] at hsp
          omega
      rw [hzero, Nat.mul_zero, Nat.add_zero] at hsp
      have hwlt : val ((u.drop j).take (k + 3)) < val (lst v) * 4294967296 := by rw [← hsp, eV]; exact hUlt
      have hdig := m_digit (pre := u.take j) (suf := u.drop (j + (k + 3))) (B1 := blkN q) (cap := k + 3 + m - j) hv hwd hn hwl hk ht hwlt
      rw [hpre, hseg, eV, ← hsp] at hdig
      have hVp : 0 < V' := by omega
      obtain ⟨qq, hqq⟩ : ∃ x, val (u.drop j) / V' = x := ⟨_, rfl⟩
      obtain ⟨rr, hrr⟩ : ∃ x, val (u.drop j) % V' = x := ⟨_, rfl⟩
      have hdm : V' * qq + rr = val (u.drop j) := by rw [← hqq, ← hrr]; exact Nat.div_add_mod _ _
      have hrlt : rr < V' := by rw [← hrr]; exact Nat.mod_lt _ hVp
      have hqlt : qq < 4294967296 := by rw [← hqq, Nat.div_lt_iff_lt_mul hVp, Nat.mul_comm]; exact hUlt
      rw [hqq, hrr] at hdig
      have e1 : j + (k + 2) + 1 - j = k + 3 := by omega
      have e2 : ((j : Int) + (k + 2) + 1) = ((j + (k + 2) + 1 : Nat) : Int) := by omega
      simp (disch := omega) [e1, hdig, hlq]
      have hrB : rr % 4294967296 ^ (k + 3) = rr := by
        apply Nat.mod_eq_of_lt
        have : (4294967296 : Nat) ^ (k + 2) ≤ 4294967296 ^ (k + 3) := Nat.pow_le_pow_right (by omega) (by omega)
        omega
      have hdrop : val ((seg (u.take j) (dN (k + 3) rr) (u.drop (j + (k + 3)))).drop j) = rr := by
        unfold seg
        rw [List.drop_append_of_le_length (by omega), List.drop_of_length_le (by omega), List.nil_append, val_append, hzero, val_dN, hrB, Nat.mul_zero, Nat.add_zero]
      have hvu : val (seg (u.take j) (dN (k + 3) rr) (u.drop (j + (k + 3)))) = val (u.take j) + 4294967296 ^ j * rr := by
        rw [val_split (l := seg _ _ _) (i := j) (by simp; omega), hdrop]
        congr 2
        unfold seg
        rw [List.take_append_of_le_length (by omega), List.take_of_length_le (by omega)]
      refine ⟨⟨j, seg (u.take j) (dN (k + 3) rr) (u.drop (j + (k + 3))), q.set j qq⟩, ⟨by simp; omega, by simp; omega, seg_dg.2 ⟨hd.take _, dN_dg _ _, hd.drop _⟩, by simpa using hlq, hdq.set hqlt _, by simp only; omega, ?_⟩, by simp, by simp, by simp⟩
      simp only
      rw [hvu]
      have e3 := val_drop0 (l := q.set j qq) (i := j) (by simp; omega)
      have e4 : (q.set j qq).drop (j + 1) = q.drop (j + 1) := by rw [List.drop_set, if_pos (by omega)]
      rw [at0_set (by omega), if_pos rfl, e4] at e3
      have e5 := val_split (l := u) (i := j) (by omega)
      rw [e3, ← hval, e5, ← hdm]
      simp only [Nat.mul_add, Nat.pow_succ]
      have e6 : V' * (4294967296 ^ j * qq) = 4294967296 ^ j * (V' * qq) := Nat.mul_left_comm _ _ _
      have e7 : 4294967296 ^ j * (4294967296 * val (q.drop (j + 1))) = 4294967296 ^ j * 4294967296 * val (q.drop (j + 1)) := by rw [Nat.mul_assoc]
      rw [e6, e7]
      omega
    · obtain rfl : x = 0 := by omega
      simp at hlt hval
      simp
      refine hq _ _ u q ?_ ?_ ?_ ?_ hl hd hlq hdq (by omega) (by rw [eV]; omega) <;> simp
  · rw [← eV]
    have : val (List.drop (m + 1) (List.replicate (m + 1) 0)) = 0 := by rw [List.drop_of_length_le (by simp)]; rfl
    refine ⟨Nat.le_refl _, hl0, hd0, by simp, Dg.replicate (by omega), hu0, ?_⟩
    simp only [this, Nat.mul_zero, Nat.add_zero]
  · simp [m8, m9, m10, m11, m12, m13]
end Go.Proofs.YteaopgkajbfkeaaGreatDoor
