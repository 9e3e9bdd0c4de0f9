/- All code, and the functions as they stand in these texts. -/
import Derived.Test.YtigniafapkbbbaaGreatDoorCode0
import Derived.Test.YtigniafapkbbbaaGreatDoorCode1
namespace Go.Proofs.YtigniafapkbbbaaGreatDoor
open Go.AI
theorem pickA {F : Nat → Option AFunc} {f k : Nat} {x a : AFunc} {rest : Option AFunc} (h : (bif Nat.beq f k then some x else rest) = some a) (hx : F k = some x) : F f = some a ∨ rest = some a := by
  cases hb : Nat.beq f k with
  | true => rw [hb] at h; cases h; rw [Nat.eq_of_beq_eq_true hb]; exact .inl hx
  | false => rw [hb] at h; exact .inr h
noncomputable def FL (f : Nat) : Option AFunc :=
  bif Nat.beq f 2 then some ⟨[], b_gosem_cut_init, .no⟩ else
  bif Nat.beq f 3 then some ⟨[(.tmp 2)], b_turnerylaw4_ValueTwins, .no⟩ else
  bif Nat.beq f 4 then some ⟨[(.cell 4 (some 2))], b_turnerylaw4_back, .no⟩ else
  bif Nat.beq f 5 then some ⟨[(.cell 4 (some 2))], b_turnerylaw4_shifted, .no⟩ else
  bif Nat.beq f 6 then some ⟨[(.cell 2 (some 2)), (.cell 3 (some 2))], b_value_Do, .no⟩ else
  bif Nat.beq f 7 then some ⟨[(.cell 2 (some 2))], b_turnerylaw4_asked, .no⟩ else
  bif Nat.beq f 8 then some ⟨[(.tmp 2)], b_turneryref3_Many, .no⟩ else
  bif Nat.beq f 9 then some ⟨[(.cell 2 (some 2))], b_ssa_Check, .no⟩ else
  bif Nat.beq f 10 then some ⟨[(.tmp 2)], b_live_Words, .no⟩ else
  bif Nat.beq f 11 then some ⟨[(.cell 4 (some 2)), (.cell 5 (some 2))], b_graph_Each, .no⟩ else
  bif Nat.beq f 12 then some ⟨[(.cell 3 (some 4))], b_value_Do_1, .no⟩ else
  bif Nat.beq f 13 then some ⟨[(.cell 4 (some 4))], b_value_DoOf, .no⟩ else
  bif Nat.beq f 14 then some ⟨[(.cell 2 (some 2))], b_code_Check, .no⟩ else
  bif Nat.beq f 15 then some ⟨[(.tmp 2)], b_ssa_CheckOf, .no⟩ else
  bif Nat.beq f 16 then some ⟨[(.cell 4 (some 2))], b_core_Fault, .no⟩ else
  bif Nat.beq f 17 then some ⟨[(.tmp 2)], b_slices_Clone_api_Global_api_Global, .no⟩ else
  bif Nat.beq f 18 then some ⟨[(.tmp 2)], b_slices_Clone_int_int, .no⟩ else
  bif Nat.beq f 19 then some ⟨[(.tmp 2)], b_slices_Clone_api_Func_api_Func, .no⟩ else
  bif Nat.beq f 20 then some ⟨[(.cell 2 (some 4))], b_graph_Copy, .no⟩ else
  bif Nat.beq f 21 then some ⟨[(.tmp 2)], b_graph_Large, .no⟩ else
  bif Nat.beq f 22 then some ⟨[(.tmp 4)], b_value_once, .no⟩ else
  bif Nat.beq f 23 then some ⟨[(.cell 2 (some 4))], b_tidy_DoOf, .no⟩ else
  bif Nat.beq f 24 then some ⟨[(.tmp 2)], b_core_Name, .no⟩ else
  bif Nat.beq f 25 then some ⟨[(.tmp 4)], b_slices_Contains_string_string, .no⟩ else
  bif Nat.beq f 26 then some ⟨[(.tmp 6)], b_core_Within, .no⟩ else
  bif Nat.beq f 27 then some ⟨[(.tmp 4)], b_code_checker_head, .no⟩ else
  bif Nat.beq f 28 then some ⟨[(.tmp 2)], b_code_checker_body, .no⟩ else
  bif Nat.beq f 29 then some ⟨[(.tmp 4)], b_slices_IndexFunc_api_Func_api_Func, .no⟩ else
  bif Nat.beq f 30 then some ⟨[(.tmp 2)], b_code_Check_1, .no⟩ else
  bif Nat.beq f 31 then some ⟨[(.tmp 2)], b_dom_TreeOf, .no⟩ else
  bif Nat.beq f 32 then some ⟨[(.tmp 4)], b_slices_Repeat_ssa_written_ssa_written, .no⟩ else
  bif Nat.beq f 33 then some ⟨[(.tmp 2)], b_graph_Post, .no⟩ else
  bif Nat.beq f 34 then some ⟨[(.tmp 2)], b_ssa_checker_writes, .no⟩ else
  bif Nat.beq f 35 then some ⟨[(.cell 2 none)], b_ssa_checker_uses, .no⟩ else
  bif Nat.beq f 36 then some ⟨[(.tmp 2)], b_slices_Clone_api_Block_api_Block, .no⟩ else
  bif Nat.beq f 37 then some ⟨[(.tmp 2)], b_slices_Clone_api_Phi_api_Phi, .no⟩ else
  bif Nat.beq f 38 then some ⟨[(.tmp 2)], b_slices_Clone_api_Val_api_Val, .no⟩ else
  bif Nat.beq f 39 then some ⟨[(.tmp 2)], b_slices_Clone_api_Ins_api_Ins, .no⟩ else
  bif Nat.beq f 40 then some ⟨[], b_value_known_walk, .no⟩ else
  bif Nat.beq f 41 then some ⟨[(.cell 4 (some 2))], b_value_known_val, .no⟩ else
  bif Nat.beq f 42 then some ⟨[(.cell 2 (some 4))], b_tidy_NamesOf, .no⟩ else
  bif Nat.beq f 43 then some ⟨[(.cell 2 (some 4))], b_tidy_ChainsOf, .no⟩ else
  bif Nat.beq f 44 then some ⟨[(.cell 4 (some 4))], b_tidy_Keep, .no⟩ else
  bif Nat.beq f 45 then some ⟨[(.tmp 2)], b_graph_OrderOf, .no⟩ else
  bif Nat.beq f 46 then some ⟨[(.tmp 4)], b_slices_Index_string_string, .no⟩ else
  bif Nat.beq f 47 then some ⟨[(.tmp 4)], b_code_checker_end, .no⟩ else
  bif Nat.beq f 48 then some ⟨[(.tmp 2)], b_code_ahead, .no⟩ else
  bif Nat.beq f 49 then some ⟨[(.tmp 6)], b_code_checker_phi, .no⟩ else
  bif Nat.beq f 50 then some ⟨[(.tmp 4)], b_code_checker_ins, .no⟩ else
  bif Nat.beq f 51 then some ⟨[(.tmp 4)], b_slices_Repeat_int_int, .no⟩ else
  bif Nat.beq f 52 then some ⟨[(.tmp 2)], b_graph_Ahead, .no⟩ else
  bif Nat.beq f 53 then some ⟨[(.tmp 8)], b_dom_meet, .no⟩ else
  bif Nat.beq f 54 then some ⟨[(.tmp 4), (.tmp 5)], b_math_bits_Mul, .no⟩ else
  bif Nat.beq f 55 then some ⟨[], b_graph_Post_1, .no⟩ else
  bif Nat.beq f 56 then some ⟨[(.tmp 2)], b_slices_Backward_int_int, .no⟩ else
  bif Nat.beq f 57 then some ⟨[(.tmp 8)], b_ssa_checker_write, .no⟩ else
  bif Nat.beq f 58 then some ⟨[(.tmp 8)], b_ssa_checker_known, .no⟩ else
  bif Nat.beq f 59 then some ⟨[(.tmp 2)], b_core_Vals, .no⟩ else
  bif Nat.beq f 60 then some ⟨[], b_value_known_phis, .no⟩ else
  bif Nat.beq f 61 then some ⟨[], b_value_known_same, .no⟩ else
  bif Nat.beq f 62 then some ⟨[(.cell 4 (some 5)), (.tmp 5)], b_value_known_keyOf, .no⟩ else
  bif Nat.beq f 63 then some ⟨[(.tmp 4)], b_tidy_namer_name, .no⟩ else
  bif Nat.beq f 64 then some ⟨[(.cell 4 (some 2))], b_tidy_namer_val, .no⟩ else
  bif Nat.beq f 65 then some ⟨[], b_tidy_rename, .no⟩ else
  bif Nat.beq f 66 then some ⟨[], b_slices_SortFunc_tidy_from_tidy_from, .no⟩ else
  bif Nat.beq f 67 then some ⟨[(.tmp 4)], b_tidy_Keep_1, .no⟩ else
  bif Nat.beq f 68 then some ⟨[], b_slices_Reverse_int_int, .no⟩ else
  bif Nat.beq f 69 then some ⟨[(.tmp 4)], b_slices_ContainsFunc_int_int, .no⟩ else
  bif Nat.beq f 70 then some ⟨[(.tmp 3)], b_code_checker_end_1, .no⟩ else
  bif Nat.beq f 71 then some ⟨[(.tmp 4)], b_code_checker_val, .no⟩ else
  bif Nat.beq f 72 then some ⟨[(.tmp 4)], b_code_checker_dst, .no⟩ else
  bif Nat.beq f 73 then some ⟨[(.cell 2 (some 3))], b_core_Shapes, .no⟩ else
  bif Nat.beq f 74 then some ⟨[(.tmp 2)], b_code_first, .no⟩ else
  bif Nat.beq f 75 then some ⟨[(.tmp 2)], b_code_checker_ins_1, .no⟩ else
  bif Nat.beq f 76 then some ⟨[(.tmp 2)], b_code_checker_ins_2, .no⟩ else
  bif Nat.beq f 77 then some ⟨[(.tmp 3)], b_code_checker_ins_3, .no⟩ else
  bif Nat.beq f 78 then some ⟨[(.tmp 4), (.tmp 5)], b_math_bits_Mul32, .no⟩ else
  bif Nat.beq f 79 then some ⟨[(.tmp 4), (.tmp 5)], b_math_bits_Mul64, .no⟩ else
  bif Nat.beq f 80 then some ⟨[], b_slices_Backward_int_int_1, .no⟩ else
  bif Nat.beq f 81 then some ⟨[(.tmp 6)], b_dom_Rules, .no⟩ else
  bif Nat.beq f 82 then some ⟨[], b_core_Vals_1, .no⟩ else
  bif Nat.beq f 83 then some ⟨[(.cell 4 (some 2)), (.tmp 5)], b_value_known_only, .no⟩ else
  bif Nat.beq f 84 then some ⟨[(.tmp 4)], b_slices_IndexFunc_api_Phi_api_Phi, .no⟩ else
  bif Nat.beq f 85 then some ⟨[(.tmp 3)], b_value_known_phis_1, .no⟩ else
  bif Nat.beq f 86 then some ⟨[(.tmp 4)], b_slices_Equal_api_Val_api_Val, .no⟩ else
  bif Nat.beq f 87 then some ⟨[(.tmp 4)], b_live_QuietIn, .no⟩ else
  bif Nat.beq f 88 then some ⟨[(.tmp 2)], b_value_turns, .no⟩ else
  bif Nat.beq f 89 then some ⟨[(.tmp 4)], b_value_ahead, .no⟩ else
  bif Nat.beq f 90 then some ⟨[(.tmp 4)], b_slices_Index_int_int, .no⟩ else
  bif Nat.beq f 91 then some ⟨[(.tmp 6)], b_slices_Insert_api_Val_api_Val, .no⟩ else
  bif Nat.beq f 92 then some ⟨[(.tmp 6)], b_slices_Delete_api_Val_api_Val, .no⟩ else
  bif Nat.beq f 93 then some ⟨[], b_slices_pdqsortCmpFunc_tidy_from, .no⟩ else
  bif Nat.beq f 94 then some ⟨[(.tmp 2)], b_math_bits_Len, .no⟩ else
  bif Nat.beq f 95 then some ⟨[(.tmp 4)], b_slices_IndexFunc_int_int, .no⟩ else
  bif Nat.beq f 96 then some ⟨[(.tmp 4)], b_slices_Contains_int_int, .no⟩ else
  bif Nat.beq f 98 then some ⟨[], b_slices_rotateRight_api_Val, .no⟩ else
  bif Nat.beq f 99 then some ⟨[], b_slices_insertionSortCmpFunc_tidy_from, .no⟩ else
  bif Nat.beq f 100 then some ⟨[], b_slices_heapSortCmpFunc_tidy_from, .no⟩ else
  bif Nat.beq f 101 then some ⟨[], b_slices_breakPatternsCmpFunc_tidy_from, .no⟩ else
  bif Nat.beq f 102 then some ⟨[(.tmp 8), (.tmp 9)], b_slices_choosePivotCmpFunc_tidy_from, .no⟩ else
  bif Nat.beq f 103 then some ⟨[], b_slices_reverseRangeCmpFunc_tidy_from, .no⟩ else
  bif Nat.beq f 104 then some ⟨[(.tmp 8)], b_slices_partialInsertionSortCmpFunc_tidy_from, .no⟩ else
  bif Nat.beq f 105 then some ⟨[(.tmp 10)], b_slices_partitionEqualCmpFunc_tidy_from, .no⟩ else
  bif Nat.beq f 106 then some ⟨[(.tmp 10), (.tmp 11)], b_slices_partitionCmpFunc_tidy_from, .no⟩ else
  bif Nat.beq f 107 then some ⟨[(.tmp 2)], b_math_bits_Len32, .no⟩ else
  bif Nat.beq f 108 then some ⟨[(.tmp 2)], b_math_bits_Len64, .no⟩ else
  bif Nat.beq f 109 then some ⟨[], b_slices_rotateLeft_api_Val, .no⟩ else
  bif Nat.beq f 110 then some ⟨[], b_slices_siftDownCmpFunc_tidy_from, .no⟩ else
  bif Nat.beq f 111 then some ⟨[(.tmp 2)], b_slices_nextPowerOfTwo, .no⟩ else
  bif Nat.beq f 112 then some ⟨[(.tmp 2)], b_slices_xorshift_Next, .no⟩ else
  bif Nat.beq f 113 then some ⟨[(.tmp 8)], b_slices_medianAdjacentCmpFunc_tidy_from, .no⟩ else
  bif Nat.beq f 114 then some ⟨[(.tmp 12)], b_slices_medianCmpFunc_tidy_from, .no⟩ else
  bif Nat.beq f 115 then some ⟨[], b_slices_Reverse_api_Val_api_Val, .no⟩ else
  bif Nat.beq f 116 then some ⟨[(.tmp 10), (.tmp 11)], b_slices_order2CmpFunc_tidy_from, .no⟩ else
  bif Nat.beq f 136 then some ⟨[], b_gosem_cut_vars, .no⟩ else
  none
theorem FL_ok : ∀ f af, FL f = some af → FF f = some af := by
  intro f af h
  unfold FL at h
  rcases pickA h c_gosem_cut_init with h | h
  · exact h
  rcases pickA h c_turnerylaw4_ValueTwins with h | h
  · exact h
  rcases pickA h c_turnerylaw4_back with h | h
  · exact h
  rcases pickA h c_turnerylaw4_shifted with h | h
  · exact h
  rcases pickA h c_value_Do with h | h
  · exact h
  rcases pickA h c_turnerylaw4_asked with h | h
  · exact h
  rcases pickA h c_turneryref3_Many with h | h
  · exact h
  rcases pickA h c_ssa_Check with h | h
  · exact h
  rcases pickA h c_live_Words with h | h
  · exact h
  rcases pickA h c_graph_Each with h | h
  · exact h
  rcases pickA h c_value_Do_1 with h | h
  · exact h
  rcases pickA h c_value_DoOf with h | h
  · exact h
  rcases pickA h c_code_Check with h | h
  · exact h
  rcases pickA h c_ssa_CheckOf with h | h
  · exact h
  rcases pickA h c_core_Fault with h | h
  · exact h
  rcases pickA h c_slices_Clone_api_Global_api_Global with h | h
  · exact h
  rcases pickA h c_slices_Clone_int_int with h | h
  · exact h
  rcases pickA h c_slices_Clone_api_Func_api_Func with h | h
  · exact h
  rcases pickA h c_graph_Copy with h | h
  · exact h
  rcases pickA h c_graph_Large with h | h
  · exact h
  rcases pickA h c_value_once with h | h
  · exact h
  rcases pickA h c_tidy_DoOf with h | h
  · exact h
  rcases pickA h c_core_Name with h | h
  · exact h
  rcases pickA h c_slices_Contains_string_string with h | h
  · exact h
  rcases pickA h c_core_Within with h | h
  · exact h
  rcases pickA h c_code_checker_head with h | h
  · exact h
  rcases pickA h c_code_checker_body with h | h
  · exact h
  rcases pickA h c_slices_IndexFunc_api_Func_api_Func with h | h
  · exact h
  rcases pickA h c_code_Check_1 with h | h
  · exact h
  rcases pickA h c_dom_TreeOf with h | h
  · exact h
  rcases pickA h c_slices_Repeat_ssa_written_ssa_written with h | h
  · exact h
  rcases pickA h c_graph_Post with h | h
  · exact h
  rcases pickA h c_ssa_checker_writes with h | h
  · exact h
  rcases pickA h c_ssa_checker_uses with h | h
  · exact h
  rcases pickA h c_slices_Clone_api_Block_api_Block with h | h
  · exact h
  rcases pickA h c_slices_Clone_api_Phi_api_Phi with h | h
  · exact h
  rcases pickA h c_slices_Clone_api_Val_api_Val with h | h
  · exact h
  rcases pickA h c_slices_Clone_api_Ins_api_Ins with h | h
  · exact h
  rcases pickA h c_value_known_walk with h | h
  · exact h
  rcases pickA h c_value_known_val with h | h
  · exact h
  rcases pickA h c_tidy_NamesOf with h | h
  · exact h
  rcases pickA h c_tidy_ChainsOf with h | h
  · exact h
  rcases pickA h c_tidy_Keep with h | h
  · exact h
  rcases pickA h c_graph_OrderOf with h | h
  · exact h
  rcases pickA h c_slices_Index_string_string with h | h
  · exact h
  rcases pickA h c_code_checker_end with h | h
  · exact h
  rcases pickA h c_code_ahead with h | h
  · exact h
  rcases pickA h c_code_checker_phi with h | h
  · exact h
  rcases pickA h c_code_checker_ins with h | h
  · exact h
  rcases pickA h c_slices_Repeat_int_int with h | h
  · exact h
  rcases pickA h c_graph_Ahead with h | h
  · exact h
  rcases pickA h c_dom_meet with h | h
  · exact h
  rcases pickA h c_math_bits_Mul with h | h
  · exact h
  rcases pickA h c_graph_Post_1 with h | h
  · exact h
  rcases pickA h c_slices_Backward_int_int with h | h
  · exact h
  rcases pickA h c_ssa_checker_write with h | h
  · exact h
  rcases pickA h c_ssa_checker_known with h | h
  · exact h
  rcases pickA h c_core_Vals with h | h
  · exact h
  rcases pickA h c_value_known_phis with h | h
  · exact h
  rcases pickA h c_value_known_same with h | h
  · exact h
  rcases pickA h c_value_known_keyOf with h | h
  · exact h
  rcases pickA h c_tidy_namer_name with h | h
  · exact h
  rcases pickA h c_tidy_namer_val with h | h
  · exact h
  rcases pickA h c_tidy_rename with h | h
  · exact h
  rcases pickA h c_slices_SortFunc_tidy_from_tidy_from with h | h
  · exact h
  rcases pickA h c_tidy_Keep_1 with h | h
  · exact h
  rcases pickA h c_slices_Reverse_int_int with h | h
  · exact h
  rcases pickA h c_slices_ContainsFunc_int_int with h | h
  · exact h
  rcases pickA h c_code_checker_end_1 with h | h
  · exact h
  rcases pickA h c_code_checker_val with h | h
  · exact h
  rcases pickA h c_code_checker_dst with h | h
  · exact h
  rcases pickA h c_core_Shapes with h | h
  · exact h
  rcases pickA h c_code_first with h | h
  · exact h
  rcases pickA h c_code_checker_ins_1 with h | h
  · exact h
  rcases pickA h c_code_checker_ins_2 with h | h
  · exact h
  rcases pickA h c_code_checker_ins_3 with h | h
  · exact h
  rcases pickA h c_math_bits_Mul32 with h | h
  · exact h
  rcases pickA h c_math_bits_Mul64 with h | h
  · exact h
  rcases pickA h c_slices_Backward_int_int_1 with h | h
  · exact h
  rcases pickA h c_dom_Rules with h | h
  · exact h
  rcases pickA h c_core_Vals_1 with h | h
  · exact h
  rcases pickA h c_value_known_only with h | h
  · exact h
  rcases pickA h c_slices_IndexFunc_api_Phi_api_Phi with h | h
  · exact h
  rcases pickA h c_value_known_phis_1 with h | h
  · exact h
  rcases pickA h c_slices_Equal_api_Val_api_Val with h | h
  · exact h
  rcases pickA h c_live_QuietIn with h | h
  · exact h
  rcases pickA h c_value_turns with h | h
  · exact h
  rcases pickA h c_value_ahead with h | h
  · exact h
  rcases pickA h c_slices_Index_int_int with h | h
  · exact h
  rcases pickA h c_slices_Insert_api_Val_api_Val with h | h
  · exact h
  rcases pickA h c_slices_Delete_api_Val_api_Val with h | h
  · exact h
  rcases pickA h c_slices_pdqsortCmpFunc_tidy_from with h | h
  · exact h
  rcases pickA h c_math_bits_Len with h | h
  · exact h
  rcases pickA h c_slices_IndexFunc_int_int with h | h
  · exact h
  rcases pickA h c_slices_Contains_int_int with h | h
  · exact h
  rcases pickA h c_slices_rotateRight_api_Val with h | h
  · exact h
  rcases pickA h c_slices_insertionSortCmpFunc_tidy_from with h | h
  · exact h
  rcases pickA h c_slices_heapSortCmpFunc_tidy_from with h | h
  · exact h
  rcases pickA h c_slices_breakPatternsCmpFunc_tidy_from with h | h
  · exact h
  rcases pickA h c_slices_choosePivotCmpFunc_tidy_from with h | h
  · exact h
  rcases pickA h c_slices_reverseRangeCmpFunc_tidy_from with h | h
  · exact h
  rcases pickA h c_slices_partialInsertionSortCmpFunc_tidy_from with h | h
  · exact h
  rcases pickA h c_slices_partitionEqualCmpFunc_tidy_from with h | h
  · exact h
  rcases pickA h c_slices_partitionCmpFunc_tidy_from with h | h
  · exact h
  rcases pickA h c_math_bits_Len32 with h | h
  · exact h
  rcases pickA h c_math_bits_Len64 with h | h
  · exact h
  rcases pickA h c_slices_rotateLeft_api_Val with h | h
  · exact h
  rcases pickA h c_slices_siftDownCmpFunc_tidy_from with h | h
  · exact h
  rcases pickA h c_slices_nextPowerOfTwo with h | h
  · exact h
  rcases pickA h c_slices_xorshift_Next with h | h
  · exact h
  rcases pickA h c_slices_medianAdjacentCmpFunc_tidy_from with h | h
  · exact h
  rcases pickA h c_slices_medianCmpFunc_tidy_from with h | h
  · exact h
  rcases pickA h c_slices_Reverse_api_Val_api_Val with h | h
  · exact h
  rcases pickA h c_slices_order2CmpFunc_tidy_from with h | h
  · exact h
  rcases pickA h c_gosem_cut_vars with h | h
  · exact h
  cases h
end Go.Proofs.YtigniafapkbbbaaGreatDoor
