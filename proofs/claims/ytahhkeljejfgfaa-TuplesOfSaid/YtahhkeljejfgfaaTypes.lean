/- what the types are (by program) -/
import Derived.Test.YtahhkeljejfgfaaNames
import Derived.Test.YtahhkeljejfgfaaKb
namespace Go.Proofs.Ytahhkeljejfgfaa
open Go Go.Vc Go.Proofs Go.Proofs.Try
set_option maxRecDepth 100000
theorem T.t_unit.i : Inf prog T.t_unit 1 0 (.tuple #[]) := Inf.of (by kernel_rfl)
theorem T.t_funcunit.i : Inf prog T.t_funcunit 1 8 .nilFunc := Inf.of (by kernel_rfl)
theorem T.t_int64.u : prog.underlying T.t_int64 = some (.int .i64) := by kernel_rfl
theorem T.t_int64.i : Inf prog T.t_int64 1 8 (.int .i64 0) := Inf.of (by kernel_rfl)
theorem T.t_int.u : prog.underlying T.t_int = some (.int .i64) := by kernel_rfl
theorem T.t_int.i : Inf prog T.t_int 1 8 (.int .i64 0) := Inf.of (by kernel_rfl)
theorem T.t_bool.u : prog.underlying T.t_bool = some .bool := by kernel_rfl
theorem T.t_bool.i : Inf prog T.t_bool 1 1 (.bool false) := Inf.of (by kernel_rfl)
theorem T.t_uint8.u : prog.underlying T.t_uint8 = some (.int .u8) := by kernel_rfl
theorem T.t_uint8.i : Inf prog T.t_uint8 1 1 (.int .u8 0) := Inf.of (by kernel_rfl)
theorem T.t_abi_BoundsErrorCode.u : prog.underlying T.t_abi_BoundsErrorCode = some (.int .u8) := by kernel_rfl
theorem T.t_abi_BoundsErrorCode.i : Inf prog T.t_abi_BoundsErrorCode 1 1 (.int .u8 0) := Inf.of (by kernel_rfl)
theorem T.t_struct_x_int64_y_int_signed_bool_code_abi_BoundsErrorCode.p : Plc prog T.t_struct_x_int64_y_int_signed_bool_code_abi_BoundsErrorCode [(0, 1), (1, 1), (2, 1), (3, 1)] := Plc.of (by kernel_rfl)
theorem T.t_struct_x_int64_y_int_signed_bool_code_abi_BoundsErrorCode.i : Inf prog T.t_struct_x_int64_y_int_signed_bool_code_abi_BoundsErrorCode 4 24 (.agg #[(.int .i64 0), (.int .i64 0), (.bool false), (.int .u8 0)]) := Inf.of (by kernel_rfl)
theorem T.t_runtime_boundsError.p : Plc prog T.t_runtime_boundsError [(0, 1), (1, 1), (2, 1), (3, 1)] := Plc.of (by kernel_rfl)
theorem T.t_runtime_boundsError.i : Inf prog T.t_runtime_boundsError 4 24 (.agg #[(.int .i64 0), (.int .i64 0), (.bool false), (.int .u8 0)]) := Inf.of (by kernel_rfl)
theorem T.t_string.u : prog.underlying T.t_string = some .string := by kernel_rfl
theorem T.t_string.i : Inf prog T.t_string 1 16 (.string ⟨#[]⟩) := Inf.of (by kernel_rfl)
theorem T.t_runtime_errorString.u : prog.underlying T.t_runtime_errorString = some .string := by kernel_rfl
theorem T.t_runtime_errorString.i : Inf prog T.t_runtime_errorString 1 16 (.string ⟨#[]⟩) := Inf.of (by kernel_rfl)
theorem T.t_runtime_plainError.u : prog.underlying T.t_runtime_plainError = some .string := by kernel_rfl
theorem T.t_runtime_plainError.i : Inf prog T.t_runtime_plainError 1 16 (.string ⟨#[]⟩) := Inf.of (by kernel_rfl)
theorem T.t_uintptr.u : prog.underlying T.t_uintptr = some (.int .u64) := by kernel_rfl
theorem T.t_uintptr.i : Inf prog T.t_uintptr 1 8 (.int .u64 0) := Inf.of (by kernel_rfl)
theorem T.t_struct_msg_string_addr_uintptr.p : Plc prog T.t_struct_msg_string_addr_uintptr [(0, 1), (1, 1)] := Plc.of (by kernel_rfl)
theorem T.t_struct_msg_string_addr_uintptr.i : Inf prog T.t_struct_msg_string_addr_uintptr 2 24 (.agg #[(.string ⟨#[]⟩), (.int .u64 0)]) := Inf.of (by kernel_rfl)
theorem T.t_runtime_errorAddressString.p : Plc prog T.t_runtime_errorAddressString [(0, 1), (1, 1)] := Plc.of (by kernel_rfl)
theorem T.t_runtime_errorAddressString.i : Inf prog T.t_runtime_errorAddressString 2 24 (.agg #[(.string ⟨#[]⟩), (.int .u64 0)]) := Inf.of (by kernel_rfl)
theorem T.t_p_runtime_TypeAssertionError.u : prog.underlying T.t_p_runtime_TypeAssertionError = some (.pointer T.t_runtime_TypeAssertionError) := by kernel_rfl
theorem T.t_p_runtime_TypeAssertionError.i : Inf prog T.t_p_runtime_TypeAssertionError 1 8 (.pointer none) := Inf.of (by kernel_rfl)
theorem T.t_p_runtime_PanicNilError.u : prog.underlying T.t_p_runtime_PanicNilError = some (.pointer T.t_runtime_PanicNilError) := by kernel_rfl
theorem T.t_p_runtime_PanicNilError.i : Inf prog T.t_p_runtime_PanicNilError 1 8 (.pointer none) := Inf.of (by kernel_rfl)
theorem T.t_p_abi_Type.u : prog.underlying T.t_p_abi_Type = some (.pointer T.t_abi_Type) := by kernel_rfl
theorem T.t_p_abi_Type.i : Inf prog T.t_p_abi_Type 1 8 (.pointer none) := Inf.of (by kernel_rfl)
theorem T.t_struct_typ_p_abi_Type.p : Plc prog T.t_struct_typ_p_abi_Type [(0, 1)] := Plc.of (by kernel_rfl)
theorem T.t_struct_typ_p_abi_Type.i : Inf prog T.t_struct_typ_p_abi_Type 1 8 (.agg #[(.pointer none)]) := Inf.of (by kernel_rfl)
theorem T.t_maps_unhashableTypeError.p : Plc prog T.t_maps_unhashableTypeError [(0, 1)] := Plc.of (by kernel_rfl)
theorem T.t_maps_unhashableTypeError.i : Inf prog T.t_maps_unhashableTypeError 1 8 (.agg #[(.pointer none)]) := Inf.of (by kernel_rfl)
theorem T.t_interface.i : Inf prog T.t_interface 1 16 .nilIface := Inf.of (by kernel_rfl)
theorem T.t_int32.u : prog.underlying T.t_int32 = some (.int .i32) := by kernel_rfl
theorem T.t_int32.i : Inf prog T.t_int32 1 4 (.int .i32 0) := Inf.of (by kernel_rfl)
theorem T.t_sl_uint8.u : prog.underlying T.t_sl_uint8 = some (.slice T.t_uint8) := by kernel_rfl
theorem T.t_sl_uint8.i : Inf prog T.t_sl_uint8 1 24 (.slice none 0 0) := Inf.of (by kernel_rfl)
theorem T.t_funcunit_bool.i : Inf prog T.t_funcunit_bool 1 8 .nilFunc := Inf.of (by kernel_rfl)
theorem T.t_func_sl_uint8_sl_uint8.i : Inf prog T.t_func_sl_uint8_sl_uint8 1 8 .nilFunc := Inf.of (by kernel_rfl)
theorem T.t_sl_script_Op.u : prog.underlying T.t_sl_script_Op = some (.slice T.t_script_Op) := by kernel_rfl
theorem T.t_sl_script_Op.i : Inf prog T.t_sl_script_Op 1 24 (.slice none 0 0) := Inf.of (by kernel_rfl)
theorem T.t_func_sl_uint8_sl_script_Op.i : Inf prog T.t_func_sl_uint8_sl_script_Op 1 8 .nilFunc := Inf.of (by kernel_rfl)
theorem T.t_sl_ref24_Op.u : prog.underlying T.t_sl_ref24_Op = some (.slice T.t_ref24_Op) := by kernel_rfl
theorem T.t_sl_ref24_Op.i : Inf prog T.t_sl_ref24_Op 1 24 (.slice none 0 0) := Inf.of (by kernel_rfl)
theorem T.t_func_sl_uint8_sl_ref24_Op.i : Inf prog T.t_func_sl_uint8_sl_ref24_Op 1 8 .nilFunc := Inf.of (by kernel_rfl)
theorem T.t_func_sl_uint8_sl_uint8_bool.i : Inf prog T.t_func_sl_uint8_sl_uint8_bool 1 8 .nilFunc := Inf.of (by kernel_rfl)
theorem T.t_struct_Kind_int_A_int_B_int_C_int_Cost_int64.p : Plc prog T.t_struct_Kind_int_A_int_B_int_C_int_Cost_int64 [(0, 1), (1, 1), (2, 1), (3, 1), (4, 1)] := Plc.of (by kernel_rfl)
theorem T.t_struct_Kind_int_A_int_B_int_C_int_Cost_int64.i : Inf prog T.t_struct_Kind_int_A_int_B_int_C_int_Cost_int64 5 40 (.agg #[(.int .i64 0), (.int .i64 0), (.int .i64 0), (.int .i64 0), (.int .i64 0)]) := Inf.of (by kernel_rfl)
theorem T.t_ref24_Op.p : Plc prog T.t_ref24_Op [(0, 1), (1, 1), (2, 1), (3, 1), (4, 1)] := Plc.of (by kernel_rfl)
theorem T.t_ref24_Op.i : Inf prog T.t_ref24_Op 5 40 (.agg #[(.int .i64 0), (.int .i64 0), (.int .i64 0), (.int .i64 0), (.int .i64 0)]) := Inf.of (by kernel_rfl)
theorem T.t_script_Op.p : Plc prog T.t_script_Op [(0, 1), (1, 1), (2, 1), (3, 1), (4, 1)] := Plc.of (by kernel_rfl)
theorem T.t_script_Op.i : Inf prog T.t_script_Op 5 40 (.agg #[(.int .i64 0), (.int .i64 0), (.int .i64 0), (.int .i64 0), (.int .i64 0)]) := Inf.of (by kernel_rfl)
theorem T.t_func_sl_uint8_bool.i : Inf prog T.t_func_sl_uint8_bool 1 8 .nilFunc := Inf.of (by kernel_rfl)
theorem T.t_uint16.u : prog.underlying T.t_uint16 = some (.int .u16) := by kernel_rfl
theorem T.t_uint16.i : Inf prog T.t_uint16 1 2 (.int .u16 0) := Inf.of (by kernel_rfl)
theorem T.t_sl_law05_Act.u : prog.underlying T.t_sl_law05_Act = some (.slice T.t_law05_Act) := by kernel_rfl
theorem T.t_sl_law05_Act.i : Inf prog T.t_sl_law05_Act 1 24 (.slice none 0 0) := Inf.of (by kernel_rfl)
theorem T.t_sl_int.u : prog.underlying T.t_sl_int = some (.slice T.t_int) := by kernel_rfl
theorem T.t_sl_int.i : Inf prog T.t_sl_int 1 24 (.slice none 0 0) := Inf.of (by kernel_rfl)
theorem T.t_func_sl_uint8_sl_int.i : Inf prog T.t_func_sl_uint8_sl_int 1 8 .nilFunc := Inf.of (by kernel_rfl)
theorem T.t_p_tuples_Tuples.u : prog.underlying T.t_p_tuples_Tuples = some (.pointer T.t_tuples_Tuples) := by kernel_rfl
theorem T.t_p_tuples_Tuples.i : Inf prog T.t_p_tuples_Tuples 1 8 (.pointer none) := Inf.of (by kernel_rfl)
theorem T.t_api_Errno.u : prog.underlying T.t_api_Errno = some (.int .i64) := by kernel_rfl
theorem T.t_api_Errno.i : Inf prog T.t_api_Errno 1 8 (.int .i64 0) := Inf.of (by kernel_rfl)
theorem T.t_p_tuples_Tuples_api_Errno.i : Inf prog T.t_p_tuples_Tuples_api_Errno 1 0 (.tuple #[(.pointer none), (.int .i64 0)]) := Inf.of (by kernel_rfl)
theorem T.t_func_sl_int_int64_int64_p_tuples_Tuples_api_Errno.i : Inf prog T.t_func_sl_int_int64_int64_p_tuples_Tuples_api_Errno 1 8 .nilFunc := Inf.of (by kernel_rfl)
theorem T.t_sl_int64.u : prog.underlying T.t_sl_int64 = some (.slice T.t_int64) := by kernel_rfl
theorem T.t_sl_int64.i : Inf prog T.t_sl_int64 1 24 (.slice none 0 0) := Inf.of (by kernel_rfl)
theorem T.t_struct_Sizes_sl_int_K_int64_C_sl_int64.p : Plc prog T.t_struct_Sizes_sl_int_K_int64_C_sl_int64 [(0, 1), (1, 1), (2, 1)] := Plc.of (by kernel_rfl)
theorem T.t_struct_Sizes_sl_int_K_int64_C_sl_int64.i : Inf prog T.t_struct_Sizes_sl_int_K_int64_C_sl_int64 3 56 (.agg #[(.slice none 0 0), (.int .i64 0), (.slice none 0 0)]) := Inf.of (by kernel_rfl)
theorem T.t_ref04_Table.p : Plc prog T.t_ref04_Table [(0, 1), (1, 1), (2, 1)] := Plc.of (by kernel_rfl)
theorem T.t_ref04_Table.i : Inf prog T.t_ref04_Table 3 56 (.agg #[(.slice none 0 0), (.int .i64 0), (.slice none 0 0)]) := Inf.of (by kernel_rfl)
theorem T.t_func_sl_int_int.i : Inf prog T.t_func_sl_int_int 1 8 .nilFunc := Inf.of (by kernel_rfl)
theorem T.t_struct_T_sl_int_C_int64.p : Plc prog T.t_struct_T_sl_int_C_int64 [(0, 1), (1, 1)] := Plc.of (by kernel_rfl)
theorem T.t_struct_T_sl_int_C_int64.i : Inf prog T.t_struct_T_sl_int_C_int64 2 32 (.agg #[(.slice none 0 0), (.int .i64 0)]) := Inf.of (by kernel_rfl)
theorem T.t_law05_Act.p : Plc prog T.t_law05_Act [(0, 1), (1, 1)] := Plc.of (by kernel_rfl)
theorem T.t_law05_Act.i : Inf prog T.t_law05_Act 2 32 (.agg #[(.slice none 0 0), (.int .i64 0)]) := Inf.of (by kernel_rfl)
theorem T.t_func_sl_int_sl_int.i : Inf prog T.t_func_sl_int_sl_int 1 8 .nilFunc := Inf.of (by kernel_rfl)
theorem T.t_func_sl_int_sl_int_int.i : Inf prog T.t_func_sl_int_sl_int_int 1 8 .nilFunc := Inf.of (by kernel_rfl)
theorem T.t_func_int64_int64_bool.i : Inf prog T.t_func_int64_int64_bool 1 8 .nilFunc := Inf.of (by kernel_rfl)
theorem T.t_func_sl_int_int64_api_Errno.i : Inf prog T.t_func_sl_int_int64_api_Errno 1 8 .nilFunc := Inf.of (by kernel_rfl)
theorem T.t_int64_api_Errno.i : Inf prog T.t_int64_api_Errno 1 0 (.tuple #[(.int .i64 0), (.int .i64 0)]) := Inf.of (by kernel_rfl)
theorem T.t_func_sl_int_int64_api_Errno_53.i : Inf prog T.t_func_sl_int_int64_api_Errno_53 1 8 .nilFunc := Inf.of (by kernel_rfl)
theorem T.t_func_p_tuples_Tuples_ref04_Table_int64_bool.i : Inf prog T.t_func_p_tuples_Tuples_ref04_Table_int64_bool 1 8 .nilFunc := Inf.of (by kernel_rfl)
theorem T.t_func_sl_uint8_uint16_uint16_sl_law05_Act_bool.i : Inf prog T.t_func_sl_uint8_uint16_uint16_sl_law05_Act_bool 1 8 .nilFunc := Inf.of (by kernel_rfl)
theorem T.t_sl_uint16.u : prog.underlying T.t_sl_uint16 = some (.slice T.t_uint16) := by kernel_rfl
theorem T.t_sl_uint16.i : Inf prog T.t_sl_uint16 1 24 (.slice none 0 0) := Inf.of (by kernel_rfl)
theorem T.t_func_sl_int_int64_sl_uint16_ref04_Table.i : Inf prog T.t_func_sl_int_int64_sl_uint16_ref04_Table 1 8 .nilFunc := Inf.of (by kernel_rfl)
theorem T.t_sl_sl_int.u : prog.underlying T.t_sl_sl_int = some (.slice T.t_sl_int) := by kernel_rfl
theorem T.t_sl_sl_int.i : Inf prog T.t_sl_sl_int 1 24 (.slice none 0 0) := Inf.of (by kernel_rfl)
theorem T.t_func_sl_int_sl_sl_int.i : Inf prog T.t_func_sl_int_sl_sl_int 1 8 .nilFunc := Inf.of (by kernel_rfl)
theorem T.t_func_sl_int_sl_int_bool.i : Inf prog T.t_func_sl_int_sl_int_bool 1 8 .nilFunc := Inf.of (by kernel_rfl)
theorem T.t_func_sl_int64_sl_int64_bool.i : Inf prog T.t_func_sl_int64_sl_int64_bool 1 8 .nilFunc := Inf.of (by kernel_rfl)
theorem T.t_func_p_tuples_Tuples_p_tuples_Tuples_bool.i : Inf prog T.t_func_p_tuples_Tuples_p_tuples_Tuples_bool 1 8 .nilFunc := Inf.of (by kernel_rfl)
theorem T.t_func_sl_uint8_sl_uint8_uint16_sl_uint16_sl_uint16_uint16_uint16_bool_bool.i : Inf prog T.t_func_sl_uint8_sl_uint8_uint16_sl_uint16_sl_uint16_uint16_uint16_bool_bool 1 8 .nilFunc := Inf.of (by kernel_rfl)
theorem T.t_func_sl_uint8_uint16_sl_uint16_sl_uint8_bool.i : Inf prog T.t_func_sl_uint8_uint16_sl_uint16_sl_uint8_bool 1 8 .nilFunc := Inf.of (by kernel_rfl)
theorem T.t_p_table_Table.u : prog.underlying T.t_p_table_Table = some (.pointer T.t_table_Table) := by kernel_rfl
theorem T.t_p_table_Table.i : Inf prog T.t_p_table_Table 1 8 (.pointer none) := Inf.of (by kernel_rfl)
theorem T.t_p_table_Table_api_Errno.i : Inf prog T.t_p_table_Table_api_Errno 1 0 (.tuple #[(.pointer none), (.int .i64 0)]) := Inf.of (by kernel_rfl)
theorem T.t_func_sl_int_int64_int64_p_table_Table_api_Errno.i : Inf prog T.t_func_sl_int_int64_int64_p_table_Table_api_Errno 1 8 .nilFunc := Inf.of (by kernel_rfl)
theorem T.t_func_p_table_Table_p_tuples_Tuples.i : Inf prog T.t_func_p_table_Table_p_tuples_Tuples 1 8 .nilFunc := Inf.of (by kernel_rfl)
theorem T.t_funcunit_p_table_Table_api_Errno.i : Inf prog T.t_funcunit_p_table_Table_api_Errno 1 8 .nilFunc := Inf.of (by kernel_rfl)
theorem T.t_func_ref04_Table_int64.i : Inf prog T.t_func_ref04_Table_int64 1 8 .nilFunc := Inf.of (by kernel_rfl)
theorem T.t_func_p_table_Table_p_table_Table_bool.i : Inf prog T.t_func_p_table_Table_p_table_Table_bool 1 8 .nilFunc := Inf.of (by kernel_rfl)
theorem T.t_func_sl_uint8_uint16_sl_uint16_bool.i : Inf prog T.t_func_sl_uint8_uint16_sl_uint16_bool 1 8 .nilFunc := Inf.of (by kernel_rfl)
theorem T.t_funcunit_int.i : Inf prog T.t_funcunit_int 1 8 .nilFunc := Inf.of (by kernel_rfl)
theorem T.t_sl_tuples_Line.u : prog.underlying T.t_sl_tuples_Line = some (.slice T.t_tuples_Line) := by kernel_rfl
theorem T.t_sl_tuples_Line.i : Inf prog T.t_sl_tuples_Line 1 24 (.slice none 0 0) := Inf.of (by kernel_rfl)
theorem T.t_funcunit_sl_tuples_Line.i : Inf prog T.t_funcunit_sl_tuples_Line 1 8 .nilFunc := Inf.of (by kernel_rfl)
theorem T.t_funcunit_sl_int.i : Inf prog T.t_funcunit_sl_int 1 8 .nilFunc := Inf.of (by kernel_rfl)
theorem T.t_funcunit_int64.i : Inf prog T.t_funcunit_int64 1 8 .nilFunc := Inf.of (by kernel_rfl)
theorem T.t_func_sl_int_int64_int64_sl_int_int64_bool.i : Inf prog T.t_func_sl_int_int64_int64_sl_int_int64_bool 1 8 .nilFunc := Inf.of (by kernel_rfl)
theorem T.t_func_func_sl_uint8_bool.i : Inf prog T.t_func_func_sl_uint8_bool 1 8 .nilFunc := Inf.of (by kernel_rfl)
theorem T.t_iter_Seq_sl_uint8.i : Inf prog T.t_iter_Seq_sl_uint8 1 8 .nilFunc := Inf.of (by kernel_rfl)
theorem T.t_func_sl_uint8_int_iter_Seq_sl_uint8.i : Inf prog T.t_func_sl_uint8_int_iter_Seq_sl_uint8 1 8 .nilFunc := Inf.of (by kernel_rfl)
theorem T.t_arr6_uint8.u : prog.underlying T.t_arr6_uint8 = some (.array 6 T.t_uint8) := by kernel_rfl
theorem T.t_arr6_uint8.i : Inf prog T.t_arr6_uint8 6 6 (.agg #[(.int .u8 0), (.int .u8 0), (.int .u8 0), (.int .u8 0), (.int .u8 0), (.int .u8 0)]) := Inf.of (by kernel_rfl)
theorem T.t_uint.u : prog.underlying T.t_uint = some (.int .u64) := by kernel_rfl
theorem T.t_uint.i : Inf prog T.t_uint 1 8 (.int .u64 0) := Inf.of (by kernel_rfl)
theorem T.t_struct_Tuple_sl_int_Cost_int64.p : Plc prog T.t_struct_Tuple_sl_int_Cost_int64 [(0, 1), (1, 1)] := Plc.of (by kernel_rfl)
theorem T.t_struct_Tuple_sl_int_Cost_int64.i : Inf prog T.t_struct_Tuple_sl_int_Cost_int64 2 32 (.agg #[(.slice none 0 0), (.int .i64 0)]) := Inf.of (by kernel_rfl)
theorem T.t_tuples_Line.p : Plc prog T.t_tuples_Line [(0, 1), (1, 1)] := Plc.of (by kernel_rfl)
theorem T.t_tuples_Line.i : Inf prog T.t_tuples_Line 2 32 (.agg #[(.slice none 0 0), (.int .i64 0)]) := Inf.of (by kernel_rfl)
theorem T.t_func_int_bool.i : Inf prog T.t_func_int_bool 1 8 .nilFunc := Inf.of (by kernel_rfl)
theorem T.t_func_sl_int_func_int_bool_bool.i : Inf prog T.t_func_sl_int_func_int_bool_bool 1 8 .nilFunc := Inf.of (by kernel_rfl)
theorem T.t_map_tuples_key_int64.u : prog.underlying T.t_map_tuples_key_int64 = some (.map T.t_tuples_key T.t_int64) := by kernel_rfl
theorem T.t_map_tuples_key_int64.i : Inf prog T.t_map_tuples_key_int64 1 8 (.map none) := Inf.of (by kernel_rfl)
theorem T.t_struct_sizes_sl_int_k_int64_other_int64_some_map_tuples_key_int64.p : Plc prog T.t_struct_sizes_sl_int_k_int64_other_int64_some_map_tuples_key_int64 [(0, 1), (1, 1), (2, 1), (3, 1)] := Plc.of (by kernel_rfl)
theorem T.t_struct_sizes_sl_int_k_int64_other_int64_some_map_tuples_key_int64.i : Inf prog T.t_struct_sizes_sl_int_k_int64_other_int64_some_map_tuples_key_int64 4 48 (.agg #[(.slice none 0 0), (.int .i64 0), (.int .i64 0), (.map none)]) := Inf.of (by kernel_rfl)
theorem T.t_tuples_Tuples.p : Plc prog T.t_tuples_Tuples [(0, 1), (1, 1), (2, 1), (3, 1)] := Plc.of (by kernel_rfl)
theorem T.t_tuples_Tuples.i : Inf prog T.t_tuples_Tuples 4 48 (.agg #[(.slice none 0 0), (.int .i64 0), (.int .i64 0), (.map none)]) := Inf.of (by kernel_rfl)
theorem T.t_func_int64_bool.i : Inf prog T.t_func_int64_bool 1 8 .nilFunc := Inf.of (by kernel_rfl)
theorem T.t_int8.u : prog.underlying T.t_int8 = some (.int .i8) := by kernel_rfl
theorem T.t_int8.i : Inf prog T.t_int8 1 1 (.int .i8 0) := Inf.of (by kernel_rfl)
theorem T.t_arr6_int8.u : prog.underlying T.t_arr6_int8 = some (.array 6 T.t_int8) := by kernel_rfl
theorem T.t_arr6_int8.i : Inf prog T.t_arr6_int8 6 6 (.agg #[(.int .i8 0), (.int .i8 0), (.int .i8 0), (.int .i8 0), (.int .i8 0), (.int .i8 0)]) := Inf.of (by kernel_rfl)
theorem T.t_tuples_key.u : prog.underlying T.t_tuples_key = some (.array 6 T.t_int8) := by kernel_rfl
theorem T.t_tuples_key.i : Inf prog T.t_tuples_key 6 6 (.agg #[(.int .i8 0), (.int .i8 0), (.int .i8 0), (.int .i8 0), (.int .i8 0), (.int .i8 0)]) := Inf.of (by kernel_rfl)
theorem T.t_tuples_key_api_Errno.i : Inf prog T.t_tuples_key_api_Errno 1 0 (.tuple #[(.agg #[(.int .i8 0), (.int .i8 0), (.int .i8 0), (.int .i8 0), (.int .i8 0), (.int .i8 0)]), (.int .i64 0)]) := Inf.of (by kernel_rfl)
theorem T.t_func_sl_int_tuples_key_api_Errno.i : Inf prog T.t_func_sl_int_tuples_key_api_Errno 1 8 .nilFunc := Inf.of (by kernel_rfl)
theorem T.t_int64_bool.i : Inf prog T.t_int64_bool 1 0 (.tuple #[(.int .i64 0), (.bool false)]) := Inf.of (by kernel_rfl)
theorem T.t_sl_sl_int_sl_int64.i : Inf prog T.t_sl_sl_int_sl_int64 1 0 (.tuple #[(.slice none 0 0), (.slice none 0 0)]) := Inf.of (by kernel_rfl)
theorem T.t_func_ref04_Table_int64_sl_sl_int_sl_int64.i : Inf prog T.t_func_ref04_Table_int64_sl_sl_int_sl_int64 1 8 .nilFunc := Inf.of (by kernel_rfl)
theorem T.t_funcunit_sl_int64.i : Inf prog T.t_funcunit_sl_int64 1 8 .nilFunc := Inf.of (by kernel_rfl)
theorem T.t_map_tuples_key_int.u : prog.underlying T.t_map_tuples_key_int = some (.map T.t_tuples_key T.t_int) := by kernel_rfl
theorem T.t_map_tuples_key_int.i : Inf prog T.t_map_tuples_key_int 1 8 (.map none) := Inf.of (by kernel_rfl)
theorem T.t_sl_p_tuples_Tuples.u : prog.underlying T.t_sl_p_tuples_Tuples = some (.slice T.t_p_tuples_Tuples) := by kernel_rfl
theorem T.t_sl_p_tuples_Tuples.i : Inf prog T.t_sl_p_tuples_Tuples 1 24 (.slice none 0 0) := Inf.of (by kernel_rfl)
theorem T.t_func_tuples_key_int64.i : Inf prog T.t_func_tuples_key_int64 1 8 .nilFunc := Inf.of (by kernel_rfl)
theorem T.t_struct_sizes_sl_int.p : Plc prog T.t_struct_sizes_sl_int [(0, 1)] := Plc.of (by kernel_rfl)
theorem T.t_struct_sizes_sl_int.i : Inf prog T.t_struct_sizes_sl_int 1 24 (.agg #[(.slice none 0 0)]) := Inf.of (by kernel_rfl)
theorem T.t_shape_Shape.p : Plc prog T.t_shape_Shape [(0, 1)] := Plc.of (by kernel_rfl)
theorem T.t_shape_Shape.i : Inf prog T.t_shape_Shape 1 24 (.agg #[(.slice none 0 0)]) := Inf.of (by kernel_rfl)
theorem T.t_shape_Shape_api_Errno.i : Inf prog T.t_shape_Shape_api_Errno 1 0 (.tuple #[(.agg #[(.slice none 0 0)]), (.int .i64 0)]) := Inf.of (by kernel_rfl)
theorem T.t_func_sl_int_shape_Shape_api_Errno.i : Inf prog T.t_func_sl_int_shape_Shape_api_Errno 1 8 .nilFunc := Inf.of (by kernel_rfl)
theorem T.t_func_sl_int64_int_sl_int64.i : Inf prog T.t_func_sl_int64_int_sl_int64 1 8 .nilFunc := Inf.of (by kernel_rfl)
theorem T.t_struct_shape_shape_Shape_k_int64_costs_sl_int64.p : Plc prog T.t_struct_shape_shape_Shape_k_int64_costs_sl_int64 [(0, 1), (1, 1), (2, 1)] := Plc.of (by kernel_rfl)
theorem T.t_struct_shape_shape_Shape_k_int64_costs_sl_int64.i : Inf prog T.t_struct_shape_shape_Shape_k_int64_costs_sl_int64 3 56 (.agg #[(.slice none 0 0), (.int .i64 0), (.slice none 0 0)]) := Inf.of (by kernel_rfl)
theorem T.t_table_Table.p : Plc prog T.t_table_Table [(0, 1), (1, 1), (2, 1)] := Plc.of (by kernel_rfl)
theorem T.t_table_Table.i : Inf prog T.t_table_Table 3 56 (.agg #[(.slice none 0 0), (.int .i64 0), (.slice none 0 0)]) := Inf.of (by kernel_rfl)
theorem T.t_int_api_Errno.i : Inf prog T.t_int_api_Errno 1 0 (.tuple #[(.int .i64 0), (.int .i64 0)]) := Inf.of (by kernel_rfl)
theorem T.t_func_sl_int_int_api_Errno.i : Inf prog T.t_func_sl_int_int_api_Errno 1 8 .nilFunc := Inf.of (by kernel_rfl)
theorem T.t_funcunit_shape_Shape.i : Inf prog T.t_funcunit_shape_Shape 1 8 .nilFunc := Inf.of (by kernel_rfl)
theorem T.t_func_sl_int64_int64.i : Inf prog T.t_func_sl_int64_int64 1 8 .nilFunc := Inf.of (by kernel_rfl)
theorem T.t_func_func_int_sl_int_bool.i : Inf prog T.t_func_func_int_sl_int_bool 1 8 .nilFunc := Inf.of (by kernel_rfl)
theorem T.t_iter_Seq2_int_sl_int.i : Inf prog T.t_iter_Seq2_int_sl_int 1 8 .nilFunc := Inf.of (by kernel_rfl)
theorem T.t_funcunit_iter_Seq2_int_sl_int.i : Inf prog T.t_funcunit_iter_Seq2_int_sl_int 1 8 .nilFunc := Inf.of (by kernel_rfl)
theorem T.t_func_shape_Shape_shape_Shape_bool.i : Inf prog T.t_func_shape_Shape_shape_Shape_bool 1 8 .nilFunc := Inf.of (by kernel_rfl)
theorem T.t_func_sl_int8_sl_int8_int.i : Inf prog T.t_func_sl_int8_sl_int8_int 1 8 .nilFunc := Inf.of (by kernel_rfl)
theorem T.t_sl_int8.u : prog.underlying T.t_sl_int8 = some (.slice T.t_int8) := by kernel_rfl
theorem T.t_sl_int8.i : Inf prog T.t_sl_int8 1 24 (.slice none 0 0) := Inf.of (by kernel_rfl)
theorem T.t_func_tuples_key_tuples_key_int.i : Inf prog T.t_func_tuples_key_tuples_key_int 1 8 .nilFunc := Inf.of (by kernel_rfl)
theorem T.t_sl_tuples_key.u : prog.underlying T.t_sl_tuples_key = some (.slice T.t_tuples_key) := by kernel_rfl
theorem T.t_sl_tuples_key.i : Inf prog T.t_sl_tuples_key 1 24 (.slice none 0 0) := Inf.of (by kernel_rfl)
theorem T.t_func_iter_Seq_tuples_key_func_tuples_key_tuples_key_int_sl_tuples_key.i : Inf prog T.t_func_iter_Seq_tuples_key_func_tuples_key_tuples_key_int_sl_tuples_key 1 8 .nilFunc := Inf.of (by kernel_rfl)
theorem T.t_func_func_tuples_key_bool.i : Inf prog T.t_func_func_tuples_key_bool 1 8 .nilFunc := Inf.of (by kernel_rfl)
theorem T.t_iter_Seq_tuples_key.i : Inf prog T.t_iter_Seq_tuples_key 1 8 .nilFunc := Inf.of (by kernel_rfl)
theorem T.t_func_map_tuples_key_int64_iter_Seq_tuples_key.i : Inf prog T.t_func_map_tuples_key_int64_iter_Seq_tuples_key 1 8 .nilFunc := Inf.of (by kernel_rfl)
theorem T.t_func_sl_int_func_int_bool_int.i : Inf prog T.t_func_sl_int_func_int_bool_int 1 8 .nilFunc := Inf.of (by kernel_rfl)
theorem T.t_func_sl_int64_sl_int64.i : Inf prog T.t_func_sl_int64_sl_int64 1 8 .nilFunc := Inf.of (by kernel_rfl)
theorem T.t_uint_uint.i : Inf prog T.t_uint_uint 1 0 (.tuple #[(.int .u64 0), (.int .u64 0)]) := Inf.of (by kernel_rfl)
theorem T.t_func_uint_uint_uint_uint.i : Inf prog T.t_func_uint_uint_uint_uint 1 8 .nilFunc := Inf.of (by kernel_rfl)
theorem T.t_map_int64_int.u : prog.underlying T.t_map_int64_int = some (.map T.t_int64 T.t_int) := by kernel_rfl
theorem T.t_map_int64_int.i : Inf prog T.t_map_int64_int 1 8 (.map none) := Inf.of (by kernel_rfl)
theorem T.t_func_int_sl_int_bool.i : Inf prog T.t_func_int_sl_int_bool 1 8 .nilFunc := Inf.of (by kernel_rfl)
theorem T.t_sl_int_api_Errno.i : Inf prog T.t_sl_int_api_Errno 1 0 (.tuple #[(.slice none 0 0), (.int .i64 0)]) := Inf.of (by kernel_rfl)
theorem T.t_func_int_sl_int_api_Errno.i : Inf prog T.t_func_int_sl_int_api_Errno 1 8 .nilFunc := Inf.of (by kernel_rfl)
theorem T.t_func_int8_int8_int.i : Inf prog T.t_func_int8_int8_int 1 8 .nilFunc := Inf.of (by kernel_rfl)
theorem T.t_func_iter_Seq_tuples_key_sl_tuples_key.i : Inf prog T.t_func_iter_Seq_tuples_key_sl_tuples_key 1 8 .nilFunc := Inf.of (by kernel_rfl)
theorem T.t_func_sl_tuples_key_func_tuples_key_tuples_key_int.i : Inf prog T.t_func_sl_tuples_key_func_tuples_key_tuples_key_int 1 8 .nilFunc := Inf.of (by kernel_rfl)
theorem T.t_func_tuples_key_bool.i : Inf prog T.t_func_tuples_key_bool 1 8 .nilFunc := Inf.of (by kernel_rfl)
theorem T.t_uint32.u : prog.underlying T.t_uint32 = some (.int .u32) := by kernel_rfl
theorem T.t_uint32.i : Inf prog T.t_uint32 1 4 (.int .u32 0) := Inf.of (by kernel_rfl)
theorem T.t_uint32_uint32.i : Inf prog T.t_uint32_uint32 1 0 (.tuple #[(.int .u32 0), (.int .u32 0)]) := Inf.of (by kernel_rfl)
theorem T.t_func_uint32_uint32_uint32_uint32.i : Inf prog T.t_func_uint32_uint32_uint32_uint32 1 8 .nilFunc := Inf.of (by kernel_rfl)
theorem T.t_uint64.u : prog.underlying T.t_uint64 = some (.int .u64) := by kernel_rfl
theorem T.t_uint64.i : Inf prog T.t_uint64 1 8 (.int .u64 0) := Inf.of (by kernel_rfl)
theorem T.t_uint64_uint64.i : Inf prog T.t_uint64_uint64 1 0 (.tuple #[(.int .u64 0), (.int .u64 0)]) := Inf.of (by kernel_rfl)
theorem T.t_func_uint64_uint64_uint64_uint64.i : Inf prog T.t_func_uint64_uint64_uint64_uint64 1 8 .nilFunc := Inf.of (by kernel_rfl)
theorem T.t_func_int_int.i : Inf prog T.t_func_int_int 1 8 .nilFunc := Inf.of (by kernel_rfl)
theorem T.t_func_int8_bool.i : Inf prog T.t_func_int8_bool 1 8 .nilFunc := Inf.of (by kernel_rfl)
theorem T.t_func_sl_tuples_key_iter_Seq_tuples_key_sl_tuples_key.i : Inf prog T.t_func_sl_tuples_key_iter_Seq_tuples_key_sl_tuples_key 1 8 .nilFunc := Inf.of (by kernel_rfl)
theorem T.t_func_sl_tuples_key_int_int_int_func_tuples_key_tuples_key_int.i : Inf prog T.t_func_sl_tuples_key_int_int_int_func_tuples_key_tuples_key_int 1 8 .nilFunc := Inf.of (by kernel_rfl)
theorem T.t_func_uint_int.i : Inf prog T.t_func_uint_int 1 8 .nilFunc := Inf.of (by kernel_rfl)
theorem T.t_func_sl_tuples_key_int_int_func_tuples_key_tuples_key_int.i : Inf prog T.t_func_sl_tuples_key_int_int_func_tuples_key_tuples_key_int 1 8 .nilFunc := Inf.of (by kernel_rfl)
theorem T.t_slices_sortedHint.u : prog.underlying T.t_slices_sortedHint = some (.int .i64) := by kernel_rfl
theorem T.t_slices_sortedHint.i : Inf prog T.t_slices_sortedHint 1 8 (.int .i64 0) := Inf.of (by kernel_rfl)
theorem T.t_int_slices_sortedHint.i : Inf prog T.t_int_slices_sortedHint 1 0 (.tuple #[(.int .i64 0), (.int .i64 0)]) := Inf.of (by kernel_rfl)
theorem T.t_func_sl_tuples_key_int_int_func_tuples_key_tuples_key_int_int_slices_sortedHint.i : Inf prog T.t_func_sl_tuples_key_int_int_func_tuples_key_tuples_key_int_int_slices_sortedHint 1 8 .nilFunc := Inf.of (by kernel_rfl)
theorem T.t_func_sl_tuples_key_int_int_func_tuples_key_tuples_key_int_bool.i : Inf prog T.t_func_sl_tuples_key_int_int_func_tuples_key_tuples_key_int_bool 1 8 .nilFunc := Inf.of (by kernel_rfl)
theorem T.t_func_sl_tuples_key_int_int_int_func_tuples_key_tuples_key_int_int.i : Inf prog T.t_func_sl_tuples_key_int_int_int_func_tuples_key_tuples_key_int_int 1 8 .nilFunc := Inf.of (by kernel_rfl)
theorem T.t_int_bool.i : Inf prog T.t_int_bool 1 0 (.tuple #[(.int .i64 0), (.bool false)]) := Inf.of (by kernel_rfl)
theorem T.t_func_sl_tuples_key_int_int_int_func_tuples_key_tuples_key_int_int_bool.i : Inf prog T.t_func_sl_tuples_key_int_int_int_func_tuples_key_tuples_key_int_int_bool 1 8 .nilFunc := Inf.of (by kernel_rfl)
theorem T.t_func_uint32_int.i : Inf prog T.t_func_uint32_int 1 8 .nilFunc := Inf.of (by kernel_rfl)
theorem T.t_func_uint64_int.i : Inf prog T.t_func_uint64_int 1 8 .nilFunc := Inf.of (by kernel_rfl)
theorem T.t_slices_xorshift.u : prog.underlying T.t_slices_xorshift = some (.int .u64) := by kernel_rfl
theorem T.t_slices_xorshift.i : Inf prog T.t_slices_xorshift 1 8 (.int .u64 0) := Inf.of (by kernel_rfl)
theorem T.t_func_int_uint.i : Inf prog T.t_func_int_uint 1 8 .nilFunc := Inf.of (by kernel_rfl)
theorem T.t_funcunit_uint64.i : Inf prog T.t_funcunit_uint64 1 8 .nilFunc := Inf.of (by kernel_rfl)
theorem T.t_func_sl_tuples_key_int_p_int_func_tuples_key_tuples_key_int_int.i : Inf prog T.t_func_sl_tuples_key_int_p_int_func_tuples_key_tuples_key_int_int 1 8 .nilFunc := Inf.of (by kernel_rfl)
theorem T.t_p_int.u : prog.underlying T.t_p_int = some (.pointer T.t_int) := by kernel_rfl
theorem T.t_p_int.i : Inf prog T.t_p_int 1 8 (.pointer none) := Inf.of (by kernel_rfl)
theorem T.t_func_sl_tuples_key_int_int_int_p_int_func_tuples_key_tuples_key_int_int.i : Inf prog T.t_func_sl_tuples_key_int_int_int_p_int_func_tuples_key_tuples_key_int_int 1 8 .nilFunc := Inf.of (by kernel_rfl)
theorem T.t_p_slices_xorshift.u : prog.underlying T.t_p_slices_xorshift = some (.pointer T.t_slices_xorshift) := by kernel_rfl
theorem T.t_p_slices_xorshift.i : Inf prog T.t_p_slices_xorshift 1 8 (.pointer none) := Inf.of (by kernel_rfl)
theorem T.t_int_int.i : Inf prog T.t_int_int 1 0 (.tuple #[(.int .i64 0), (.int .i64 0)]) := Inf.of (by kernel_rfl)
theorem T.t_func_sl_tuples_key_int_int_p_int_func_tuples_key_tuples_key_int_int_int.i : Inf prog T.t_func_sl_tuples_key_int_int_p_int_func_tuples_key_tuples_key_int_int_int 1 8 .nilFunc := Inf.of (by kernel_rfl)
theorem T.t_funcunit_string.i : Inf prog T.t_funcunit_string 1 8 .nilFunc := Inf.of (by kernel_rfl)
theorem T.t_struct__interface_p_abi_Type_concrete_p_abi_Type_asserted_p_abi_Type_missingMethod_string.p : Plc prog T.t_struct__interface_p_abi_Type_concrete_p_abi_Type_asserted_p_abi_Type_missingMethod_string [(0, 1), (1, 1), (2, 1), (3, 1)] := Plc.of (by kernel_rfl)
theorem T.t_struct__interface_p_abi_Type_concrete_p_abi_Type_asserted_p_abi_Type_missingMethod_string.i : Inf prog T.t_struct__interface_p_abi_Type_concrete_p_abi_Type_asserted_p_abi_Type_missingMethod_string 4 40 (.agg #[(.pointer none), (.pointer none), (.pointer none), (.string ⟨#[]⟩)]) := Inf.of (by kernel_rfl)
theorem T.t_runtime_TypeAssertionError.p : Plc prog T.t_runtime_TypeAssertionError [(0, 1), (1, 1), (2, 1), (3, 1)] := Plc.of (by kernel_rfl)
theorem T.t_runtime_TypeAssertionError.i : Inf prog T.t_runtime_TypeAssertionError 4 40 (.agg #[(.pointer none), (.pointer none), (.pointer none), (.string ⟨#[]⟩)]) := Inf.of (by kernel_rfl)
theorem T.t_arr0_p_runtime_PanicNilError.u : prog.underlying T.t_arr0_p_runtime_PanicNilError = some (.array 0 T.t_p_runtime_PanicNilError) := by kernel_rfl
theorem T.t_arr0_p_runtime_PanicNilError.i : Inf prog T.t_arr0_p_runtime_PanicNilError 0 0 (.agg #[]) := Inf.of (by kernel_rfl)
theorem T.t_struct___arr0_p_runtime_PanicNilError.p : Plc prog T.t_struct___arr0_p_runtime_PanicNilError [(0, 0)] := Plc.of (by kernel_rfl)
theorem T.t_struct___arr0_p_runtime_PanicNilError.i : Inf prog T.t_struct___arr0_p_runtime_PanicNilError 0 0 (.agg #[]) := Inf.of (by kernel_rfl)
theorem T.t_runtime_PanicNilError.p : Plc prog T.t_runtime_PanicNilError [(0, 0)] := Plc.of (by kernel_rfl)
theorem T.t_runtime_PanicNilError.i : Inf prog T.t_runtime_PanicNilError 0 0 (.agg #[]) := Inf.of (by kernel_rfl)
theorem T.t_abi_TFlag.u : prog.underlying T.t_abi_TFlag = some (.int .u8) := by kernel_rfl
theorem T.t_abi_TFlag.i : Inf prog T.t_abi_TFlag 1 1 (.int .u8 0) := Inf.of (by kernel_rfl)
theorem T.t_abi_Kind.u : prog.underlying T.t_abi_Kind = some (.int .u8) := by kernel_rfl
theorem T.t_abi_Kind.i : Inf prog T.t_abi_Kind 1 1 (.int .u8 0) := Inf.of (by kernel_rfl)
theorem T.t_func_unsafe_Pointer_unsafe_Pointer_bool.i : Inf prog T.t_func_unsafe_Pointer_unsafe_Pointer_bool 1 8 .nilFunc := Inf.of (by kernel_rfl)
theorem T.t_p_uint8.u : prog.underlying T.t_p_uint8 = some (.pointer T.t_uint8) := by kernel_rfl
theorem T.t_p_uint8.i : Inf prog T.t_p_uint8 1 8 (.pointer none) := Inf.of (by kernel_rfl)
theorem T.t_abi_NameOff.u : prog.underlying T.t_abi_NameOff = some (.int .i32) := by kernel_rfl
theorem T.t_abi_NameOff.i : Inf prog T.t_abi_NameOff 1 4 (.int .i32 0) := Inf.of (by kernel_rfl)
theorem T.t_abi_TypeOff.u : prog.underlying T.t_abi_TypeOff = some (.int .i32) := by kernel_rfl
theorem T.t_abi_TypeOff.i : Inf prog T.t_abi_TypeOff 1 4 (.int .i32 0) := Inf.of (by kernel_rfl)
theorem T.t_struct_Size__uintptr_PtrBytes_uintptr_Hash_uint32_TFlag_abi_TFlag_Align__uint8_FieldAlign__uint8_Kind__abi_Kind_Equal_func_unsafe_Pointer_unsafe_Pointer_bool_GCData_p_uint8_Str_abi_NameOff_PtrToThis_abi_TypeOff.p : Plc prog T.t_struct_Size__uintptr_PtrBytes_uintptr_Hash_uint32_TFlag_abi_TFlag_Align__uint8_FieldAlign__uint8_Kind__abi_Kind_Equal_func_unsafe_Pointer_unsafe_Pointer_bool_GCData_p_uint8_Str_abi_NameOff_PtrToThis_abi_TypeOff [(0, 1), (1, 1), (2, 1), (3, 1), (4, 1), (5, 1), (6, 1), (7, 1), (8, 1), (9, 1), (10, 1)] := Plc.of (by kernel_rfl)
theorem T.t_struct_Size__uintptr_PtrBytes_uintptr_Hash_uint32_TFlag_abi_TFlag_Align__uint8_FieldAlign__uint8_Kind__abi_Kind_Equal_func_unsafe_Pointer_unsafe_Pointer_bool_GCData_p_uint8_Str_abi_NameOff_PtrToThis_abi_TypeOff.i : Inf prog T.t_struct_Size__uintptr_PtrBytes_uintptr_Hash_uint32_TFlag_abi_TFlag_Align__uint8_FieldAlign__uint8_Kind__abi_Kind_Equal_func_unsafe_Pointer_unsafe_Pointer_bool_GCData_p_uint8_Str_abi_NameOff_PtrToThis_abi_TypeOff 11 48 (.agg #[(.int .u64 0), (.int .u64 0), (.int .u32 0), (.int .u8 0), (.int .u8 0), (.int .u8 0), (.int .u8 0), .nilFunc, (.pointer none), (.int .i32 0), (.int .i32 0)]) := Inf.of (by kernel_rfl)
theorem T.t_abi_Type.p : Plc prog T.t_abi_Type [(0, 1), (1, 1), (2, 1), (3, 1), (4, 1), (5, 1), (6, 1), (7, 1), (8, 1), (9, 1), (10, 1)] := Plc.of (by kernel_rfl)
theorem T.t_abi_Type.i : Inf prog T.t_abi_Type 11 48 (.agg #[(.int .u64 0), (.int .u64 0), (.int .u32 0), (.int .u8 0), (.int .u8 0), (.int .u8 0), (.int .u8 0), .nilFunc, (.pointer none), (.int .i32 0), (.int .i32 0)]) := Inf.of (by kernel_rfl)
theorem T.t_unsafe_Pointer.i : Inf prog T.t_unsafe_Pointer 1 8 (.pointer none) := Inf.of (by kernel_rfl)
end Go.Proofs.Ytahhkeljejfgfaa
