/-
  The numbers of the Go functions, printed by a program of this session (wip/gen.py).
-/
import Derived.Test.YtcahnbflfehonaaDenS
import Derived.Test.YtcahnbflfehonaaProg
namespace Go.Proofs.Ytcahnbflfehonaa
open Go Go.Proofs.Ytcahnbflfehonaa.Den

theorem mix : Try.prog.follows .mixedOrders = true := by kernel_rfl
abbrev k_main_main : Nat := 0
abbrev k_gosem_cut : Nat := 1
abbrev k_gosem_cut_init : Nat := 2
abbrev k_pinnacelaw20_PacketShort : Nat := 3
abbrev k_pinnacelaw20_PacketApart : Nat := 4
abbrev k_pinnacelaw20_awake : Nat := 5
abbrev k_pinnaceref18_Few : Nat := 6
abbrev k_pinnaceref18_Form : Nat := 7
abbrev k_packet_Seal : Nat := 8
abbrev k_pinnaceref10_Twins : Nat := 9
abbrev k_pinnaceref01_Same : Nat := 10
abbrev k_pinnacelaw20_few : Nat := 11
abbrev k_pinnaceref10_SameEnts : Nat := 12
abbrev k_pinnaceref03_Open : Nat := 13
abbrev k_pinnaceref07_Gen : Nat := 14
abbrev k_pinnaceref05_List : Nat := 15
abbrev k_pinnaceref05_Told : Nat := 16
abbrev k_packet_Check : Nat := 17
abbrev k_bits_New : Nat := 18
abbrev k_packet_writer_head : Nat := 19
abbrev k_packet_writer_keep : Nat := 20
abbrev k_snap_Form : Nat := 21
abbrev k_packet_writer_ents : Nat := 22
abbrev k_diff_Diff : Nat := 23
abbrev k_packet_writer_delta : Nat := 24
abbrev k_frame_Seal : Nat := 25
abbrev k_bits_Writer_Bytes : Nat := 26
abbrev k_pinnaceref05_Twin : Nat := 27
abbrev k_pinnaceref10_SameEnt : Nat := 28
abbrev k_pinnaceref03_Seal : Nat := 29
abbrev k_pinnaceref05_Check : Nat := 30
abbrev k_nums_PutIn : Nat := 31
abbrev k_nums_PutVar : Nat := 32
abbrev k_packet_writer_plain : Nat := 33
abbrev k_snap_one : Nat := 34
abbrev k_slices_ContainsFunc_Comp : Nat := 35
abbrev k_snap_secret : Nat := 36
abbrev k_packet_writer_count : Nat := 37
abbrev k_packet_writer_id : Nat := 38
abbrev k_schema_Mask : Nat := 39
abbrev k_packet_writer_comps : Nat := 40
abbrev k_slices_Clone_Comp : Nat := 41
abbrev k_diff_change : Nat := 42
abbrev k_diff_nothing : Nat := 43
abbrev k_comp_PutStep : Nat := 44
abbrev k_packet_old : Nat := 45
abbrev k_bytes_Clone : Nat := 46
abbrev k_frame_tail : Nat := 47
abbrev k_frame_Sum : Nat := 48
abbrev k_pinnaceref05_Same : Nat := 49
abbrev k_pinnaceref03_Sum : Nat := 50
abbrev k_pinnaceref05_Count : Nat := 51
abbrev k_pinnaceref05_Range : Nat := 52
abbrev k_bits_Writer_Put : Nat := 53
abbrev k_nums_Width : Nat := 54
abbrev k_nums_groups : Nat := 55
abbrev k_bits_Writer_Len : Nat := 56
abbrev k_slots_Gen : Nat := 57
abbrev k_schema_List : Nat := 58
abbrev k_slices_IndexFunc_Comp : Nat := 59
abbrev k_schema_Told : Nat := 60
abbrev k_comp_Put : Nat := 61
abbrev k_diff_find : Nat := 62
abbrev k_comp_pair : Nat := 63
abbrev k_comp_put : Nat := 64
abbrev k_comp_step : Nat := 65
abbrev k_snap_Find : Nat := 66
abbrev k_frame_step : Nat := 67
abbrev k_pinnaceref01_Bits : Nat := 68
abbrev k_math_bits_Len64 : Nat := 69
abbrev k_schema_Check : Nat := 70
abbrev k_schema_of : Nat := 71
abbrev k_comp_whole : Nat := 72
abbrev k_diff_find_c1 : Nat := 73
abbrev k_comp_size : Nat := 74
abbrev k_schema_Count : Nat := 75
abbrev k_comp_more : Nat := 76
abbrev k_comp_field : Nat := 77
abbrev k_slices_BinarySearchFunc_Ent : Nat := 78
abbrev k_snap_Find_c1 : Nat := 79
abbrev k_cmp_Compare_ID : Nat := 80
abbrev k_nums_Zig : Nat := 81
abbrev k_schema_Range : Nat := 82
abbrev k_cmp_isNaN_ID : Nat := 83
abbrev k_schema_at : Nat := 84
abbrev k_runtime_boundsError_Error : Nat := 85
abbrev k_runtime_boundsError_RuntimeError : Nat := 86
abbrev k_runtime_errorString_Error : Nat := 87
abbrev k_runtime_errorString_RuntimeError : Nat := 88
abbrev k_runtime_plainError_Error : Nat := 89
abbrev k_runtime_plainError_RuntimeError : Nat := 90
abbrev k_runtime_errorAddressString_Error : Nat := 91
abbrev k_runtime_errorAddressString_RuntimeError : Nat := 92
abbrev k_runtime_TypeAssertionError_Error : Nat := 93
abbrev k_runtime_TypeAssertionError_RuntimeError : Nat := 94
abbrev k_runtime_PanicNilError_Error : Nat := 95
abbrev k_runtime_PanicNilError_RuntimeError : Nat := 96
abbrev k_internal_abi_Type_Align : Nat := 97
abbrev k_internal_runtime_maps_unhashableTypeError_Error : Nat := 98
abbrev k_internal_runtime_maps_unhashableTypeError_RuntimeError : Nat := 99
abbrev k_internal_abi_Kind_String : Nat := 100

end Go.Proofs.Ytcahnbflfehonaa
