/-
  The compiled bodies of the functions of this seat, as the kernel reckons them (written by a program of this place).
-/
import Derived.Test.YtllfcbacpoaphaaA31
import Derived.Test.YtllfcbacpoaphaaProg
import Derived.KernelRfl
set_option maxRecDepth 100000
namespace Go.Proofs.Ytllfcbacpoaphaa
open Go Go.Abs
def F_law16_KnapFits : Nat:=5
def F_law16_tame : Nat:=10
def F_law16_items : Nat:=11
def F_knap_Relax : Nat:=12
def F_law16_equal : Nat:=14
def F_knap_Order : Nat:=15
def F_law16_wakes : Nat:=17
def F_knap_Greedy : Nat:=18
def F_ratio_Make : Nat:=22
def F_law16_tame_1 : Nat:=25
def F_knap_may : Nat:=26
def F_ratio_Of : Nat:=27
def F_slices_SortStableFunc_Lint_int : Nat:=31
def F_knap_Order_1 : Nat:=32
def F_knap_worth : Nat:=33
def F_slices_Sort_Lint_int : Nat:=35
def F_num_Gcd : Nat:=37
def F_ratio_least : Nat:=38
def F_ratio_exact : Nat:=39
def F_knap_may_1 : Nat:=44
def F_knap_within : Nat:=45
def F_slices_ContainsFunc_Linst_Item_inst_Item : Nat:=46
def F_slices_stableCmpFunc_int : Nat:=55
def F_knap_worth_1 : Nat:=56
def F_cmp_Compare_int : Nat:=57
def F_num_Cross : Nat:=58
def F_slices_pdqsortOrdered_int : Nat:=59
def F_bits_Len : Nat:=60
def F_num_size : Nat:=63
def F_num_short : Nat:=64
def F_num_Floor : Nat:=65
def F_num_normal : Nat:=69
def F_num_add : Nat:=70
def F_num_of : Nat:=71
def F_slices_IndexFunc_Linst_Item_inst_Item : Nat:=72
def F_slices_insertionSortCmpFunc_int : Nat:=74
def F_slices_symMergeCmpFunc_int : Nat:=75
def F_cmp_isNaN_int : Nat:=76
def F_num_times : Nat:=77
def F_num_distance : Nat:=78
def F_slices_insertionSortOrdered_int : Nat:=79
def F_slices_heapSortOrdered_int : Nat:=80
def F_slices_breakPatternsOrdered_int : Nat:=81
def F_slices_choosePivotOrdered_int : Nat:=82
def F_slices_reverseRangeOrdered_int : Nat:=83
def F_slices_partialInsertionSortOrdered_int : Nat:=84
def F_cmp_Less_int : Nat:=85
def F_slices_partitionEqualOrdered_int : Nat:=86
def F_slices_partitionOrdered_int : Nat:=87
def F_bits_Len32 : Nat:=88
def F_bits_Len64 : Nat:=89
def F_num_divided : Nat:=90
def F_num_plus : Nat:=92
def F_num_less : Nat:=93
def F_slices_rotateCmpFunc_int : Nat:=94
def F_bits_Mul64 : Nat:=95
def F_cmp_Or_int : Nat:=96
def F_cmp_Compare_uint64 : Nat:=97
def F_slices_siftDownOrdered_int : Nat:=98
def F_slices_nextPowerOfTwo : Nat:=99
def F_slices_xorshift_Next : Nat:=100
def F_slices_medianAdjacentOrdered_int : Nat:=101
def F_slices_medianOrdered_int : Nat:=102
def F_bits_Add64 : Nat:=103
def F_bits_Sub64 : Nat:=104
def F_slices_swapRangeCmpFunc_int : Nat:=105
def F_cmp_isNaN_uint64 : Nat:=106
def F_slices_order2Ordered_int : Nat:=107
def T_int : Nat:=3
def T_bool : Nat:=4
def T_Linst_Item : Nat:=25
def T_ratio_Ratio : Nat:=29
def T_inst_Item : Nat:=44
def T_2_int64 : Nat:=51
def T_num_wide : Nat:=99
def T_slices_xorshift : Nat:=131
def str_0 : ByteArray:=⟨#[0,1,2,2,3,3,3,3,4,4,4,4,4,4,4,4,5,5,5,5,5,5,5,5,5,5,5,5,5,5,5,5,6,6,6,6,6,6,6,6,6,6,6,6,6,6,6,6,6,6,6,6,6,6,6,6,6,6,6,6,6,6,6,6,7,7,7,7,7,7,7,7,7,7,7,7,7,7,7,7,7,7,7,7,7,7,7,7,7,7,7,7,7,7,7,7,7,7,7,7,7,7,7,7,7,7,7,7,7,7,7,7,7,7,7,7,7,7,7,7,7,7,7,7,7,7,7,7,8,8,8,8,8,8,8,8,8,8,8,8,8,8,8,8,8,8,8,8,8,8,8,8,8,8,8,8,8,8,8,8,8,8,8,8,8,8,8,8,8,8,8,8,8,8,8,8,8,8,8,8,8,8,8,8,8,8,8,8,8,8,8,8,8,8,8,8,8,8,8,8,8,8,8,8,8,8,8,8,8,8,8,8,8,8,8,8,8,8,8,8,8,8,8,8,8,8,8,8,8,8,8,8,8,8,8,8,8,8,8,8,8,8,8,8,8,8,8,8,8,8,8,8,8,8,8,8]⟩
theorem mixed : Try.prog.follows .mixedOrders = true:=by kernel_rfl
end Go.Proofs.Ytllfcbacpoaphaa
